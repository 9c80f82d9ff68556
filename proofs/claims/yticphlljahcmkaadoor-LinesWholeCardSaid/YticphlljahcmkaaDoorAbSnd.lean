/- One text of a proof that a law of this seat says true for every input: an evaluator of code over data, and that it tells the truth. It holds of the given program under the conditions that the row prints. -/
import Derived.Test.YticphlljahcmkaaDoorAbAny
import Derived.Scope
set_option linter.unusedVariables false
namespace Go.Ab

section
variable {P : Program} {T : Ctx} (hT : TOk P T) {E : Abs} (hE : ∀ f, Pure P T f (E f))
include hT hE

theorem code_sound {R : Type} {N X : Mut} {w0 : World} {r : R} (kp fr : Nat → List Nat) (n : Nat) : ∀ (c : Code) (κ : Ex → St → Option R) (Q : Exit → Act → World → Prop) (γ : Gam) (w : World) (s : St) (a : Act),
    drawsOk fr c = true → SR T N w0 X γ w s a → codeK T E kp fr n c s κ = some r → (∀ e γ' w' s' a', SR T N w0 X γ' w' s' a' → κ e s' = some r → Q e.to a' w') → c.wp P Q a w
  | .skip, κ, Q, γ, w, s, a, hd, h, hk, hn => by
    simp only [codeK] at hk
    exact wp_skip (hn .normal γ w s a h hk)
  | .label l, κ, Q, γ, w, s, a, hd, h, hk, hn => by
    simp only [codeK] at hk
    exact wp_label (hn .normal γ w s a h hk)
  | .region id ops false, κ, Q, γ, w, s, a, hd, h, hk, hn => by
    simp only [codeK] at hk
    refine wp_region ?_
    have := opsK_sound hT hE (κ := κ .normal) (Q := Q) (fun γ' w' s' a' h' hk' => hn .normal γ' w' s' a' h' hk') ops.toList 0 γ w s a (by simp) h hk
    rw [List.range_eq_range']
    simpa using this
  | .region id ops true, κ, Q, γ, w, s, a, hd, h, hk, hn => by
    simp only [codeK] at hk
    simp only [drawsOk] at hd
    exact draw_sound hT hE hd (κ := κ .normal) (fun γ' w' s' a' h' hk' => hn .normal γ' w' s' a' h' hk') h hk
  | .seq x y, κ, Q, γ, w, s, a, hd, h, hk, hn => by
    simp only [codeK] at hk
    simp only [drawsOk, Bool.and_eq_true] at hd
    refine wp_seq (code_sound kp fr n x _ _ γ w s a hd.1 h hk fun e γ' w' s' a' h' hk' => ?_)
    cases e with
    | normal => exact code_sound kp fr n y _ _ γ' w' s' a' hd.2 h' hk' hn
    | exit i => exact hn (.exit i) γ' w' s' a' h' hk'
    | ret => exact hn .ret γ' w' s' a' h' hk'
  | .cond c x y, κ, Q, γ, w, s, a, hd, h, hk, hn => by
    simp only [codeK] at hk
    simp only [drawsOk, Bool.and_eq_true] at hd
    split at hk
    · rename_i t hc
      have hcv := h.get c
      rw [hc] at hcv
      simp only [RV, Rd] at hcv
      cases t with
      | true => exact wp_cond_true hcv (code_sound kp fr n x _ _ γ w s a hd.1 h hk hn)
      | false => exact wp_cond_false hcv (code_sound kp fr n y _ _ γ w s a hd.2 h hk hn)
    · simp at hk
  | .block id c, κ, Q, γ, w, s, a, hd, h, hk, hn => by
    simp only [codeK] at hk
    refine wp_block (code_sound kp fr n c _ _ γ w s a (by simpa only [drawsOk] using hd) h hk fun e γ' w' s' a' h' hk' => ?_)
    cases e with
    | normal => exact hn .normal γ' w' s' a' h' hk'
    | exit i =>
      simp only [Ex.to, Exit.inBlock]
      simp only at hk'
      split at hk'
      · rename_i e
        rw [if_pos e]
        exact hn .normal γ' w' s' a' h' hk'
      · rename_i e
        rw [if_neg e]
        exact hn (.exit i) γ' w' s' a' h' hk'
    | ret => exact hn .ret γ' w' s' a' h' hk'
  | .loop c, κ, Q, γ, w, s, a, hd, h, hk, hn => by
    simp only [codeK] at hk
    refine wp_loop_rounds n (iter_sound (c := c) (fun κ' Q' γ w s a h hk hn => ?_) hn n γ w s a h hk)
    obtain ⟨s', h', hk'⟩ := h.keep _ hk
    exact code_sound kp fr n c _ _ γ w s' a (by simpa only [drawsOk] using hd) h' hk' hn
  | .scope c, κ, Q, γ, w, s, a, hd, h, hk, hn => by
    simp only [codeK] at hk
    refine wp_scope_straight (code_sound kp fr n c _ _ γ w s a (by simpa only [drawsOk] using hd) h hk fun e γ' w' s' a' h' hk' => ?_)
    have := hn e γ' w' s' a' h' hk'
    cases e <;> exact this
  | .exit i, κ, Q, γ, w, s, a, hd, h, hk, hn => by
    simp only [codeK] at hk
    exact wp_exit (hn (.exit i) γ w s a h hk)
  | .ret, κ, Q, γ, w, s, a, hd, h, hk, hn => by
    simp only [codeK] at hk
    exact wp_ret (hn .ret γ w s a h hk)
  | .rangeFunc .., κ, Q, γ, w, s, a, hd, h, hk, hn => by simp [codeK] at hk
  | .goto l, κ, Q, γ, w, s, a, hd, h, hk, hn => by simp [codeK] at hk
  | .refuse why, κ, Q, γ, w, s, a, hd, h, hk, hn => by simp [codeK] at hk

end

section
variable {P : Program} {T : Ctx} (hT : TOk P T) {E : Abs} (hE : ∀ f, Pure P T f (E f))

theorem resD_ok {N X : Mut} {w0 w : World} {γ : Gam} {s : St} {a : Act} (h : SR T N w0 X γ w s a) {x : AV} {u : Value} {d : D} (hx : RV γ s.o (all γ N s.o) w x u) (hd : resD s x = some d) : Rd N w d u := by
  have hk : Keep (all γ N s.o) N w w := (Chg.refl (fun _ _ => False) w).keep (fun _ _ hf => hf.elim) fun b i _ hm => .inl hm
  unfold resD at hd
  split at hd
  · rename_i i off
    simp only [RV] at hx
    obtain ⟨b, hb, rfl⟩ := hx
    split at hd
    · rename_i cs hl
      split at hd
      · rename_i ds hds
        split at hd
        · rename_i hcell
          simp only [Option.some.injEq] at hd
          subst hd
          obtain ⟨b', arr, ty, hb', hh, hvs⟩ := h.inv.obs _ (lookup_mem hl)
          have hbb : b' = b := by
            have : some b' = some b := by rw [← hb', hb]
            injection this
          subst hbb
          have hrd := datas_ok h.inv _ _ _ (RVL_drop off hvs) hds
          simp only [Rd]
          refine ⟨_, rfl, ?_⟩
          have h1 := RdC_of N w hh (fun j => h.inv.sep _ (lookup_mem hl) b' hb j) ds (arr.toList.drop off) off (RdL.keep hk _ _ hrd) (by simpa using hcell) fun i u hi => by simpa [List.getElem?_drop] using hi
          have h2 := (RdC_shift N w ds ⟨b', 0, none⟩ off 0).2 (by simpa using h1)
          simpa [add_plain] using h2
        · simp at hd
      · simp at hd
    · simp at hd
  · exact Rd.keep hk _ _ (data_ok h.inv _ _ _ hx hd)

def resOne (tmps : Array Value) : ResultVar → Sem Value
  | .tmp t => pure (tmps.getD t undef)
  | .cell b t => do loadVar t (← asAddr (tmps.getD b undef))
theorem results_eq (fn : Func) (tmps : Array Value) : results fn tmps = (fn.results.mapM (resOne tmps)) >>= fun vs => pure (if h : vs.size = 1 then vs[0] else .tuple vs) := by
  unfold results
  congr 1

include hT in
theorem resK_ok {N X : Mut} {w0 w : World} {γ : Gam} {s : St} {a : Act} (h : SR T N w0 X γ w s a) : ∀ (vs : List ResultVar) (ds : List D), resK T s vs = some ds → ∃ us : List Value, RdL N w ds us ∧
    (vs.mapM (resOne a.tmps)).run P w = .ok us w
  | [], ds, hk => by
    simp only [resK, Option.some.injEq] at hk
    subst hk
    exact ⟨[], by simp [RdL], by simp⟩
  | .tmp t :: r, ds, hk => by
    simp only [resK] at hk
    split at hk
    · rename_i x xs hx hxs
      simp only [Option.some.injEq] at hk
      subst hk
      obtain ⟨us, h1, h2⟩ := resK_ok h r xs hxs
      have hg := h.get (.tmp t)
      simp only [St.get, Act.eval] at hg
      refine ⟨a.tmps.getD t undef :: us, ?_, ?_⟩
      · simp only [RdL]
        exact ⟨_, _, rfl, resD_ok h hg hx, h1⟩
      · rw [List.mapM_cons]
        simp only [Sem.run_bind, resOne, Sem.run_pure, Result.andThen_ok, h2]
    · simp at hk
  | .cell b t :: r, ds, hk => by
    simp only [resK] at hk
    split at hk
    · rename_i i off hb
      split at hk
      · rename_i cs hl
        split at hk
        · rename_i hfit
          split at hk
          · rename_i x xs hx hxs
            simp only [Option.some.injEq] at hk
            subst hk
            obtain ⟨us, h1, h2⟩ := resK_ok h r xs hxs
            have hg := h.get (.tmp b)
            simp only [St.get, Act.eval] at hg
            rw [hb] at hg
            simp only [RV] at hg
            obtain ⟨bl, hbl, he⟩ := hg
            obtain ⟨b', arr, ty, hb', hh, hvs⟩ := h.inv.obs _ (lookup_mem hl)
            have hbb : b' = bl := by
              have : some b' = some bl := by rw [← hb', hbl]
              injection this
            subst hbb
            have hlen : arr.toList.length = cs.length := RVL_length hvs
            have hsub := RVL_take (T.sz t) (RVL_drop off hvs)
            have hto := td_ok hfit.2.2
            have hrun := run_loadVar hT w hto hfit.2.1 ⟨b', off, none⟩ ((arr.toList.drop off).take (T.sz t)) (by simp at hlen ⊢; omega) fun j u hu => by
              rw [add_plain]
              simp only [World.cell?, hh]
              rw [List.getElem?_take] at hu
              split at hu
              · simpa [List.getElem?_drop] using hu
              · simp at hu
            refine ⟨(if (T.td t).agg = true then .agg ((arr.toList.drop off).take (T.sz t)).toArray else ((arr.toList.drop off).take (T.sz t)).headD undef) :: us, ?_, ?_⟩
            · simp only [RdL]
              exact ⟨_, _, rfl, resD_ok h (valA_ok hfit.2.1 hsub (by simp; omega)) hx, h1⟩
            · rw [List.mapM_cons]
              simp only [Sem.run_bind, resOne, he, asAddr, Sem.run_pure, Result.andThen_ok, hrun, h2]
          · simp at hk
        · simp at hk
      · simp at hk
    · simp at hk

include hT hE

/-- THE EVALUATOR IS SOUND: what it gives for data is what the function gives. -/
theorem fn_sound {f : FuncId} {fn : Func} (kp fr : Nat → List Nat) (n : Nat) (hf : P.funcs[f]? = some fn) (hname : (fn.name == "runtime.NumGoroutine") = false) (hdr : ∀ c, fn.body = some c → drawsOk fr c = true) : Pure P T f (fnK T E kp fr n fn) := by
  intro ds rs hk
  unfold fnK at hk
  split at hk
  · rename_i c hc
    refine ⟨⟨fn, hf, hname, by rw [hc]; rfl⟩, fun N w vs hN hG hv => ?_⟩
    refine calls_of_wp hf hc ?_
    have hall : ∀ (γ : Gam) b i, all γ N [] b i ↔ N b i := by
      intro γ b i
      constructor
      · rintro (hm | ⟨p, hp, _⟩)
        · exact hm
        · simp at hp
      · exact .inl
    have hk0 : Keep N (all (fun _ => ⟨none, 0, .slice none 0 0⟩) N []) w w := ⟨fun _ _ _ h _ => h, fun b i _ hm hm' => hm ((hall _ b i).1 hm'), fun _ _ _ => rfl⟩
    have hinit : SR T N w (fun _ _ => False) (fun _ => ⟨none, 0, .slice none 0 0⟩) w { t := ds.map .d ++ List.replicate (fn.ntmps - ds.length) (.d (.v undef)), o := [] } { tmps := vs.toArray ++ Array.replicate (fn.ntmps - vs.toArray.size) undef, defers := [] } := by
      refine ⟨⟨by simp, by simp, by simp, hN, by simp⟩, ?_, rfl, Chg.refl _ w, ?_, fun g cs hg => RdC.keep hk0 _ _ _ (hG g cs hg)⟩
      · have hlen := RdL_length hv
        have h1 : ∀ (xs ys : List AV) (us us' : List Value), RVL (fun _ => ⟨none, 0, .slice none 0 0⟩) [] (all (fun _ => ⟨none, 0, .slice none 0 0⟩) N []) w xs us → RVL (fun _ => ⟨none, 0, .slice none 0 0⟩) [] (all (fun _ => ⟨none, 0, .slice none 0 0⟩) N []) w ys us' → RVL (fun _ => ⟨none, 0, .slice none 0 0⟩) [] (all (fun _ => ⟨none, 0, .slice none 0 0⟩) N []) w (xs ++ ys) (us ++ us') := by
          intro xs
          induction xs with
          | nil =>
            intro ys us us' h1 h2
            simp only [RVL] at h1
            subst h1
            simpa using h2
          | cons x xs ih =>
            intro ys us us' h1 h2
            simp only [RVL] at h1
            obtain ⟨u, us0, rfl, h3, h4⟩ := h1
            simp only [List.cons_append, RVL]
            exact ⟨_, _, rfl, h3, ih ys us0 us' h4 h2⟩
        have h2 : ∀ k, RVL (fun _ => ⟨none, 0, .slice none 0 0⟩) [] (all (fun _ => ⟨none, 0, .slice none 0 0⟩) N []) w (List.replicate k (.d (.v undef))) (List.replicate k undef) := by
          intro k
          induction k with
          | zero => simp [RVL]
          | succ k ih =>
            simp only [List.replicate_succ, RVL]
            exact ⟨_, _, rfl, by simp only [RV, Rd], ih⟩
        have h3 := h1 _ _ _ _ (RVL_data.2 (RdL.keep hk0 _ _ hv)) (h2 (fn.ntmps - ds.length))
        have e : (vs.toArray ++ Array.replicate (fn.ntmps - vs.toArray.size) undef).toList = vs ++ List.replicate (fn.ntmps - ds.length) undef := by
          simp [hlen]
        rw [e]
        exact h3
      · rintro b i ⟨p, hp, _⟩
        simp at hp
    refine code_sound hT hE kp fr n c _ _ _ w _ _ (hdr c hc) hinit hk fun e γ' w' s' a' h' hk' => ?_
    have fin : resK T s' fn.results.toList = some rs → a'.defers = [] ∧ ∃ v, (results fn a'.tmps).run P w' = .ok v w' ∧ ∃ us, RdL N w' rs us ∧ Ending.returned v = .returned (pack us) ∧ Chg (fun _ _ => False) w w' := by
      intro hres
      obtain ⟨us, h1, h2⟩ := resK_ok (P := P) hT h' _ _ hres
      refine ⟨h'.defers, pack us, ?_, us, h1, rfl, h'.chg⟩
      rw [results_eq, Array.mapM_eq_mapM_toList]
      simp only [Sem.run_bind, Sem.run_map, h2, Result.andThen_ok, Sem.run_pure]
      congr 1
      match us with
      | [] => rfl
      | [u] => rfl
      | u :: v :: us => simp [pack]
    cases e with
    | normal => exact fin hk'
    | exit i => simp at hk'
    | ret => exact fin hk'
  · simp at hk

end
end Go.Ab
