/- One text of a proof that a law of this seat says true for every input: an evaluator of code over data, and that it tells the truth. It holds of the given program under the conditions that the row prints. -/
import Derived.Test.YticphlljahcmkaaDoorAbGrow
set_option linter.unusedVariables false
namespace Go.Ab

theorem RdC_of (M : Mut) (w : World) {b : Nat} {arr : Array Value} {ty : TypeId} {fz : Nat × Nat} (hh : w.heap[b]? = some (.cells arr ty fz)) (hm : ∀ j, ¬ M b j) :
    ∀ (ds : List D) (us : List Value) (j : Nat), RdL M w ds us → (∀ d ∈ ds, d.cell = true) → (∀ i u, us[i]? = some u → arr[j + i]? = some u) → RdC M w ds ⟨b, 0, none⟩ j
  | [], us, j, _, _, _ => by simp only [RdC]
  | d :: ds, us, j, h, hc, hat => by
    simp only [RdL] at h
    obtain ⟨u, us', rfl, h1, h2⟩ := h
    simp only [RdC, add_plain, Nat.zero_add]
    refine ⟨⟨hc d (by simp), u, ?_, hm j, h1⟩, RdC_of M w hh hm ds us' (j + 1) h2 (fun e he => hc e (by simp [he])) fun i v hi => ?_⟩
    · simp only [World.cell?, hh]
      simpa using hat 0 u (by simp)
    · rw [show j + 1 + i = j + (i + 1) from by omega]
      exact hat (i + 1) v (by simpa using hi)

/-- A box that is written no more: whoever points to it points to data. -/
theorem SR.ice {T : Ctx} {N : Mut} {w0 : World} {X : Mut} {γ : Gam} {w : World} {s : St} {a : Act} (h : SR T N w0 X γ w s a) {id : Id} {cs : List AV} {ds : List D} (hl : lookup id s.o = some (.box cs)) (hds : datas s.o cs = some ds) (hc : ∀ d ∈ ds, d.cell = true) :
    SR T N w0 X γ w (s.ice id ds) a ∧ ∀ b, (γ id).b = some b → RdC (all γ N (s.ice id ds).o) w ds ⟨b, 0, none⟩ 0 := by
  have hmem := lookup_mem hl
  obtain ⟨b, arr, ty, hb, hh, hv⟩ := h.inv.obs _ hmem
  have hrd := datas_ok h.inv _ _ _ hv hds
  have hsub : ∀ p ∈ subO .own (iceR id ds) (erase id s.o), p.1 ≠ id ∧ ∃ q ∈ s.o, q.1 = p.1 ∧ p.2 = q.2.sub .own (iceR id ds) := by
    intro p hp
    rw [subO_eq] at hp
    obtain ⟨q, hq, rfl⟩ := List.mem_map.1 hp
    exact ⟨(erase_sub hq).2, q, (erase_sub hq).1, rfl, rfl⟩
  have hown : ∀ n i, own γ (subO .own (iceR id ds) (erase id s.o)) n i → n ≠ b ∧ own γ s.o n i := by
    rintro n i ⟨p, hp, hpb, hm⟩
    obtain ⟨hne, q, hq, e, e2⟩ := hsub p hp
    rw [← e] at hpb
    rw [e2, Ob.sub_may] at hm
    refine ⟨?_, q, hq, hpb, hm⟩
    rintro rfl
    exact hne (by rw [← e]; exact h.inv.apart q hq _ hmem n hpb hb)
  have hfree : ∀ j, ¬ all γ N (subO .own (iceR id ds) (erase id s.o)) b j := by
    rintro j (hm | hm)
    · exact h.inv.sep _ hmem b hb j hm
    · exact (hown b j hm).1 rfl
  have hrow : (∀ x u, Rd (all γ N s.o) w x u → Rd (all γ N (subO .own (iceR id ds) (erase id s.o))) w x u) → RdC (all γ N (subO .own (iceR id ds) (erase id s.o))) w ds ⟨b, 0, none⟩ 0 := by
    intro hd
    have hrd' : RdL (all γ N (subO .own (iceR id ds) (erase id s.o))) w ds arr.toList := by
      rw [RdL_iff] at hrd ⊢
      exact ⟨hrd.1, fun i d u h1 h2 => hd d u (hrd.2 i d u h1 h2)⟩
    exact RdC_of _ w hh hfree ds arr.toList 0 hrd' hc fun i u hi => by simpa using hi
  have ho : ∀ M', ∀ k u, RV γ s.o (all γ N s.o) w (.own k) u → RV γ (subO .own (iceR id ds) (erase id s.o)) M' w (.own k) u := by
    intro M' k u hv'
    simp only [RV] at hv' ⊢
    obtain ⟨n, xs, hlk, e⟩ := hv'
    refine ⟨n, xs, ?_, e⟩
    have hne : k ≠ id := by
      rintro rfl
      rw [hl] at hlk
      simp at hlk
    rw [lookup_subO, lookup_erase hne, hlk]
    rfl
  have hr : (∀ x u, Rd (all γ N s.o) w x u → Rd (all γ N (subO .own (iceR id ds) (erase id s.o))) w x u) → ∀ i off u, RV γ s.o (all γ N s.o) w (.ref i off) u → RV γ (subO .own (iceR id ds) (erase id s.o)) (all γ N (subO .own (iceR id ds) (erase id s.o))) w (iceR id ds i off) u := by
    intro hd i off u hv'
    by_cases e : i = id
    · subst e
      simp only [iceR, if_true]
      split
      · rename_i hle
        simp only [RV, Rd] at hv' ⊢
        obtain ⟨b', hb', rfl⟩ := hv'
        have : b' = b := by
          rw [hb] at hb'
          injection hb' with hb'
          exact hb'.symm
        subst this
        refine ⟨_, rfl, ?_⟩
        have h3 := RdC_drop _ w ds ⟨b', 0, none⟩ 0 off hle (hrow hd)
        have h4 := (RdC_shift _ w (ds.drop off) ⟨b', 0, none⟩ off 0).2 (by simpa using h3)
        simpa [add_plain] using h4
      · simp only [RV]
    · simp only [iceR, if_neg e]
      simpa only [RV] using hv'
  have hcore := h.core (γ' := γ) (w' := w) (o' := subO .own (iceR id ds) (erase id s.o)) (fo := .own) (fr := iceR id ds) (Chg.refl (fun _ _ => False) w) (fun _ _ hf => hf.elim) (fun n i _ hm => (hown n i hm).2) (fun _ => ho _) hr fun hk => ⟨?_, ?_, ?_, h.inv.old, ?_⟩
  · refine ⟨hcore, fun b' hb' => ?_⟩
    have : b' = b := by
      rw [hb] at hb'
      injection hb' with hb'
      exact hb'.symm
    subst this
    refine hrow fun x u => Rd.keep ?_ x u
    refine (Chg.refl (fun _ _ => False) w).keep (fun _ _ hf => hf.elim) ?_
    rintro n i _ (hm | hm)
    · exact .inl hm
    · exact .inr (hown n i hm).2
  · rw [subO_keys]
    exact erase_nodup h.inv.keys
  · intro p hp q hq n hpn hqn
    obtain ⟨hne, p', hp', e, _⟩ := hsub p hp
    obtain ⟨hne', q', hq', e', _⟩ := hsub q hq
    rw [← e, ← e']
    exact h.inv.apart p' hp' q' hq' n (by rw [e]; exact hpn) (by rw [e']; exact hqn)
  · intro p hp n hpn i hn
    obtain ⟨hne, q, hq, e, _⟩ := hsub p hp
    exact h.inv.sep q hq n (by rw [e]; exact hpn) i hn
  · intro p hp
    obtain ⟨hne, q, hq, e, e2⟩ := hsub p hp
    rw [e2, ← e]
    exact RO.sub hk q.1 q.2 rfl (fun _ _ => rfl) (ho _) (hr fun x u => Rd.keep hk x u) (h.inv.obs q hq)

/-! ### forgetting -/
theorem lookup_pickO (ids : List Id) (k : Id) (h : k.1 = 0 ∨ ids.contains k = true) : ∀ o : Obs, lookup k (pickO ids o) = lookup k o
  | [] => rfl
  | (j, x) :: r => by
    simp only [pickO]
    split
    · simp only [lookup, lookup_pickO ids k h r]
    · rename_i hne
      have : j ≠ k := by
        rintro rfl
        exact hne h
      simp only [lookup, if_neg this, lookup_pickO ids k h r]
theorem mem_pickO {ids : List Id} {p : Id × Ob} : ∀ {o : Obs}, p ∈ pickO ids o → p ∈ o
  | [], h => by simp [pickO] at h
  | (j, x) :: r, h => by
    simp only [pickO] at h
    split at h
    · rcases List.mem_cons.1 h with rfl | h
      · simp
      · exact List.mem_cons_of_mem _ (mem_pickO h)
    · exact List.mem_cons_of_mem _ (mem_pickO h)
theorem pickO_nodup {ids : List Id} : ∀ {o : Obs}, (o.map (·.1)).Nodup → ((pickO ids o).map (·.1)).Nodup
  | [], h => by simp [pickO]
  | (j, x) :: r, h => by
    simp only [List.map_cons, List.nodup_cons] at h
    simp only [pickO]
    split
    · simp only [List.map_cons, List.nodup_cons]
      refine ⟨fun hm => h.1 ?_, pickO_nodup h.2⟩
      obtain ⟨p, hp, e⟩ := List.mem_map.1 hm
      exact List.mem_map.2 ⟨p, mem_pickO hp, e⟩
    · exact pickO_nodup h.2
mutual
theorem RV.pick {γ : Gam} {o o' : Obs} {M M' : Mut} {w : World} (hd : ∀ x u, Rd M w x u → Rd M' w x u) : ∀ (v : AV) (u : Value), (∀ k ∈ v.ids, lookup k o' = lookup k o) → RV γ o M w v u → RV γ o' M' w v u
  | .d x, u, _, h => by
    simp only [RV] at h ⊢
    exact hd x u h
  | .own k, u, hi, h => by
    simp only [RV] at h ⊢
    rw [hi k (by simp [AV.ids])]
    exact h
  | .tight n xs, u, _, h => by
    simp only [RV] at h ⊢
    exact ⟨hd _ u h.1, h.2⟩
  | .ref i off, u, _, h => by simpa only [RV] using h
  | .agg cs, u, hi, h => by
    simp only [RV] at h ⊢
    obtain ⟨us, e, h⟩ := h
    exact ⟨us, e, RVL.pick hd cs us (by simpa only [AV.ids] using hi) h⟩
  | .tup cs, u, hi, h => by
    simp only [RV] at h ⊢
    obtain ⟨us, e, h⟩ := h
    exact ⟨us, e, RVL.pick hd cs us (by simpa only [AV.ids] using hi) h⟩
  | .clo f as bs, u, hi, h => by
    simp only [RV] at h ⊢
    obtain ⟨xs, ys, e, h1, h2⟩ := h
    simp only [AV.ids, List.mem_append] at hi
    exact ⟨xs, ys, e, RVL.pick hd as xs (fun k hk => hi k (.inl hk)) h1, RVL.pick hd bs ys (fun k hk => hi k (.inr hk)) h2⟩
  | .undef, u, _, h => by simp only [RV]
theorem RVL.pick {γ : Gam} {o o' : Obs} {M M' : Mut} {w : World} (hd : ∀ x u, Rd M w x u → Rd M' w x u) : ∀ (vs : List AV) (us : List Value), (∀ k ∈ idsL vs, lookup k o' = lookup k o) → RVL γ o M w vs us → RVL γ o' M' w vs us
  | [], us, _, h => by simpa only [RVL] using h
  | v :: vs, us, hi, h => by
    simp only [RVL] at h ⊢
    obtain ⟨u, us', e, h1, h2⟩ := h
    simp only [idsL, List.mem_append] at hi
    exact ⟨u, us', e, RV.pick hd v u (fun k hk => hi k (.inl hk)) h1, RVL.pick hd vs us' (fun k hk => hi k (.inr hk)) h2⟩
end
theorem RVL_keepT {γ : Gam} {o : Obs} {M : Mut} {w : World} (ks : List Nat) : ∀ (vs : List AV) (us : List Value) (i : Nat), RVL γ o M w vs us → RVL γ o M w (keepT ks i vs) us
  | [], us, i, h => by simpa only [RVL, keepT] using h
  | v :: vs, us, i, h => by
    simp only [RVL, keepT] at h ⊢
    obtain ⟨u, us', e, h1, h2⟩ := h
    refine ⟨u, us', e, ?_, RVL_keepT ks vs us' (i + 1) h2⟩
    split
    · exact h1
    · simp only [RV]
theorem closedO_ok {ids : List Id} {id : Id} {cs : List AV} : ∀ {o : Obs}, closedO ids o = true → (id, .box cs) ∈ o → ∀ k ∈ idsL cs, k.1 = 0 ∨ ids.contains k = true
  | [], _, h => by simp at h
  | (j, .box ds) :: r, hc, h => by
    simp only [closedO, Bool.and_eq_true, List.all_eq_true, Bool.or_eq_true, beq_iff_eq] at hc
    rcases List.mem_cons.1 h with e | h
    · injection e with e1 e2
      injection e2 with e2
      subst e2
      exact hc.1
    · exact closedO_ok hc.2 h
  | (j, .tok n xs) :: r, hc, h => by
    simp only [closedO] at hc
    rcases List.mem_cons.1 h with e | h
    · injection e with e1 e2
      simp at e2
    · exact closedO_ok hc h

theorem SR.pick {T : Ctx} {N : Mut} {w0 : World} {X : Mut} {γ : Gam} {w : World} {s : St} {a : Act} (h : SR T N w0 X γ w s a) (ks : List Nat) (ids : List Id) (ht : ∀ k ∈ idsL (keepT ks 0 s.t), k ∈ ids) (hc : closedO ids (pickO ids s.o) = true) :
    SR T N w0 X γ w ⟨keepT ks 0 s.t, pickO ids s.o⟩ a := by
  have hown : ∀ b i, own γ (pickO ids s.o) b i → own γ s.o b i := fun b i ⟨p, hp, hb, hm⟩ => ⟨p, mem_pickO hp, hb, hm⟩
  have hk : Keep (all γ N s.o) (all γ N (pickO ids s.o)) w w := (Chg.refl (fun _ _ => False) w).keep (fun _ _ hf => hf.elim) fun b i _ hm => hm.imp id (hown b i)
  have hd : ∀ x u, Rd (all γ N s.o) w x u → Rd (all γ N (pickO ids s.o)) w x u := fun x u => Rd.keep hk x u
  refine ⟨⟨pickO_nodup h.inv.keys, fun p hp q hq b => h.inv.apart p (mem_pickO hp) q (mem_pickO hq) b, fun p hp => h.inv.sep p (mem_pickO hp), h.inv.old, fun p hp => ?_⟩, ?_, h.defers, h.chg, fun b i hm => h.fresh b i (hown b i hm), fun g cs hg => RdC.keep hk _ _ _ (h.glob g cs hg)⟩
  · have hro := h.inv.obs p (mem_pickO hp)
    obtain ⟨j, ob⟩ := p
    cases ob with
    | box cs =>
      obtain ⟨b, arr, ty, e, hh, hv⟩ := hro
      exact ⟨b, arr, ty, e, hh, RVL.pick hd _ _ (fun k hk => lookup_pickO ids k (closedO_ok hc hp k hk) _) hv⟩
    | tok n xs =>
      simp only [RO] at hro ⊢
      cases hg : (γ j).b with
      | none => rw [hg] at hro; exact ⟨hd _ _ hro.1, hro.2⟩
      | some b =>
        rw [hg] at hro
        obtain ⟨arr, ty, hb, h1, h2, h3⟩ := hro
        exact ⟨arr, ty, hb, h1, h2, RdE.keep hk _ _ _ _ h3⟩
  · exact RVL.pick hd _ _ (fun k hk => lookup_pickO ids k (.inr (by simpa using ht k hk)) _) (RVL_keepT ks _ _ 0 h.t)

theorem SR.keep {T : Ctx} {N : Mut} {w0 : World} {X : Mut} {γ : Gam} {w : World} {s : St} {a : Act} (h : SR T N w0 X γ w s a) {R : Type} (ks : List Nat) {κ : St → Option R} {r : R} (hr : s.keep ks κ = some r) :
    ∃ s', SR T N w0 X γ w s' a ∧ κ s' = some r := by
  unfold St.keep at hr
  simp only at hr
  split at hr
  · rename_i hc
    refine ⟨_, h.pick ks _ (fun k hk => ?_) hc, hr⟩
    simp [hk]
  · simp at hr

end Go.Ab
