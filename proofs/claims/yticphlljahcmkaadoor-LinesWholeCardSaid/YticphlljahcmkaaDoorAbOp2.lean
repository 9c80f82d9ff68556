/- One text of a proof that a law of this seat says true for every input: an evaluator of code over data, and that it tells the truth. It holds of the given program under the conditions that the row prints. -/
import Derived.Test.YticphlljahcmkaaDoorAbOp1
set_option linter.unusedVariables false
namespace Go.Ab

section
variable {P : Program} {T : Ctx} (hT : TOk P T) (E : Abs)

theorem owes_assign (x : Operand) : Owes P T E (fun o => o.op = .assign x) := by
  intro R N X w0 w γ s a o κ r next Q ho h hk hn
  unfold opK at hk
  rw [ho] at hk
  simp only at hk
  split at hk
  · rename_i d hd
    have hcv := h.get x
    split at hk
    · rename_i hc
      split at hk
      · rename_i e he
        rw [hc] at hcv
        simp only [RV, Rd] at hcv
        obtain ⟨γ', h'⟩ := h.newNil d (T.sz e)
        refine wp_val (v := .slice none 0 0) (w' := w) (by simp [execOp, ho, hcv]) (hn γ' w _ _ ?_ hk)
        rw [hd]
        exact h'
      · simp at hk
    · rename_i n xs hc
      rw [hc] at hcv
      obtain ⟨γ', h'⟩ := h.newTight d hcv
      refine wp_val (v := a.eval x) (w' := w) (by simp [execOp, ho]) (hn γ' w _ _ ?_ hk)
      rw [hd]
      exact h'
    · refine wp_val (v := a.eval x) (w' := w) (by simp [execOp, ho]) (hn γ w _ _ ?_ hk)
      rw [hd]
      exact h.put (some d) hcv
  · simp at hk

theorem RdL_drop {M : Mut} {w : World} : ∀ {xs : List D} {us : List Value} (k : Nat), RdL M w xs us → RdL M w (xs.drop k) (us.drop k)
  | [], us, k, h => by
    simp only [RdL] at h
    subst h
    simp [RdL]
  | x :: xs, us, 0, h => by simpa using h
  | x :: xs, us, k + 1, h => by
    simp only [RdL] at h
    obtain ⟨u, us', rfl, h1, h2⟩ := h
    simpa using RdL_drop k h2
theorem RdL_take {M : Mut} {w : World} : ∀ {xs : List D} {us : List Value} (k : Nat), RdL M w xs us → RdL M w (xs.take k) (us.take k)
  | [], us, k, h => by
    simp only [RdL] at h
    subst h
    simp [RdL]
  | x :: xs, us, 0, h => by simp [RdL]
  | x :: xs, us, k + 1, h => by
    simp only [RdL] at h
    obtain ⟨u, us', rfl, h1, h2⟩ := h
    simp only [List.take_succ_cons, RdL]
    exact ⟨_, _, rfl, h1, RdL_take k h2⟩

theorem owes_box (t : TypeId) (x : Operand) : Owes P T E (fun o => o.op = .box t x) := by
  intro R N X w0 w γ s a o κ r next Q ho h hk hn
  unfold opK at hk
  rw [ho] at hk
  simp only at hk
  split at hk
  · split at hk
    · rename_i cs hc
      split at hk
      · rename_i ds hds
        split at hk
        · rename_i hcell
          have hcv := nilfix_ok (T := T) t (h.get x)
          obtain ⟨h1, _⟩ := cells_ok h.owns hcv hc
          have h2 := datas_ok h.inv _ _ _ h1 hds
          have c := Chg.alloc w (.cells (a.eval x).cells t)
          have hk0 : Keep (all γ N s.o) (all γ N s.o) w (w.alloc (.cells (a.eval x).cells t)) := c.keep (fun _ _ hf => hf.elim) fun _ _ _ hm => hm
          have hnew : ∀ i, ¬ all γ N s.o w.heap.size i := by
            rintro i (hm | ⟨p, hp, hb, _⟩)
            · exact absurd (h.inv.old _ _ hm) (Nat.lt_irrefl _)
            · exact absurd (own_lt h.inv hp hb) (Nat.lt_irrefl _)
          have h3 := RdC_of (all γ N s.o) (w.alloc (.cells (a.eval x).cells t)) (heap_alloc w _) hnew ds (a.eval x).cells.toList 0 (RdL.keep hk0 _ _ h2) (by simpa using hcell) fun i u hi => by simpa using hi
          refine wp_val (v := .pointer (some ⟨w.heap.size, 0, none⟩)) (w' := w.alloc (.cells (a.eval x).cells t)) ?_ (hn γ _ _ _ ((h.world c).put o.dst (v := .d (.ptr ds)) (u := .pointer (some ⟨w.heap.size, 0, none⟩)) ?_) hk)
          · simp only [execOp, ho, Instr.box, newVar, newRow, Sem.run_bind, Result.andThen_ok, run_newObj, Sem.run_pure]
            rfl
          · simp only [RV, Rd]
            exact ⟨_, rfl, h3⟩
        · simp at hk
      · simp at hk
    · simp at hk
  · split at hk
    · rename_i d cs hd hc
      have hcv := nilfix_ok (T := T) t (h.get x)
      obtain ⟨h1, _⟩ := cells_ok h.owns hcv hc
      obtain ⟨γ', h'⟩ := h.newBox d t h1
      refine wp_val (v := .pointer (some ⟨w.heap.size, 0, none⟩)) (w' := w.alloc (.cells (a.eval x).cells t)) ?_ (hn γ' _ _ _ ?_ hk)
      · simp only [execOp, ho, Instr.box, newVar, newRow, Sem.run_bind, Result.andThen_ok, run_newObj, Sem.run_pure]
        rfl
      · rw [hd]
        simpa using h'
    · simp at hk

include hT

theorem owes_alloc (t : TypeId) : Owes P T E (fun o => o.op = .alloc t) := by
  intro R N X w0 w γ s a o κ r next Q ho h hk hn
  unfold opK at hk
  rw [ho] at hk
  simp only at hk
  split at hk
  · rename_i d hd
    split at hk
    · rename_i hok
      obtain ⟨z, hz, hzl, _⟩ := run_zero hT w (td_ok hok)
      obtain ⟨γ', h'⟩ := h.newBox d t (cs := (T.zero t).map .d) (us := z.cells.toList) (RVL_data.2 (zeroL_rd _ _ _ _ hzl).1)
      refine wp_val (v := .pointer (some ⟨w.heap.size, 0, none⟩)) (w' := w.alloc (.cells z.cells t)) ?_ (hn γ' _ _ _ ?_ hk)
      · simp only [execOp, ho, Instr.alloc, newVar, newRow, Sem.run_bind, hz, Result.andThen_ok, run_newObj, Sem.run_pure]
        rfl
      · rw [hd]
        simpa using h'
    · simp at hk
  · simp at hk

theorem owes_store (t : TypeId) (x y : Operand) : Owes P T E (fun o => o.op = .store t x y) := by
  intro R N X w0 w γ s a o κ r next Q ho h hk hn
  unfold opK at hk
  rw [ho] at hk
  simp only at hk
  split at hk
  · rename_i i off vs hx hc
    split at hk
    · rename_i cs hl
      split at hk
      · rename_i hfit
        have hxv := h.get x
        rw [hx] at hxv
        simp only [RV] at hxv
        obtain ⟨b, hb, he⟩ := hxv
        have hcv := nilfix_ok (T := T) t (h.get y)
        obtain ⟨h1, h2⟩ := cells_ok h.owns hcv hc
        obtain ⟨w', hrun, h'⟩ := SR.stores P hb off vs _ 0 w s cs h hl h1 h2 (by omega)
        have hlen := RVL_length h1
        refine wp_skip' (w' := w') ?_ (hn γ w' _ _ (h'.put o.dst (v := .d (.v undef)) (u := undef) (by simp only [RV, Rd])) ?_)
        · simp only [execOp, ho, he, Instr.storeAt, Instr.sureAddr, storeVar, Sem.run_bind, Sem.run_pure, Result.andThen_ok, run_size hT w (td_ok hfit.2.2), Sem.run_ite, run_stuck]
          rw [if_neg (by simp at hlen; rw [hlen, hfit.2.1]; simp)]
          simp only [Result.andThen_ok, hrun]
        · simpa using hk
      · simp at hk
    · simp at hk
  · simp at hk


theorem run_fields {t : TypeId} {fs : List (TypeId × Nat)} (h : T.td t = .strct fs) (w : World) : ∃ a : Array Field, P.underlying t = some (.struct a) ∧ ∀ (i : Nat) (ft : TypeId) (off : Nat), fs[i]? = some (ft, off) → ∃ f : Field, a[i]? = some f ∧ f.type = ft ∧ f.offset = off ∧ T.td ft ≠ .other ∧ T.sz ft ≠ 0 := by
  have := hT.td t
  unfold tdOk at this
  rw [h] at this
  obtain ⟨a, ha, e, hf⟩ := this
  refine ⟨a, ha, fun i ft off hi => ?_⟩
  have hm : (ft, off) ∈ fs := List.mem_of_getElem? hi
  rw [← e, List.getElem?_map] at hi
  cases hfi : a.toList[i]? with
  | none => rw [hfi] at hi; simp at hi
  | some f =>
    rw [hfi] at hi
    simp at hi
    exact ⟨f, by simpa using hfi, hi.1, hi.2, hf _ hm⟩

theorem owes_fieldAddr (t : TypeId) (x : Operand) (i : Nat) : Owes P T E (fun o => o.op = .fieldAddr t x i) := by
  intro R N X w0 w γ s a o κ r next Q ho h hk hn
  unfold opK at hk
  rw [ho] at hk
  simp only at hk
  split at hk
  · rename_i fs ht
    obtain ⟨fa, hu, hf⟩ := run_fields hT ht w
    split at hk
    · rename_i ft off hi
      obtain ⟨f, hfi, hft, hfo, hfok, hfs⟩ := hf i ft off hi
      have hxv := h.get x
      have hplace : ∀ p : Addr, (fieldPlace p f).run P w = .ok (p.add off) w := by
        intro p
        unfold fieldPlace
        simp only [Sem.run_bind, hft, run_size hT w hfok, Result.andThen_ok]
        rw [if_neg hfs, hfo]
        rfl
      split at hk
      · rename_i id o' hx
        rw [hx] at hxv
        simp only [RV] at hxv
        obtain ⟨b, hb, he⟩ := hxv
        refine wp_val (v := .pointer (some ⟨b, o' + off, none⟩)) (w' := w) ?_ (hn γ w _ _ (h.put o.dst (by simp only [RV]; exact ⟨b, hb, rfl⟩)) hk)
        simp only [execOp, ho, he, Instr.fieldAt, Instr.sureAddr, Sem.run_bind, run_underlying hu, Result.andThen_ok, hfi, Sem.run_pure, hplace, add_plain]
      · rename_i cs hx
        rw [hx] at hxv
        simp only [RV, Rd] at hxv
        obtain ⟨p, he, hrd⟩ := hxv
        split at hk
        · rename_i hle
          refine wp_val (v := .pointer (some (p.add off))) (w' := w) ?_ (hn γ w _ _ (h.put o.dst ?_) hk)
          · simp only [execOp, ho, he, Instr.fieldAt, Instr.sureAddr, Sem.run_bind, run_underlying hu, Result.andThen_ok, hfi, Sem.run_pure, hplace]
          · simp only [RV, Rd]
            refine ⟨_, rfl, (RdC_shift ..).2 ?_⟩
            simpa using RdC_drop _ _ _ _ _ _ hle hrd
        · simp at hk
      · simp at hk
    · simp at hk
  · simp at hk

theorem run_part {t : TypeId} (ht : T.td t ≠ .other) (w : World) (us : List Value) (off : Nat) (hs : (T.td t).agg = true ∨ T.sz t = 1) (hle : off + T.sz t ≤ us.length) :
    (part t us.toArray off).run P w = .ok (if (T.td t).agg = true then .agg ((us.drop off).take (T.sz t)).toArray else ((us.drop off).take (T.sz t)).headD undef) w := by
  unfold part
  simp only [Sem.run_bind, run_agg hT w ht, Result.andThen_ok]
  cases ha : (T.td t).agg with
  | true =>
    simp only [if_true, Sem.run_bind, run_size hT w ht, Result.andThen_ok, Sem.run_pure]
    simp
  | false =>
    rw [ha] at hs
    have h1 : T.sz t = 1 := by simpa using hs
    rw [h1] at hle ⊢
    have : us[off]? = some us[off] := List.getElem?_eq_getElem (by omega)
    simp only [List.getElem?_toArray, this]
    simp [List.take_one, List.head?_drop, this]

theorem owes_field (t : TypeId) (x : Operand) (i : Nat) : Owes P T E (fun o => o.op = .field t x i) := by
  intro R N X w0 w γ s a o κ r next Q ho h hk hn
  unfold opK at hk
  rw [ho] at hk
  simp only at hk
  split at hk
  · rename_i fs ht
    obtain ⟨fa, hu, hf⟩ := run_fields hT ht w
    split at hk
    · rename_i ft off hi
      obtain ⟨f, hfi, hft, hfo, hfok, hfs⟩ := hf i ft off hi
      split at hk
      · rename_i cs hx
        have hxv := h.data hx
        simp only [Rd] at hxv
        obtain ⟨us, he, hrd⟩ := hxv
        split at hk
        · rename_i hfit
          have hlen := RdL_length hrd
          refine wp_val (v := if (T.td ft).agg = true then .agg ((us.drop off).take (T.sz ft)).toArray else ((us.drop off).take (T.sz ft)).headD undef) (w' := w) ?_ (hn γ w _ _ (h.put o.dst ?_) hk)
          · simp only [execOp, ho, he, Instr.field, asAgg, Sem.run_bind, run_underlying hu, Result.andThen_ok, hfi, Sem.run_pure, hft, hfo, run_part hT hfok w us off hfit.2 (by omega)]
          · simp only [RV]
            exact valD_ok hfit.2 (RdL_take _ (RdL_drop _ hrd)) (by simp; omega)
        · simp at hk
      · simp at hk
    · simp at hk
  · simp at hk

theorem owes_makeInterface (t : TypeId) (x : Operand) : Owes P T E (fun o => o.op = .makeInterface t x) := by
  intro R N X w0 w γ s a o κ r next Q ho h hk hn
  unfold opK at hk
  rw [ho] at hk
  simp only at hk
  have hrun : ∀ (hi : ∀ b, T.td t ≠ .iface b) (hot : T.td t ≠ .other), (execOp a.eval o).run P w = .ok (.value (.iface t (a.eval x))) w := by
    intro hi hot
    obtain ⟨d, hd, _⟩ := und_agg hT hot
    have hne : ∀ ms, d ≠ .interface ms := by
      rintro ms rfl
      have := hT.td t
      unfold tdOk at this
      split at this <;> rename_i e <;> (try simp [hd] at this)
      · exact hi _ e
      · exact hot e
    simp only [execOp, ho, Instr.makeInterface, Sem.run_bind, run_underlying hd, Result.andThen_ok]
    cases d <;> first | rfl | exact absurd rfl (hne _)
  split at hk
  · simp at hk
  · simp at hk
  · rename_i h1 h2
    split at hk
    · rename_i dx hx
      have hxv := data_ok h.inv _ _ _ (nilfix_ok (T := T) t (h.get x)) hx
      exact wp_val (hrun h1 h2) (hn γ w _ _ (h.put o.dst (by simp only [RV, Rd]; exact ⟨_, rfl, hxv⟩)) hk)
    · split at hk
      · rename_i id hx
        have hxv := h.get x
        rw [hx] at hxv
        simp only [RV] at hxv
        obtain ⟨b, hb, he⟩ := hxv
        split at hk
        · rename_i cs hl
          split at hk
          · rename_i ds hds
            split at hk
            · rename_i hcell
              obtain ⟨h', hrow⟩ := h.ice hl hds (by simpa using hcell)
              refine wp_val (hrun h1 h2) (hn γ w _ _ (h'.put o.dst ?_) hk)
              simp only [RV, Rd]
              exact ⟨_, rfl, _, he, hrow b hb⟩
            · simp at hk
          · simp at hk
        · simp at hk
      · simp at hk

end
end Go.Ab
