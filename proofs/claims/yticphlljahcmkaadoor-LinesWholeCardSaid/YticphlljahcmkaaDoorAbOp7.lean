/- One text of a proof that a law of this seat says true for every input: an evaluator of code over data, and that it tells the truth. It holds of the given program under the conditions that the row prints. -/
import Derived.Test.YticphlljahcmkaaDoorAbOp6
set_option linter.unusedVariables false
namespace Go.Ab

theorem bytesOf_ok {M : Mut} {w : World} : ∀ {xs : List D} {l : List UInt8} {us : List Value}, bytesOf xs = some l → RdL M w (flat xs) us → ∃ ns : List Int, us = ns.map (Value.int .u8) ∧ l = ns.map (fun n => UInt8.ofNat n.toNat) ∧ us.length = xs.length
  | [], l, us, h, hr => by
    simp only [bytesOf, Option.some.injEq] at h
    subst h
    simp only [flat, List.flatMap_nil, RdL] at hr
    subst hr
    exact ⟨[], rfl, rfl, rfl⟩
  | x :: xs, l, us, h, hr => by
    unfold bytesOf at h
    split at h
    · rename_i e
      simp at e
    · rename_i n r e
      injection e with e1 e2
      subst e1 e2
      split at h
      · rename_i l' hl'
        split at h
        · rename_i hn
          simp only [Option.some.injEq] at h
          subst h
          simp only [flat, List.flatMap_cons, D.cells, List.cons_append, List.nil_append, RdL, Rd] at hr
          obtain ⟨u, us', rfl, rfl, hr⟩ := hr
          obtain ⟨ns, e1, e2, e3⟩ := bytesOf_ok hl' hr
          exact ⟨n :: ns, by simp [e1], by simp [e2], by simp [e3]⟩
        · simp at h
      · simp at h
    · simp at h

section
variable {P : Program} {T : Ctx} (hT : TOk P T) (E : Abs)

include hT

theorem owes_convert (t t' : TypeId) (x : Operand) : Owes P T E (fun o => o.op = .convert t t' x) := by
  intro R N X w0 w γ s a o κ r next Q ho h hk hn
  unfold opK at hk
  rw [ho] at hk
  simp only at hk
  split at hk
  · rename_i k1 k k2 n ht ht' hx
    have hxv := h.data hx
    simp only [Rd] at hxv
    refine wp_val (v := .int k (k.wrap n)) (w' := w) ?_ (hn γ w _ _ (h.put o.dst (by simp only [RV, Rd])) hk)
    simp only [execOp, ho, hxv, convert, Sem.run_bind, run_underlying (und_int hT ht), run_underlying (und_int hT ht'), Result.andThen_ok, Conv.intToInt, Sem.run_pure]
  · rename_i l ht ht' hx
    have hxv := h.data hx
    simp only [Rd] at hxv
    refine wp_val (v := .string ⟨l.toArray⟩) (w' := w) ?_ (hn γ w _ _ (h.put o.dst (by simp only [RV, Rd])) hk)
    simp only [execOp, ho, hxv, convert, Sem.run_bind, run_underlying (und_str hT ht), run_underlying (und_str hT ht'), Result.andThen_ok, Sem.run_pure]
  · rename_i e n xs ht ht' hx
    split at hk
    · rename_i he
      split at hk
      · rename_i l hl
        have hxv := h.data hx
        simp only [Rd] at hxv
        obtain ⟨ad, len, cap, he', h1, h2, h3, h4⟩ := hxv
        subst h1
        obtain ⟨hu, hto⟩ := und_slice hT ht
        have hu' := und_str hT ht'
        have hue := und_int hT he
        refine wp_val (v := .string ⟨l.toArray⟩) (w' := w) ?_ (hn γ w _ _ (h.put o.dst (by simp only [RV, Rd])) hk)
        cases ad with
        | none =>
          have h5 := h3 rfl
          have hx0 : xs = [] := List.eq_nil_of_length_eq_zero (by omega)
          subst hx0
          simp only [bytesOf, Option.some.injEq] at hl
          subst hl
          simp only [execOp, ho, he', Sem.run_bind, run_convert_bytes_nil w t e hu hue _ _ t' hu', Result.andThen_ok, Sem.run_pure]
          rfl
        | some p =>
          obtain ⟨h6, h7, us, h8, h9, h10⟩ := flat_rdc (h4 p rfl)
          obtain ⟨ns, e1, e2, e3⟩ := bytesOf_ok hl h8
          have hload : (loadCells p xs.length).run P w = .ok (ns.map (Value.int .u8)).toArray w := by
            rw [← e3, ← e1]
            exact run_loadCells_list w p us h10
          simp only [execOp, ho, he', Sem.run_bind, run_convert_bytes_string w t t' e _ _ cap hu hue hu', run_bytesToString w _ _ cap ns hload, Result.andThen_ok, Sem.run_pure, foldl_push_bytes]
          rw [e2]
          congr 3
          simp [ByteArray.empty, ByteArray.emptyWithCapacity]
          rfl
      · simp at hk
    · simp at hk
  · simp at hk

end
end Go.Ab
