/- One text of a proof that a law of this seat says true for every input: an evaluator of code over data, and that it tells the truth. It holds of the given program under the conditions that the row prints. -/
import Derived.Test.YtgflhnkakmdalaaGreatDoorAbD
import Derived.Test.YtgflhnkakmdalaaGreatDoorErI
set_option linter.unusedSimpArgs false
set_option linter.unusedVariables false
set_option linter.unusedSectionVars false
set_option maxRecDepth 100000
namespace Go.Ab
open Go.Proofs
/-- A listed array of whole numbers: its block. -/
theorem tab_of_laid {P : Program} {w : World} {n : String} {k : IntKind} {zs : List Int} {g N : Nat} {t e : TypeId} (hg : P.globalNamed n = some g) (ht : (P.globals[g]?).map (·.type) = some t) (hu : P.underlying t = some (.array N e)) (he : P.underlying e = some (.int k))
    (hce : P.cellsOf e = 1) (hct : P.cellsOf t = N) : ∀ {laid : List (String × DataW Unit)} {ps : List MemPlace}, DataW.LaidVars P w laid ps → (n, .agg (zs.map fun z => .lit (.int k z))) ∈ laid →
    ∃ ty fr, w.heap[g]? = some (.cells (zs.map fun z => Value.int k z).toArray ty fr)
  | [], ps, _, hm => by simp at hm
  | (n', d) :: r, ps, h, hm => by
    obtain ⟨g', t', cs, fuel, p, q, hg', ht', hv, hd, hr, rfl⟩ := h
    rcases List.mem_cons.1 hm with e' | hm
    · cases e'
      obtain rfl := Option.some.inj (hg.symm.trans hg')
      obtain rfl := Option.some.inj (ht.symm.trans ht')
      obtain ⟨xs, m, _, hx, hl, hxn, hat⟩ := DataW.trod_array hu hd
      injection hx with hx _
      injection hx with hx
      rw [hct] at hl
      have hcs : cs.toList = zs.map fun z => Value.int k z := by
        have hzl : zs.length = N := by
          have := congrArg List.length hx
          simpa [hxn] using this
        apply List.ext_getElem?
        intro i
        by_cases hi : i < N
        · have h1 := hat i hi
          rw [hce, Nat.mul_one] at h1
          have hxi : xs[i]? = some (xs[i]'(by omega)) := List.getElem?_eq_getElem (by omega)
          rw [hxi] at h1
          obtain ⟨z, h2, h3, _⟩ := DataW.trod_int he h1
          have h4 : (zs.map fun z => (DataW.lit (.int k z) : DataW Unit))[i]? = some (.lit (.int k z)) := by
            rw [hx, List.getElem?_map, hxi, h3]
            rfl
          rw [List.getElem?_map, Option.map_eq_some_iff] at h4
          obtain ⟨z', h5, h6⟩ := h4
          injection h6 with h6
          injection h6 with _ h6
          subst h6
          rw [List.getElem?_map, h5]
          have h7 : (cs.toList.drop i)[0]? = some (Value.int k z') := by
            have : ((cs.toList.drop i).take 1)[0]? = some (Value.int k z') := by rw [h2]; rfl
            simpa using this
          simpa using h7
        · rw [List.getElem?_eq_none (by omega), List.getElem?_eq_none (by simp; omega)]
      unfold World.var? at hv
      rw [hg] at hv
      simp only [Option.bind_some] at hv
      split at hv
      · rename_i cs' ty fr hh
        cases hv
        refine ⟨ty, fr, ?_⟩
        rw [hh, ← hcs]
      · cases hv
    · exact tab_of_laid hg ht hu he hce hct hr hm
/-- The table of powers, as the rows list it. -/
theorem pow_of_laid {W : World} {laid : List (String × DataW Unit)} (hL : laidMetH Tryz.prog laid W) (hm : ("internal/strconv.uint64pow10", (.agg (Lib.pow10Tab.map fun z => .lit (.int .u64 z)) : DataW Unit)) ∈ laid) :
    ∃ t fr, RdC (fun _ _ => False) W [.wh (.int .u64 1) 19 (powObj t fr)] ⟨19, 0, none⟩ 0 := by
  obtain ⟨ps, hl, _⟩ := (laidMetH_halves hL).1
  obtain ⟨ty, fr, hh⟩ := tab_of_laid (P := Tryz.prog) (g := 19) (t := 139) (N := 20) (e := 113) (by kernel_rfl) (by kernel_rfl) (by kernel_rfl) (k := .u64) (by kernel_rfl) (by kernel_rfl) (by kernel_rfl) hl (List.mem_filter.2 ⟨hm, rfl⟩)
  refine ⟨ty, fr, ?_⟩
  simp only [RdC, Rd, add00, and_true, not_false_eq_true]
  refine ⟨rfl, .int .u64 1, ?_, trivial, rfl, hh, fun _ => trivial⟩
  simp only [World.cell?, hh]
  rfl
end Go.Ab
