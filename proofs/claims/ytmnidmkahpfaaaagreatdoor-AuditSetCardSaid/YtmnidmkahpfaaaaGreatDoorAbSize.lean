/- One text of a proof that a law of this seat says true for every input: an evaluator of code over data, and that it tells the truth. It holds of the given program under the conditions that the row prints. -/
import Derived.Test.YtmnidmkahpfaaaaGreatDoorAbSh
set_option linter.unusedSimpArgs false
set_option linter.unusedVariables false
set_option linter.unusedSectionVars false
namespace Go.Ab
open Go.WideShapes
section
variable {H : Type} {enc : TypeId × Value → H} {P : Program} {w : World} {base : Nat} {sp : Nat → Bool} {held : Bool}
/-- A slice's bytes bound its length. -/
theorem slice_len {t e : TypeId} {fuel : Nat} {cs : List Value} {x : DataW H × List MemPlace} {N : Nat} (ht : P.underlying t = some (.slice e)) (h : DataW.trod enc P w base sp held fuel t cs = some x) (hw : (x.1.weights P t).all (· ≤ N) = true) :
    ∃ a len cap, cs = [.slice a len cap] ∧ len * P.bytesOf e ≤ N := by
  rcases DataW.trod_slice ht h with ⟨rfl, _⟩ | ⟨a, len, cap, elems, rest, n, _, rfl, rfl, _, _, _, hlen, _⟩
  · exact ⟨none, 0, 0, rfl, by simp⟩
  · refine ⟨some a, len, cap, rfl, ?_⟩
    simp only [DataW.weights, ht, List.all_cons, Bool.and_eq_true, decide_eq_true_eq, List.length_map] at hw
    exact Nat.le_trans (Nat.mul_le_mul_right _ (by omega)) hw.1
theorem weights_get {N : Nat} : ∀ (ts : List TypeId) (ds : List (DataW H)) (i : Nat) (t : TypeId) (d : DataW H), ts[i]? = some t → ds[i]? = some d → (DataW.weightsEach P ts ds).all (· ≤ N) = true → (d.weights P t).all (· ≤ N) = true
  | [], _, i, t, d, h, _, _ => by simp at h
  | _ :: _, [], i, t, d, _, h, _ => by simp at h
  | t :: ts, d :: ds, 0, t', d', h1, h2, h => by
    simp only [List.getElem?_cons_zero, Option.some.injEq] at h1 h2
    subst h1 h2
    simp only [DataW.weightsEach, List.all_append, Bool.and_eq_true] at h
    exact h.1
  | t :: ts, d :: ds, i + 1, t', d', h1, h2, h => by
    simp only [List.getElem?_cons_succ] at h1 h2
    simp only [DataW.weightsEach, List.all_append, Bool.and_eq_true] at h
    exact weights_get ts ds i t' d' h1 h2 h.2
/-- The like of a slice in a struct's field. -/
theorem field_len {t e : TypeId} {fs : Array Field} {i : Nat} {f : Field} {v : Value} {d : DataW H} {ps : List MemPlace} {N : Nat} (ht : P.underlying t = some (.struct fs)) (hi : fs[i]? = some f) (he : P.underlying f.type = some (.slice e)) (hc : P.cellsOf f.type = 1)
    (h : DataW.Trod enc P w base sp held t v d ps) (hw : (d.weights P t).all (· ≤ N) = true) {a : Option Addr} {len cap : Nat} (hv : v.cells.toList[f.offset]? = some (.slice a len cap)) : len * P.bytesOf e ≤ N := by
  obtain ⟨fuel, hf⟩ := h
  obtain ⟨xs, n, _, hx, hl, hxs, hfs⟩ := DataW.trod_struct ht hf
  have hlt : i < fs.size := (Array.getElem?_eq_some_iff.1 hi).1
  have h1 := hfs i f hi
  have h2 : xs[i]? = some (xs[i]'(by omega)) := List.getElem?_eq_getElem (by omega)
  rw [h2, hc] at h1
  have hd : d = .agg (xs.map (·.1)) := congrArg Prod.fst hx
  rw [hd] at hw
  simp only [DataW.weights, ht] at hw
  have h3 := weights_get (P := P) (N := N) (fs.toList.map (·.type)) (xs.map (·.1)) i f.type (xs[i]'(by omega)).1 (by rw [List.getElem?_map]; simp [hi]) (by rw [List.getElem?_map, h2]; rfl) hw
  obtain ⟨a', len', cap', h4, h5⟩ := slice_len he h1 h3
  have h6 : (v.cells.toList.drop f.offset).take 1 = [.slice a len cap] := by
    rw [List.take_one, List.head?_drop, hv]
    rfl
  rw [h6] at h4
  simp only [List.cons.injEq, Value.slice.injEq, and_true] at h4
  rw [h4.2.1]
  exact h5
end
end Go.Ab
