/- One text of a proof that a law of this seat says true for every input: an evaluator of code over data, and that it tells the truth. It holds of the given program under the conditions that the row prints. -/
import Derived.Test.YticphlljahcmkaaDoorAbRow
import Derived.Test.YticphlljahcmkaaDoorErA
import Derived.LaidLaws
import Derived.Test.YticphlljahcmkaaDoorRows
set_option linter.unusedVariables false
set_option maxRecDepth 100000
namespace Go.Ab
open Go.Proofs
/-- A listed error of the library's kind: what its variable holds. -/
theorem errs_of_laid {W : World} {n : String} {text : List UInt8} {g : Nat} (hg : Tryd.prog.globalNamed n = some g) (ht : (Tryd.prog.globals[g]?).map (·.type) = some 47)
    (hrow : ∀ u, Tryd.prog.typeName? 3 u = some "*errors.errorString" → u = 228) : ∀ {laid : List (String × DataW Unit)} {ps : List MemPlace}, DataW.LaidVars Tryd.prog W laid ps →
    (∀ b off, MemPlace.cell b off ∈ ps → (∃ c t, W.heap[b]? = some (.cells c t (0, 0))) ∧ ∀ u v, W.cell? ⟨b, off, none⟩ = some (.iface u v) → Value.okWide Tryd.prog W .any 0 u v) →
    (n, .iface "*errors.errorString" (.ptr (.agg [.lit (.string text)]))) ∈ laid →
    ∃ a s c t, W.cell? ⟨g, 0, none⟩ = some (.iface 228 (.pointer (some a))) ∧ W.cell? a = some (.string s) ∧ s.data.toList = text ∧ W.heap[a.block]? = some (.cells c t (0, 0))
  | [], ps, _, _, hm => by simp at hm
  | (n', d) :: r, ps, h, hok, hm => by
    obtain ⟨g', t, cs, fuel, p, q, hg', ht', hv, hd, hr, rfl⟩ := h
    rcases List.mem_cons.1 hm with e | hm
    · cases e
      obtain rfl := Option.some.inj (hg.symm.trans hg')
      obtain rfl := Option.some.inj (ht.symm.trans ht')
      have hcell : ∀ v, cs.toList = [v] → W.cell? ⟨g, 0, none⟩ = some v := fun v hv1 => by
        have : cs = #[v] := by
          obtain ⟨l⟩ := cs
          simp at hv1
          rw [hv1]
        subst this
        simpa using World.var?_cell hg hv 0
      have hin : ∀ v, cs.toList = [v] → MemPlace.cell g 0 ∈ MemPlace.row ⟨g, 0, none⟩ cs.size ++ p ++ q := fun v hv1 => by
        have : cs.size = 1 := by rw [← Array.length_toList, hv1]; rfl
        simp [MemPlace.row, this]
      obtain ⟨a, s, h1, h2, h3, _, rfl⟩ := errorString_of_trod (te := 247) (ts := 9) Tryd.underlying47 hrow Tryd.underlying228 Tryd.underlying247 rfl rfl Tryd.underlying9 (by kernel_rfl) (by kernel_rfl) hd fun u v hv1 => (hok g 0 (hin _ hv1)).2 u v (hcell _ hv1)
      obtain ⟨c, t, hb⟩ := (hok a.block a.off (by simp [MemPlace.row])).1
      exact ⟨a, s, c, t, hcell _ h1, h2, h3, hb⟩
    · exact errs_of_laid hg ht hrow hr (fun b off hb => hok b off (by simp [hb])) hm
end Go.Ab

set_option linter.unusedVariables false
set_option maxRecDepth 100000
namespace Go.Ab
open Go.Proofs
/-- The errors of the document: their variables, names and texts. -/
def sentL : List (Nat × String × List UInt8) := [
  (1, "millwright/api.ErrFull", [116, 104, 101, 114, 101, 32, 105, 115, 32, 110, 111, 32, 109, 111, 114, 101, 32, 114, 111, 111, 109]),
  (2, "millwright/api.ErrLong", [116, 104, 101, 114, 101, 32, 105, 115, 32, 109, 111, 114, 101, 32, 116, 104, 97, 110, 32, 109, 97, 121, 32, 98, 101]),
  (3, "millwright/api.ErrForm", [105, 116, 32, 105, 115, 32, 110, 111, 116, 32, 111, 102, 32, 105, 116, 115, 32, 102, 111, 114, 109]),
  (4, "millwright/api.ErrRange", [97, 32, 110, 117, 109, 98, 101, 114, 32, 105, 115, 32, 111, 117, 116, 32, 111, 102, 32, 105, 116, 115, 32, 114, 97, 110, 103, 101]),
  (5, "millwright/api.ErrName", [105, 116, 32, 105, 115, 32, 110, 111, 32, 114, 105, 103, 104, 116, 32, 110, 97, 109, 101]),
  (6, "millwright/api.ErrQuote", [97, 32, 113, 117, 111, 116, 101, 32, 104, 97, 115, 32, 110, 111, 32, 101, 110, 100]),
  (7, "millwright/api.ErrRegex", [105, 116, 32, 105, 115, 32, 110, 111, 32, 114, 101, 103, 117, 108, 97, 114, 32, 101, 120, 112, 114, 101, 115, 115, 105, 111, 110]),
  (8, "millwright/api.ErrAttr", [105, 116, 32, 105, 115, 32, 110, 111, 32, 97, 116, 116, 114, 105, 98, 117, 116, 101]),
  (9, "millwright/api.ErrNone", [116, 104, 101, 114, 101, 32, 105, 115, 32, 110, 111, 110, 101]),
  (10, "millwright/api.ErrDup", [105, 116, 32, 105, 115, 32, 116, 104, 101, 114, 101, 32, 97, 108, 114, 101, 97, 100, 121]),
  (11, "millwright/api.ErrDepth", [105, 116, 32, 103, 111, 101, 115, 32, 116, 111, 111, 32, 100, 101, 101, 112]),
  (12, "millwright/api.ErrCycle", [105, 116, 32, 108, 101, 97, 100, 115, 32, 98, 97, 99, 107, 32, 116, 111, 32, 105, 116, 115, 101, 108, 102]),
  (13, "millwright/api.ErrAmbig", [116, 104, 101, 114, 101, 32, 97, 114, 101, 32, 115, 101, 118, 101, 114, 97, 108, 32, 119, 97, 121, 115, 32, 116, 111, 32, 109, 97, 107, 101, 32, 105, 116]),
  (14, "millwright/api.ErrState", [105, 116, 32, 99, 97, 110, 32, 110, 111, 116, 32, 98, 101, 32, 100, 111, 110, 101, 32, 105, 110, 32, 116, 104, 105, 115, 32, 115, 116, 97, 116, 101]),
  (15, "millwright/api.ErrFail", [97, 32, 114, 101, 99, 105, 112, 101, 32, 102, 97, 105, 108, 101, 100]),
  (16, "millwright/api.ErrFlag", [105, 116, 32, 105, 115, 32, 110, 111, 32, 102, 108, 97, 103]),
  (17, "millwright/api.ErrKind", [105, 116, 32, 105, 115, 32, 111, 102, 32, 97, 110, 111, 116, 104, 101, 114, 32, 107, 105, 110, 100]),
  (18, "millwright/api.ErrLost", [110, 111, 98, 111, 100, 121, 32, 107, 110, 111, 119, 115, 32, 104, 111, 119, 32, 116, 111, 32, 109, 97, 107, 101, 32, 105, 116])]
/-- As the rows list them. -/
def sentD0 (x : Nat × String × List UInt8) : String × DataW Unit := (x.2.1, .iface "*errors.errorString" (.ptr (.agg [.lit (.string x.2.2)])))
noncomputable def rowOk (x : Nat × String × List UInt8) : Bool := (match Tryd.prog.globalNamed x.2.1 with | some g => g == x.1 | none => false) && (match (Tryd.prog.globals[x.1]?).map (·.type) with | some t => t == 47 | none => false)
theorem rows_ok : sentL.all rowOk = true := by kernel_rfl
theorem sent_key : ∀ x ∈ sentL, ∀ y ∈ sentL, x.2.2 = y.2.2 → x.1 = y.1 := by decide
theorem sent_all : ∀ g, 1 ≤ g → g ≤ 18 → ∃ x ∈ sentL, x.1 = g := by
  intro g h1 h2
  have : ∀ g, g < 19 → 1 ≤ g → ∃ x ∈ sentL, x.1 = g := by decide
  exact this g (by omega) h1
/-- Where the document's errors lie. -/
theorem sents_of_laid {W : World} {laid : List (String × DataW Unit)} (hL : laidMet Tryd.prog laid W) (hall : ∀ x ∈ sentL, sentD0 x ∈ laid) (hrow : ∀ u, Tryd.prog.typeName? 3 u = some "*errors.errorString" → u = 228) :
    ∃ (p : Nat → Addr) (o : Nat → Obj), (∀ g, 1 ≤ g → g ≤ 18 → W.cell? ⟨g, 0, none⟩ = some (.iface 228 (.pointer (some (p g)))) ∧ W.heap[(p g).block]? = some (o g) ∧ plainB (o g) = true) ∧
      ∀ g g', 1 ≤ g → g ≤ 18 → 1 ≤ g' → g' ≤ 18 → p g = p g' → g = g' := by
  obtain ⟨ps, hl, _, hok⟩ := hL
  have key : ∀ g, ∃ (a : Addr) (ob : Obj), 1 ≤ g → g ≤ 18 → W.cell? ⟨g, 0, none⟩ = some (.iface 228 (.pointer (some a))) ∧ W.heap[a.block]? = some ob ∧ plainB ob = true ∧ ∃ x ∈ sentL, x.1 = g ∧ ∃ s : ByteArray, W.cell? a = some (.string s) ∧ s.data.toList = x.2.2 := by
    intro g
    by_cases hg : 1 ≤ g ∧ g ≤ 18
    · obtain ⟨x, hx, rfl⟩ := sent_all g hg.1 hg.2
      have hr := List.all_eq_true.1 rows_ok x hx
      simp only [rowOk, Bool.and_eq_true] at hr
      have h1 : Tryd.prog.globalNamed x.2.1 = some x.1 := by
        have := hr.1
        split at this
        · rename_i g' hg'
          rw [hg', beq_iff_eq.1 this]
        · simp at this
      have h2 : (Tryd.prog.globals[x.1]?).map (·.type) = some 47 := by
        have := hr.2
        split at this
        · rename_i t ht
          rw [ht, beq_iff_eq.1 this]
        · simp at this
      obtain ⟨a, s, c, t, h3, h4, h5, h6⟩ := errs_of_laid h1 h2 hrow hl hok (hall x hx)
      exact ⟨a, _, fun _ _ => ⟨h3, h6, rfl, x, hx, rfl, s, h4, h5⟩⟩
    · exact ⟨⟨0, 0, none⟩, .cells #[] 0 (0, 0), fun h1 h2 => absurd ⟨h1, h2⟩ hg⟩
  refine ⟨fun g => (key g).choose, fun g => (key g).choose_spec.choose, fun g h1 h2 => ?_, fun g g' h1 h2 h1' h2' he => ?_⟩
  · have := (key g).choose_spec.choose_spec h1 h2
    exact ⟨this.1, this.2.1, this.2.2.1⟩
  · obtain ⟨_, _, _, x, hx, hxg, s, hs, hst⟩ := (key g).choose_spec.choose_spec h1 h2
    obtain ⟨_, _, _, y, hy, hyg, s', hs', hst'⟩ := (key g').choose_spec.choose_spec h1' h2'
    simp only at he
    rw [he] at hs
    have : s = s' := by
      have := hs.symm.trans hs'
      injection this with this
      injection this
    rw [← hxg, ← hyg]
    exact sent_key x hx y hy (by rw [← hst, ← hst', this])
end Go.Ab
