/- One text of a proof that a law of this seat says true for every input: an evaluator of code over data, and that it tells the truth. It holds of the given program under the conditions that the row prints. -/
import Derived.Test.YtaiklcijiajkaaaDoorAbD
import Derived.Test.YtaiklcijiajkaaaDoorErA
import Derived.Lay
import Derived.LaidHandle
set_option linter.unusedVariables false
set_option maxRecDepth 100000
namespace Go.Ab
open Go.Proofs

/-- A world in which the listed variables are laid upon another world. -/
theorem laidMet_lay {P : Program} {w0 w' : World} {laid : List (String × DataW Unit)} (hh : w'.heap = (w0.layVars P laid).heap)
    (hf : w0.layFits P laid [] = true) (hi : w0.layIfaces P laid w' = true) : laidMet P laid w' := by
  have e1 : (laid.filter fun x => (laid.map (·.1)).contains x.1) = laid := List.filter_eq_self.2 fun x hx => List.contains_iff_mem.2 (List.mem_map.2 ⟨x, hx, rfl⟩)
  have e2 : (laid.filter fun x => !(laid.map (·.1)).contains x.1) = [] := List.filter_eq_nil_iff.2 fun x hx => by rw [List.contains_iff_mem.2 (List.mem_map.2 ⟨x, hx, rfl⟩)]; simp
  exact laidMet_layVars (w0 := w0) (laid.map (·.1)) [] (by rw [e1]; exact hh) (by rw [e1]; exact hf) (by rw [e1]; exact hi) (by rw [e2]; exact LaidIn.none)
/-- The two halves of a list's condition. -/
theorem laidMetH_halves {P : Program} {l : List (String × DataW Unit)} {w : World} (h : laidMetH P l w) :
    laidMet P (l.filter fun x => x.2.handleName?.isNone) w ∧ handlesMet P (l.filter fun x => x.2.handleName?.isSome) w := by
  unfold laidMetH at h
  generalize hfl : (l.filter fun x => x.2.handleName?.isSome) = fl at h
  cases fl with
  | nil =>
    have e : (l.filter fun x => x.2.handleName?.isNone) = l := by
      rw [List.filter_eq_self]
      intro x hx
      have := (List.filter_eq_nil_iff.1 hfl) x hx
      cases hn : x.2.handleName? with
      | none => rfl
      | some s => rw [hn] at this; exact absurd rfl this
    rw [e]
    exact ⟨h, fun x hx => by cases hx⟩
  | cons a l2 => exact h
theorem sent_row (u : TypeId) (hu : Tryd.prog.typeName? 3 u = some "*errors.errorString") : u = 121 :=
  typeName_ptr_named (nm := "errors.errorString") (by kernel_rfl) (by kernel_rfl) (by decide) u (by rw [hu]; rfl)

theorem dE_gE : ∀ g, g < 19 → 1 ≤ g → dE (gE g) = g := by decide
theorem add00 (g : Nat) : (⟨g, 0, none⟩ : Addr).add 0 = ⟨g, 0, none⟩ := by simp [Addr.add]
/-- The variables that errors need, where no type is asked. -/
def erGlob0 (m : Int) (p : Nat → Addr) (o : Nat → Obj) (g : Nat) : Option (List D) :=
  if dE g ≠ 0 ∧ g < 9000 then some [.ifc 121 (.at (p (dE g)) (o (dE g)))] else if g = 5 then some [.v (.int .i64 m)] else none
theorem erGlob0_sents {m : Int} {p : Nat → Addr} {o : Nat → Obj} (h1 : ∀ g, 1 ≤ g → g ≤ 18 → plainB (o g) = true) (h2 : ∀ g g', 1 ≤ g → g ≤ 18 → 1 ≤ g' → g' ≤ 18 → p g = p g' → g = g') : Sents (erGlob0 m p o) p o :=
  ⟨fun g a b c => by unfold erGlob0; rw [dE_gE g (by omega) a, if_pos ⟨by omega, c⟩], h1, h2⟩
/-- What a row with errors lays. -/
theorem er0_of_laid {W : World} (hsh : W.ShapedOpen Tryd.prog) {laid : List (String × DataW Unit)} (hL : laidMetH Tryd.prog laid W) (hall : ∀ x ∈ sentL, gE x.1 < 9000 → sentD0 x ∈ laid) :
    ∃ (m : Int) (p : Nat → Addr) (o : Nat → Obj), Sents (erGlob0 m p o) p o ∧ GlobOk (mkCtx tab (erGlob0 m p o)) (fun _ _ => False) W := by
  obtain ⟨m, hm⟩ := Tryd.laysM219.s1_3 W hsh
  obtain ⟨p, o, hc, hpl, hi⟩ := sents_of_laid (laidMetH_halves hL).1 (fun x hx hb => List.mem_filter.2 ⟨hall x hx hb, by rfl⟩) sent_row
  refine ⟨m, p, o, erGlob0_sents hpl hi, fun g cs hg => ?_⟩
  have hg' : erGlob0 m p o g = some cs := hg
  unfold erGlob0 at hg'
  split at hg'
  · rename_i h
    cases hg'
    obtain ⟨h1, h2, h3⟩ := dE_ok g h.1
    obtain ⟨h4, h5⟩ := hc (dE g) h1 h2 (by rw [h3]; exact h.2)
    rw [h3] at h4
    simp only [RdC, Rd, add00, and_true, not_false_eq_true]
    exact ⟨rfl, _, h4, trivial, _, rfl, rfl, h5, fun _ => trivial⟩
  · split at hg'
    · rename_i e
      subst e
      cases hg'
      simp only [RdC, Rd, add00, and_true, not_false_eq_true]
      exact ⟨rfl, _, hm, trivial, rfl⟩
    · simp at hg'
/-- The errors' places in a row's list. -/
theorem sent_mem {laid : List (String × DataW Unit)} (ix : List Nat) (h : ix.map (fun i => laid[i]?) = (sentL.filter fun x => decide (gE x.1 < 9000)).map fun x => some (sentD0 x)) : ∀ x ∈ sentL, gE x.1 < 9000 → sentD0 x ∈ laid := by
  intro x hx hb
  have h1 : some (sentD0 x) ∈ (sentL.filter fun x => decide (gE x.1 < 9000)).map fun x => some (sentD0 x) := List.mem_map.2 ⟨x, List.mem_filter.2 ⟨hx, by simpa using hb⟩, rfl⟩
  rw [← h] at h1
  obtain ⟨i, _, hi⟩ := List.mem_map.1 h1
  exact List.mem_of_getElem? hi
end Go.Ab
