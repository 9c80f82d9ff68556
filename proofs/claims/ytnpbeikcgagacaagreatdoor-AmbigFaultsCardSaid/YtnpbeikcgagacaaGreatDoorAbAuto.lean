/- One text of a proof that a law of this seat says true for every input: an evaluator of code over data, and that it tells the truth. It holds of the given program under the conditions that the row prints. -/
import Derived.Test.YtnpbeikcgagacaaGreatDoorAbSimp
set_option linter.unusedSimpArgs false
set_option linter.unusedVariables false
set_option linter.unusedSectionVars false
namespace Go.Ab
theorem condK_cases {R : Type} {c : Bool} {a b r : Option R} {m : Tag a} {m' : Tag b} (h1 : c = true → a = r) (h2 : c = false → b = r) : condK c (hold a m) (hold b m') = r := by
  cases c with
  | true => exact h1 rfl
  | false => exact h2 rfl
end Go.Ab
