/- One text of a proof that a law of this seat says true for every input: words, pieces and statements as the document reads them. It holds of the given program under the conditions that the row prints. -/
import Derived.Test.YtaiklcijiajkaaaDoorRx7
import Derived.Test.YtaiklcijiajkaaaDoorLx16
set_option linter.unusedVariables false
set_option linter.unusedSimpArgs false
set_option maxRecDepth 100000
namespace Go.Ab
open Go.Proofs
variable {glob : Nat → Option (List D)}

def FROneS : List D → Option (List D)
  | [.s s] => if s.length < 4294967281 ∧ s ≠ [] then some (roD (rOneS s)) else none
  | _ => none
theorem FROneS_at (s : List UInt8) (h : s.length < 4294967281) (h2 : s ≠ []) : FROneS [.s s] = some (roD (rOneS s)) := by
  simp only [FROneS]
  rw [if_pos ⟨h, h2⟩]
def rpD : List Sm ⊕ (Nat × Int) → List D
  | .inl out => [.sl 10 (out.map encS), .v (.int .i64 0), .v (.int .i64 0)]
  | .inr (e, n) => [.sl 10 [], .v (.int .i64 e), .v (.int .i64 n)]
theorem rOneS_fresh (t : List UInt8) (s : Sm) (h : rOneS t = .inl s) : s.recipe = [] ∧ s.line = 0 := pOneS_fresh t s (by rw [oneS_law]; exact h)
theorem rOneS_err (t : List UInt8) (e : Nat) (h : rOneS t = .inr e) : e ≠ 0 := pOneS_err t e (by rw [oneS_law]; exact h)
end Go.Ab
