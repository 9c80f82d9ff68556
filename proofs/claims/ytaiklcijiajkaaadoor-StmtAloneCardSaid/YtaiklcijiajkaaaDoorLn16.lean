/- One text of a proof that a law of this seat says true for every input: the lines of a text. It holds of the given program under the conditions that the row prints. -/
import Derived.Test.YtaiklcijiajkaaaDoorLnQ
import Derived.Test.YtaiklcijiajkaaaDoorLnP
set_option linter.unusedVariables false
set_option linter.unusedSimpArgs false
set_option maxRecDepth 100000
namespace Go.Ab
open Go.Proofs
variable {glob : Nat → Option (List D)}

def FT : List D → Option (List D)
  | [.s s] => if s.length < 4294967281 then some [.s (Lib.trimS s [32, 9])] else none
  | _ => none
def FL : List D → Option (List D)
  | [.s s] => if s.length < 4294967281 then some [.sl 1 ((phys s).map .s)] else none
  | _ => none
theorem FT_at (s : List UInt8) (h : s.length < 4294967281) : FT [.s s] = some [.s (Lib.trimS s [32, 9])] := by simp [FT, h]
theorem FL_at (s : List UInt8) (h : s.length < 4294967281) : FL [.s s] = some [.sl 1 ((phys s).map .s)] := by simp [FL, h]

theorem recp_get (s : List UInt8) (h : 0 < s.length) (hr : ¬ recp s = true) : ¬ s[0] = 32 ∧ ¬ s[0] = 9 := by
  cases s with
  | nil => simp at h
  | cons b r => simpa [recp] using hr
end Go.Ab
