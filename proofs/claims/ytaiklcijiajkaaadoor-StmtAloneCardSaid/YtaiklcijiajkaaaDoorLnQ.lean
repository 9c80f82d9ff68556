/- One text of a proof that a law of this seat says true for every input: the lines of a text. It holds of the given program under the conditions that the row prints. -/
import Derived.Test.YtaiklcijiajkaaaDoorLnP
import Derived.Test.YtaiklcijiajkaaaDoorAbAuto
set_option linter.unusedVariables false
set_option linter.unusedSimpArgs false
set_option maxRecDepth 100000
namespace Go.Ab
open Go.Proofs
variable {glob : Nat → Option (List D)}

end Go.Ab

set_option linter.unusedVariables false
set_option linter.unusedSimpArgs false
set_option maxRecDepth 100000
namespace Go.Ab
open Go.Proofs
variable {glob : Nat → Option (List D)}

def FQ : List D → Option (List D)
  | [.s s, .v (.int .i64 i)] => if s.length < 4294967281 ∧ 0 ≤ i ∧ i < 4294967281 then some [.v (.int .i64 (qend s i.toNat))] else none
  | _ => none
theorem FQ_at (s : List UInt8) (i : Nat) (hl : s.length < 4294967281) (hi : i < 4294967281) : FQ [.s s, .v (.int .i64 i)] = some [.v (.int .i64 (qend s i))] := by
  have : (i : Int) < 4294967281 := by omega
  simp [FQ, hl, this]
def r12D : List Ln ⊕ (Nat × Nat) → List D
  | .inl ls => [.sl 3 (ls.map encLn), .v (.int .i64 0), .v (.int .i64 0)]
  | .inr (b, n) => [.sl 3 [], .v (.int .i64 b), .v (.int .i64 n)]
theorem r12in_len (s : List UInt8) (last : Bool) (i : Nat) (held : List UInt8) (goes : Bool) (hi : i ≤ s.length) : ∀ t g, r12in s last i held goes = some (t, g) → t.length ≤ held.length + (s.length - i) := by
  induction i, held, goes using r12in.induct (s := s) (last := last) with
  | case1 i held goes h hc h2 =>
    intro t g ht
    unfold r12in at ht
    simp [h, hc, h2] at ht
  | case2 i held goes h hc h2 ih =>
    intro t g ht
    unfold r12in at ht
    rw [dif_pos h, if_pos hc, dif_neg h2] at ht
    have hq := qend_gt s i
    have := ih (by omega) t g ht
    simp at this
    omega
  | case3 i held goes h hc h2 =>
    intro t g ht
    unfold r12in at ht
    rw [dif_pos h, if_neg hc, if_pos h2] at ht
    cases ht
    omega
  | case4 i held goes h hc h2 h3 ih =>
    intro t g ht
    unfold r12in at ht
    rw [dif_pos h, if_neg hc, if_neg h2, if_pos h3] at ht
    have := ih (by omega) t g ht
    simp at this
    omega
  | case5 i held goes h hc h2 h3 ih =>
    intro t g ht
    unfold r12in at ht
    rw [dif_pos h, if_neg hc, if_neg h2, if_neg h3] at ht
    have := ih (by omega) t g ht
    simp at this
    omega
  | case6 i held goes h =>
    intro t g ht
    unfold r12in at ht
    rw [dif_neg h] at ht
    cases ht
    omega
end Go.Ab
