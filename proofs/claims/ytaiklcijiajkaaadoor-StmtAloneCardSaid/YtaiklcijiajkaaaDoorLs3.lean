/- One text of a proof that a law of this seat says true for every input: a part of it. It holds of the given program under the conditions that the row prints. -/
import Derived.Test.YtaiklcijiajkaaaDoorLxH
set_option linter.unusedVariables false
set_option linter.unusedSimpArgs false
set_option maxRecDepth 100000
namespace Go.Ab
open Go.Proofs
variable {glob : Nat → Option (List D)} {p : Nat → Addr} {o : Nat → Obj}

set_option maxHeartbeats 16000000 in
theorem evSS3 (k k2 l l2 f f2 : Int) (n n2 q q2 r r2 : List UInt8) (hd hd2 cm cm2 bH bW : Bool) (hs hs2 ws ws2 : List D) (h_H : FSm [.sl 1 hs, .sl 1 hs2] = some [.v (.bool bH)]) (h_W : FSm [.sl 1 ws, .sl 1 ws2] = some [.v (.bool bW)]) (h_hid : (hd == hd2) = true) (h_cmd : (cm == cm2) = true) (h_fl : (f == f2) = false) : fnK (mkCtx tab glob) ELS kp6 fr6 0 Tryd.f6 [.st [.v (.int .i64 k), .v (.int .i64 l), .s n, .sl 1 hs, .sl 1 ws, .v (.int .i64 f), .s q, .s r, .v (.bool hd), .v (.bool cm)], .st [.v (.int .i64 k2), .v (.int .i64 l2), .s n2, .sl 1 hs2, .sl 1 ws2, .v (.int .i64 f2), .s q2, .s r2, .v (.bool hd2), .v (.bool cm2)]] = some [.v (.bool ((k == k2) && (l == l2) && (n == n2) && (f == f2) && (q == q2) && (r == r2) && (hd == hd2) && (cm == cm2) && bH && bW))] := by
  have hEL : ELS 9 = FSm := rfl
  cases h_nm : (n == n2) with
  | true =>
    cases h_rc : (r == r2) with
    | true =>
      cases h_kd : (k == k2) with
      | true =>
        cases h_ln : (l == l2) with
        | true =>
          simp (config := { maxSteps := 2000000 }) [Tryd.f6, hEL, h_hid, h_cmd, h_fl, h_nm, h_rc, h_kd, h_ln]
        | false =>
          simp (config := { maxSteps := 2000000 }) [Tryd.f6, hEL, h_hid, h_cmd, h_fl, h_nm, h_rc, h_kd, h_ln]
      | false =>
        simp (config := { maxSteps := 2000000 }) [Tryd.f6, hEL, h_hid, h_cmd, h_fl, h_nm, h_rc, h_kd]
    | false =>
      cases h_kd : (k == k2) with
      | true =>
        cases h_ln : (l == l2) with
        | true =>
          simp (config := { maxSteps := 2000000 }) [Tryd.f6, hEL, h_hid, h_cmd, h_fl, h_nm, h_rc, h_kd, h_ln]
        | false =>
          simp (config := { maxSteps := 2000000 }) [Tryd.f6, hEL, h_hid, h_cmd, h_fl, h_nm, h_rc, h_kd, h_ln]
      | false =>
        simp (config := { maxSteps := 2000000 }) [Tryd.f6, hEL, h_hid, h_cmd, h_fl, h_nm, h_rc, h_kd]
  | false =>
    cases h_kd : (k == k2) with
    | true =>
      cases h_ln : (l == l2) with
      | true =>
        simp (config := { maxSteps := 2000000 }) [Tryd.f6, hEL, h_hid, h_cmd, h_fl, h_nm, h_kd, h_ln]
      | false =>
        simp (config := { maxSteps := 2000000 }) [Tryd.f6, hEL, h_hid, h_cmd, h_fl, h_nm, h_kd, h_ln]
    | false =>
      simp (config := { maxSteps := 2000000 }) [Tryd.f6, hEL, h_hid, h_cmd, h_fl, h_nm, h_kd]
end Go.Ab
