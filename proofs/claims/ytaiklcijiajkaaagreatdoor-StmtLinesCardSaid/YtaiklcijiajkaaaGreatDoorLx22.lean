/- One text of a proof that a law of this seat says true for every input: words, pieces and statements. It holds of the given program under the conditions that the row prints. -/
import Derived.Test.YtaiklcijiajkaaaGreatDoorLxH
set_option linter.unusedVariables false
set_option linter.unusedSimpArgs false
set_option maxRecDepth 100000
namespace Go.Ab
open Go.Proofs
variable {glob : Nat → Option (List D)} {p : Nat → Addr} {o : Nat → Obj}

set_option maxHeartbeats 8000000 in
/-- ref19.Same -/
theorem evRSSame (a b : Sm) (h1 : okW a.heads) (h2 : okW a.words) : fnK (mkCtx tab glob) ERS kp13 fr13 0 Tryz.f13 [encS a, encS b] = some [.v (.bool (smEq a b))] := by
  obtain ⟨k, l, n, hs, ws, f, q, r, hd, cm⟩ := a
  obtain ⟨k2, l2, n2, hs2, ws2, f2, q2, r2, hd2, cm2⟩ := b
  have hEL : ERS 24 = FSm := rfl
  have h_H := FSm_at hs hs2 h1
  have h_W := FSm_at ws ws2 h2
  simp only [encS, smC, smEq]
  generalize (k : Int) = k
  generalize (k2 : Int) = k2
  generalize (f : Int) = f
  generalize (f2 : Int) = f2
  generalize decide (hs = hs2) = bH at *
  generalize decide (ws = ws2) = bW at *
  cases h_kd : (k == k2) with
  | true =>
    cases h_ln : (l == l2) with
    | true =>
      cases h_nm : (n == n2) with
      | true =>
        cases h_fl : (f == f2) with
        | true =>
          cases h_pr : (q == q2) with
          | true =>
            cases h_rc : (r == r2) with
            | true =>
              cases h_hid : (hd == hd2) with
              | true =>
                cases h_cmd : (cm == cm2) with
                | true =>
                  cases h_hs : bH with
                  | true =>
                    cases h_ws : bW with
                    | true =>
                      simp (config := { maxSteps := 2000000 }) [Tryz.f13, hEL, h_H, h_W, h_kd, h_ln, h_nm, h_fl, h_pr, h_rc, h_hid, h_cmd, h_hs, h_ws, smEq]
                    | false =>
                      simp (config := { maxSteps := 2000000 }) [Tryz.f13, hEL, h_H, h_W, h_kd, h_ln, h_nm, h_fl, h_pr, h_rc, h_hid, h_cmd, h_hs, h_ws, smEq]
                  | false =>
                    simp (config := { maxSteps := 2000000 }) [Tryz.f13, hEL, h_H, h_kd, h_ln, h_nm, h_fl, h_pr, h_rc, h_hid, h_cmd, h_hs, smEq]
                | false =>
                  simp (config := { maxSteps := 2000000 }) [Tryz.f13, hEL, h_kd, h_ln, h_nm, h_fl, h_pr, h_rc, h_hid, h_cmd, smEq]
              | false =>
                simp (config := { maxSteps := 2000000 }) [Tryz.f13, hEL, h_kd, h_ln, h_nm, h_fl, h_pr, h_rc, h_hid, smEq]
            | false =>
              simp (config := { maxSteps := 2000000 }) [Tryz.f13, hEL, h_kd, h_ln, h_nm, h_fl, h_pr, h_rc, smEq]
          | false =>
            simp (config := { maxSteps := 2000000 }) [Tryz.f13, hEL, h_kd, h_ln, h_nm, h_fl, h_pr, smEq]
        | false =>
          simp (config := { maxSteps := 2000000 }) [Tryz.f13, hEL, h_kd, h_ln, h_nm, h_fl, smEq]
      | false =>
        simp (config := { maxSteps := 2000000 }) [Tryz.f13, hEL, h_kd, h_ln, h_nm, smEq]
    | false =>
      simp (config := { maxSteps := 2000000 }) [Tryz.f13, hEL, h_kd, h_ln, smEq]
  | false =>
    simp (config := { maxSteps := 2000000 }) [Tryz.f13, hEL, h_kd, smEq]
end Go.Ab
