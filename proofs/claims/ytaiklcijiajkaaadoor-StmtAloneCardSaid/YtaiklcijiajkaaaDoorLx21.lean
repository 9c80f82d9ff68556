/- One text of a proof that a law of this seat says true for every input: words, pieces and statements. It holds of the given program under the conditions that the row prints. -/
import Derived.Test.YtaiklcijiajkaaaDoorLs1
import Derived.Test.YtaiklcijiajkaaaDoorLs2
import Derived.Test.YtaiklcijiajkaaaDoorLs3
import Derived.Test.YtaiklcijiajkaaaDoorLs4
import Derived.Test.YtaiklcijiajkaaaDoorLs5
set_option linter.unusedVariables false
set_option linter.unusedSimpArgs false
set_option maxRecDepth 100000
namespace Go.Ab
open Go.Proofs
variable {glob : Nat → Option (List D)} {p : Nat → Addr} {o : Nat → Obj}

theorem evSS (k k2 l l2 f f2 : Int) (n n2 q q2 r r2 : List UInt8) (hd hd2 cm cm2 bH bW : Bool) (hs hs2 ws ws2 : List D) (h_H : FSm [.sl 1 hs, .sl 1 hs2] = some [.v (.bool bH)]) (h_W : FSm [.sl 1 ws, .sl 1 ws2] = some [.v (.bool bW)]) : fnK (mkCtx tab glob) ELS kp6 fr6 0 Tryd.f6 [.st [.v (.int .i64 k), .v (.int .i64 l), .s n, .sl 1 hs, .sl 1 ws, .v (.int .i64 f), .s q, .s r, .v (.bool hd), .v (.bool cm)], .st [.v (.int .i64 k2), .v (.int .i64 l2), .s n2, .sl 1 hs2, .sl 1 ws2, .v (.int .i64 f2), .s q2, .s r2, .v (.bool hd2), .v (.bool cm2)]] = some [.v (.bool ((k == k2) && (l == l2) && (n == n2) && (f == f2) && (q == q2) && (r == r2) && (hd == hd2) && (cm == cm2) && bH && bW))] := by
  cases h_hid : (hd == hd2) with
  | false => exact (evSS1 k k2 l l2 f f2 n n2 q q2 r r2 hd hd2 cm cm2 bH bW hs hs2 ws ws2 h_H h_W h_hid).trans (by simp only [h_hid])
  | true =>
    cases h_cmd : (cm == cm2) with
    | false => exact (evSS2 k k2 l l2 f f2 n n2 q q2 r r2 hd hd2 cm cm2 bH bW hs hs2 ws ws2 h_H h_W h_hid h_cmd).trans (by simp only [h_hid, h_cmd])
    | true =>
      cases h_fl : (f == f2) with
      | false => exact (evSS3 k k2 l l2 f f2 n n2 q q2 r r2 hd hd2 cm cm2 bH bW hs hs2 ws ws2 h_H h_W h_hid h_cmd h_fl).trans (by simp only [h_hid, h_cmd, h_fl])
      | true =>
        cases h_pr : (q == q2) with
        | false => exact (evSS4 k k2 l l2 f f2 n n2 q q2 r r2 hd hd2 cm cm2 bH bW hs hs2 ws ws2 h_H h_W h_hid h_cmd h_fl h_pr).trans (by simp only [h_hid, h_cmd, h_fl, h_pr])
        | true =>
          exact (evSS5 k k2 l l2 f f2 n n2 q q2 r r2 hd hd2 cm cm2 bH bW hs hs2 ws ws2 h_H h_W h_hid h_cmd h_fl h_pr).trans (by simp only [h_hid, h_cmd, h_fl, h_pr])
/-- stmt.Same -/
theorem evSSame (a b : Sm) (h1 : okW a.heads) (h2 : okW a.words) : fnK (mkCtx tab glob) ELS kp6 fr6 0 Tryd.f6 [encS a, encS b] = some [.v (.bool (smEq a b))] :=
  evSS a.kind b.kind a.line b.line a.flags b.flags a.name b.name a.prog b.prog a.recipe b.recipe a.hidden b.hidden a.command b.command _ _ _ _ _ _ (FSm_at a.heads b.heads h1) (FSm_at a.words b.words h2)
end Go.Ab
