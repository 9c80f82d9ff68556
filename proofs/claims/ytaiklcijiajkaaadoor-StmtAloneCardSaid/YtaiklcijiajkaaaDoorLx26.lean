/- One text of a proof that a law of this seat says true for every input: words, pieces and statements. It holds of the given program under the conditions that the row prints. -/
import Derived.Test.YtaiklcijiajkaaaDoorLx21
import Derived.Test.YtaiklcijiajkaaaDoorLx27
set_option linter.unusedVariables false
set_option linter.unusedSimpArgs false
set_option maxRecDepth 100000
namespace Go.Ab
open Go.Proofs
variable {glob : Nat → Option (List D)} {p : Nat → Addr} {o : Nat → Obj}

theorem LSm_ok : Pure Tryd.prog (mkCtx tab glob) 9 FSm := by
  refine pure_of (T_ok glob) EFq_ok Tryd.func9 (by kernel_rfl) (kp := kp9) (fr := fr9) (by kernel_rfl) fun ds rs hF => ?_
  obtain ⟨⟨a, b⟩, hw, rfl, h⟩ := liftG_some hF
  cases h
  exact ⟨0, evLSame a b hw⟩
theorem ELS_ok : ∀ f, Pure Tryd.prog (mkCtx tab glob) f (ELS f) := ext_ok none_ok LSm_ok
theorem SSE_ok : Pure Tryd.prog (mkCtx tab glob) 6 FSE := by
  refine pure_of (T_ok glob) ELS_ok Tryd.func6 (by kernel_rfl) (kp := kp6) (fr := fr6) (by kernel_rfl) fun ds rs hF => ?_
  obtain ⟨⟨a, b⟩, hw, rfl, h⟩ := liftG_some hF
  cases h
  exact ⟨0, evSSame a b hw.1 hw.2⟩
end Go.Ab
