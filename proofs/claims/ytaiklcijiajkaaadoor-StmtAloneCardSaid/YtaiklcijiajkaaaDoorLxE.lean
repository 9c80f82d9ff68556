/- One text of a proof that a law of this seat says true for every input: words, pieces and statements. It holds of the given program under the conditions that the row prints. -/
import Derived.Test.YtaiklcijiajkaaaDoorAbG
import Derived.Test.YtaiklcijiajkaaaDoorLx16
set_option linter.unusedVariables false
set_option maxRecDepth 100000
namespace Go.Ab
open Go.Proofs
/-- The functions that the interpreter knows. -/
noncomputable def orcL : List (FuncId × Fd) := [
  (5, ⟨Tryd.f5, kp5, fr5, fun _ => false⟩),
  (8, ⟨Tryd.f8, kp8, fr8, fun d => d == 4⟩),
  (14, ⟨Tryd.f14, kp14, fr14, fun _ => false⟩),
  (13, ⟨Tryd.f13, kp13, fr13, fun _ => false⟩),
  (23, ⟨Tryd.f23, kp23, fr23, fun _ => false⟩),
  (26, ⟨Tryd.f26, kp26, fr26, fun _ => false⟩),
  (27, ⟨Tryd.f27, kp27, fr27, fun _ => false⟩),
  (44, ⟨Tryd.f44, kp44, fr44, fun _ => false⟩),
  (25, ⟨Tryd.f25, kp25, fr25, fun _ => false⟩),
  (24, ⟨Tryd.f24, kp24, fr24, fun _ => false⟩),
  (43, ⟨Tryd.f43, kp43, fr43, fun _ => false⟩),
  (61, ⟨Tryd.f61, kp61, fr61, fun _ => false⟩),
  (62, ⟨Tryd.f62, kp62, fr62, fun _ => false⟩),
  (60, ⟨Tryd.f60, kp60, fr60, fun _ => false⟩),
  (74, ⟨Tryd.f74, kp74, fr74, fun _ => false⟩),
  (76, ⟨Tryd.f76, kp76, fr76, fun _ => false⟩),
  (40, ⟨Tryd.f40, kp40, fr40, fun _ => false⟩),
  (31, ⟨Tryd.f31, kp31, fr31, fun _ => false⟩),
  (46, ⟨Tryd.f46, kp46, fr46, fun _ => false⟩),
  (7, ⟨Tryd.f7, kp7, fr7, fun _ => false⟩),
  (10, ⟨Tryd.f10, kp10, fr10, fun _ => false⟩),
  (11, ⟨Tryd.f11, kp11, fr11, fun _ => false⟩),
  (12, ⟨Tryd.f12, kp12, fr12, fun _ => false⟩),
  (20, ⟨Tryd.f20, kp20, fr20, fun _ => false⟩),
  (41, ⟨Tryd.f41, kp41, fr41, fun _ => false⟩),
  (42, ⟨Tryd.f42, kp42, fr42, fun _ => false⟩),
  (72, ⟨Tryd.f72, kp72, fr72, fun _ => false⟩),
  (75, ⟨Tryd.f75, kp75, fr75, fun _ => false⟩),
  (70, ⟨Tryd.f70, kp70, fr70, fun _ => false⟩),
  (73, ⟨Tryd.f73, kp73, fr73, fun _ => false⟩),
  (57, ⟨Tryd.f57, kp57, fr57, fun _ => false⟩),
  (58, ⟨Tryd.f58, kp58, fr58, fun _ => false⟩),
  (59, ⟨Tryd.f59, kp59, fr59, fun _ => false⟩)]
theorem orcL_fn : ∀ x ∈ orcL, Tryd.prog.funcs[x.1]? = some x.2.fn :=
  all_cons' Tryd.func5 (all_cons' Tryd.func8 (all_cons' Tryd.func14 (all_cons' Tryd.func13 (all_cons' Tryd.func23 (all_cons' Tryd.func26 (all_cons' Tryd.func27 (all_cons' Tryd.func44 (all_cons' Tryd.func25 (all_cons' Tryd.func24 (all_cons' Tryd.func43 (all_cons' Tryd.func61 (all_cons' Tryd.func62 (all_cons' Tryd.func60 (all_cons' Tryd.func74 (all_cons' Tryd.func76 (all_cons' Tryd.func40 (all_cons' Tryd.func31 (all_cons' Tryd.func46 (all_cons' Tryd.func7 (all_cons' Tryd.func10 (all_cons' Tryd.func11 (all_cons' Tryd.func12 (all_cons' Tryd.func20 (all_cons' Tryd.func41 (all_cons' Tryd.func42 (all_cons' Tryd.func72 (all_cons' Tryd.func75 (all_cons' Tryd.func70 (all_cons' Tryd.func73 (all_cons' Tryd.func57 (all_cons' Tryd.func58 (all_cons' Tryd.func59 (all_nil')))))))))))))))))))))))))))))))))
end Go.Ab

set_option linter.unusedVariables false
set_option linter.unusedSimpArgs false
set_option maxRecDepth 100000
namespace Go.Ab
open Go.Proofs
variable {glob : Nat → Option (List D)}
def E0s : Abs := ext (ext (ext EL 22 F127) 45 F153) 71 F135
theorem E0s_ok {m : Int} (h20 : glob 5 = some [.v (.int .i64 m)]) : ∀ f, Pure Tryd.prog (mkCtx tab glob) f (E0s f) :=
  ext_ok (ext_ok (ext_ok (EL_ok h20) F127_ok) (F153_ok h20)) (F135_ok h20)
theorem fdsS_ok : fdsB gfL orcL = true := by kernel_rfl
noncomputable abbrev orcS (glob : Nat → Option (List D)) (k : Nat) : Abs × MAbs := orc (mkCtx tab glob) (fun f => fdLook f orcL) gfL E0s 40 k
theorem orcS_ok {m : Int} (h20 : glob 5 = some [.v (.int .i64 m)]) (k : Nat) : (∀ f, Pure Tryd.prog (mkCtx tab glob) f ((orcS glob k).1 f)) ∧ (∀ f, Turns Tryd.prog (mkCtx tab glob) f ((orcS glob k).2 f)) :=
  orc_ok (T_ok glob) (E0s_ok h20) (fds_ok orcL_fn fdsS_ok) k
/-- The chapter's example. -/
theorem ev_alive : fnK ((mkCtx tab glob).on gfL (orcS glob 10).2) (orcS glob 10).1 kp4 fr4 40 Tryd.f4 [] = some [.v (.bool true)] := by
  kernel_rfl
end Go.Ab
