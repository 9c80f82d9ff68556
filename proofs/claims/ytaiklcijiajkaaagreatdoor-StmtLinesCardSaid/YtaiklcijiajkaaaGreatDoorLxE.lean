/- One text of a proof that a law of this seat says true for every input: words, pieces and statements. It holds of the given program under the conditions that the row prints. -/
import Derived.Test.YtaiklcijiajkaaaGreatDoorAbG
import Derived.Test.YtaiklcijiajkaaaGreatDoorLx16
set_option linter.unusedVariables false
set_option maxRecDepth 100000
namespace Go.Ab
open Go.Proofs
/-- The functions that the interpreter knows. -/
noncomputable def orcL : List (FuncId × Fd) := [
  (6, ⟨Tryz.f6, kp6, fr6, fun _ => false⟩),
  (9, ⟨Tryz.f9, kp9, fr9, fun d => d == 4⟩),
  (20, ⟨Tryz.f20, kp20, fr20, fun _ => false⟩),
  (19, ⟨Tryz.f19, kp19, fr19, fun _ => false⟩),
  (37, ⟨Tryz.f37, kp37, fr37, fun _ => false⟩),
  (40, ⟨Tryz.f40, kp40, fr40, fun _ => false⟩),
  (41, ⟨Tryz.f41, kp41, fr41, fun _ => false⟩),
  (72, ⟨Tryz.f72, kp72, fr72, fun _ => false⟩),
  (39, ⟨Tryz.f39, kp39, fr39, fun _ => false⟩),
  (38, ⟨Tryz.f38, kp38, fr38, fun _ => false⟩),
  (71, ⟨Tryz.f71, kp71, fr71, fun _ => false⟩),
  (95, ⟨Tryz.f95, kp95, fr95, fun _ => false⟩),
  (96, ⟨Tryz.f96, kp96, fr96, fun _ => false⟩),
  (94, ⟨Tryz.f94, kp94, fr94, fun _ => false⟩),
  (111, ⟨Tryz.f111, kp111, fr111, fun _ => false⟩),
  (113, ⟨Tryz.f113, kp113, fr113, fun _ => false⟩),
  (68, ⟨Tryz.f68, kp68, fr68, fun _ => false⟩),
  (83, ⟨Tryz.f83, kp83, fr83, fun _ => false⟩),
  (74, ⟨Tryz.f74, kp74, fr74, fun _ => false⟩),
  (14, ⟨Tryz.f14, kp14, fr14, fun _ => false⟩),
  (25, ⟨Tryz.f25, kp25, fr25, fun _ => false⟩),
  (26, ⟨Tryz.f26, kp26, fr26, fun _ => false⟩),
  (27, ⟨Tryz.f27, kp27, fr27, fun _ => false⟩),
  (52, ⟨Tryz.f52, kp52, fr52, fun _ => false⟩),
  (69, ⟨Tryz.f69, kp69, fr69, fun _ => false⟩),
  (70, ⟨Tryz.f70, kp70, fr70, fun _ => false⟩),
  (109, ⟨Tryz.f109, kp109, fr109, fun _ => false⟩),
  (112, ⟨Tryz.f112, kp112, fr112, fun _ => false⟩),
  (107, ⟨Tryz.f107, kp107, fr107, fun _ => false⟩),
  (110, ⟨Tryz.f110, kp110, fr110, fun _ => false⟩),
  (91, ⟨Tryz.f91, kp91, fr91, fun _ => false⟩),
  (92, ⟨Tryz.f92, kp92, fr92, fun _ => false⟩),
  (93, ⟨Tryz.f93, kp93, fr93, fun _ => false⟩)]
theorem orcL_fn : ∀ x ∈ orcL, Tryz.prog.funcs[x.1]? = some x.2.fn :=
  all_cons' Tryz.func6 (all_cons' Tryz.func9 (all_cons' Tryz.func20 (all_cons' Tryz.func19 (all_cons' Tryz.func37 (all_cons' Tryz.func40 (all_cons' Tryz.func41 (all_cons' Tryz.func72 (all_cons' Tryz.func39 (all_cons' Tryz.func38 (all_cons' Tryz.func71 (all_cons' Tryz.func95 (all_cons' Tryz.func96 (all_cons' Tryz.func94 (all_cons' Tryz.func111 (all_cons' Tryz.func113 (all_cons' Tryz.func68 (all_cons' Tryz.func83 (all_cons' Tryz.func74 (all_cons' Tryz.func14 (all_cons' Tryz.func25 (all_cons' Tryz.func26 (all_cons' Tryz.func27 (all_cons' Tryz.func52 (all_cons' Tryz.func69 (all_cons' Tryz.func70 (all_cons' Tryz.func109 (all_cons' Tryz.func112 (all_cons' Tryz.func107 (all_cons' Tryz.func110 (all_cons' Tryz.func91 (all_cons' Tryz.func92 (all_cons' Tryz.func93 (all_nil')))))))))))))))))))))))))))))))))
end Go.Ab

set_option linter.unusedVariables false
set_option linter.unusedSimpArgs false
set_option maxRecDepth 100000
namespace Go.Ab
open Go.Proofs
variable {glob : Nat → Option (List D)}
def E0s : Abs := ext (ext (ext EL 36 F127) 73 F153) 108 F135
theorem E0s_ok {m : Int} (h20 : glob 19 = some [.v (.int .i64 m)]) : ∀ f, Pure Tryz.prog (mkCtx tab glob) f (E0s f) :=
  ext_ok (ext_ok (ext_ok (EL_ok h20) F127_ok) (F153_ok h20)) (F135_ok h20)
theorem fdsS_ok : fdsB gfL orcL = true := by kernel_rfl
noncomputable abbrev orcS (glob : Nat → Option (List D)) (k : Nat) : Abs × MAbs := orc (mkCtx tab glob) (fun f => fdLook f orcL) gfL E0s 40 k
theorem orcS_ok {m : Int} (h20 : glob 19 = some [.v (.int .i64 m)]) (k : Nat) : (∀ f, Pure Tryz.prog (mkCtx tab glob) f ((orcS glob k).1 f)) ∧ (∀ f, Turns Tryz.prog (mkCtx tab glob) f ((orcS glob k).2 f)) :=
  orc_ok (T_ok glob) (E0s_ok h20) (fds_ok orcL_fn fdsS_ok) k
/-- The chapter's example. -/
theorem ev_alive : fnK ((mkCtx tab glob).on gfL (orcS glob 10).2) (orcS glob 10).1 kp5 fr5 40 Tryz.f5 [] = some [.v (.bool true)] := by
  kernel_rfl
end Go.Ab
