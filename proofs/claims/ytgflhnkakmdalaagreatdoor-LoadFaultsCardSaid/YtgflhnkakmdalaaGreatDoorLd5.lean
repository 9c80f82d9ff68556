/- One text of a proof that a law of this seat says true for every input: rules that are read. It holds of the given program under the conditions that the row prints. -/
import Derived.Test.YtgflhnkakmdalaaGreatDoorOrA
import Derived.Test.YtgflhnkakmdalaaGreatDoorAbHandP
import Derived.Test.YtgflhnkakmdalaaGreatDoorAbLibs3
import Derived.Test.YtgflhnkakmdalaaGreatDoorAbFast
import Derived.Test.YtgflhnkakmdalaaGreatDoorLnA
set_option linter.unusedSimpArgs false
set_option linter.unusedVariables false
set_option linter.unusedSectionVars false
set_option maxRecDepth 100000
namespace Go.Ab
open Go.Proofs
variable {glob : Nat → Option (List D)}
def E0ld : Abs := ext (ext (ext EL 63 F127) 94 F153) 126 F135
theorem E0ld_ok {m : Int} (h20 : glob 22 = some [.v (.int .i64 m)]) : ∀ f, Pure Tryz.prog (mkCtx tab glob) f (E0ld f) :=
  ext_ok (ext_ok (ext_ok (EL_ok h20) F127_ok) (F153_ok h20)) (F135_ok h20)
theorem fdsA_ok : fdsB orcAG orcA = true := by kernel_rfl
noncomputable abbrev orcLd (glob : Nat → Option (List D)) (k : Nat) : Abs × MAbs := orc (mkCtx tab glob) (fun f => fdLook f orcA) orcAG E0ld (fun _ _ _ => none) 40 k
theorem orcLd_ok {m : Int} (h20 : glob 22 = some [.v (.int .i64 m)]) (k : Nat) : (∀ f, Pure Tryz.prog (mkCtx tab glob) f ((orcLd glob k).1 f)) ∧ (∀ f, Turns Tryz.prog (mkCtx tab glob) f ((orcLd glob k).2 f)) :=
  orc_ok (T_ok glob) (E0ld_ok h20) gnone_ok (fds_ok orcA_fn fdsA_ok) k
/-- The chapter's example. -/
theorem evAliveLd (m : Int) (p : Nat → Addr) (o : Nat → Obj) (pw : Obj) : fnK ((mkCtx tab (erGlobP m p o pw)).on orcAG (orcLd (erGlobP m p o pw) 20).2) (orcLd (erGlobP m p o pw) 20).1 kp4 fr4 40 Tryz.f4 [] = some [.v (.bool true)] := by
  kernel_rfl
end Go.Ab
