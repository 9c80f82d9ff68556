/- One text of a proof that a law of this seat says true for every input: clashes. It holds of the given program under the conditions that the row prints. -/
import Derived.Test.YtnpbeikcgagacaaGreatDoorOrA
import Derived.Test.YtnpbeikcgagacaaGreatDoorAbIter
import Derived.Test.YtnpbeikcgagacaaGreatDoorAbLa
import Derived.Test.YtnpbeikcgagacaaGreatDoorAbD
import Derived.Test.YtnpbeikcgagacaaGreatDoorAbLibs3
import Derived.Test.YtnpbeikcgagacaaGreatDoorAbFast
set_option linter.unusedSimpArgs false
set_option linter.unusedVariables false
set_option linter.unusedSectionVars false
set_option maxRecDepth 100000
namespace Go.Ab
open Go.Proofs
variable {glob : Nat → Option (List D)}
/-- The library's functions that only read. -/
def E0am : Abs := ext (ext (ext (fun _ _ => none) 105 F93) 160 F127) 61 FSrt
theorem E0am_ok : ∀ f, Pure Tryz.prog (mkCtx tab glob) f (E0am f) :=
  ext_ok (ext_ok (ext_ok none_ok F93_ok) F127_ok) (FSrt_ok _)
/-- Those that hand back what is new, or that are given objects. -/
def M0am : MAbs := fun f => if f = 70 then GGrow else if f = 50 then GKeys 78 else if f = 52 then GKeysI 81 else if f = 25 then GClS else fun _ _ => none
theorem M0am_ok : ∀ f, Turns Tryz.prog (mkCtx tab glob) f (M0am f) := by
  intro f
  unfold M0am
  split
  · subst_vars; exact GGrow_ok (T_ok glob) rfl rfl
  · split
    · subst_vars; exact GKeysF_ok _
    · split
      · subst_vars; exact GKeysU_ok _
      · split
        · subst_vars; exact GClS_ok _
        · intro _ _ _ _ h; cases h
theorem fdsA_ok : fdsB orcAG orcA = true := by kernel_rfl
noncomputable abbrev orcAm (glob : Nat → Option (List D)) (k : Nat) : Abs × MAbs := orc (mkCtx tab glob) (fun f => fdLook f orcA) orcAG E0am M0am 40 k
theorem orcAm_ok (k : Nat) : (∀ f, Pure Tryz.prog (mkCtx tab glob) f ((orcAm glob k).1 f)) ∧ (∀ f, Turns Tryz.prog (mkCtx tab glob) f ((orcAm glob k).2 f)) :=
  orc_ok (T_ok glob) E0am_ok M0am_ok (fds_ok orcA_fn fdsA_ok) k
def wrAm : Nat → Bool := fun d => d == 1000013
/-- The chapter's example. -/
theorem evAliveAm (m : Int) (p : Nat → Addr) (o : Nat → Obj) : fnK (((mkCtx tab (erGlob m p o)).arrs wrAm).on orcAG (orcAm (erGlob m p o) 20).2) (orcAm (erGlob m p o) 20).1 kp4 fr4 40 Tryz.f4 [] = some [.v (.bool true)] := by
  kernel_rfl
end Go.Ab
