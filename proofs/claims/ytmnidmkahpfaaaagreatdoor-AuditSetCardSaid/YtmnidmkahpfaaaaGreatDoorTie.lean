/-
  DERIVED. GIVEN WITH THE SEED: THE PROGRAM's TIES (one call each: nine closed facts by the kernel) AND EACH ROW's TIE, after the 31st guide's Derived/Test/Toyas{Tie, Card}.lean. No idea stands in it: it is a product of the set-up. Laid BY PROGRAM, IN A SANDBOX (cutbox-door.mjs). By AI agents, Wed Nov 11 2026. No macro, syntax, notation, axiom, sorry.
-/
import Derived.Test.YtmnidmkahpfaaaaGreatDoorRows
import Derived.LaidByTextLater
import Derived.SevenTiedAt
import Derived.LaidSub
import Derived.LaidOnce
namespace Go.Proofs.YtmnidmkahpfaaaaGreatDoor
open Go
set_option maxRecDepth 100000
theorem seatTie1 : Tryz.prog.laidByTextLater [("millwright/api.ErrRange", Rows.laid_millwright_api_ErrRange), ("millwright/api.ErrForm", Rows.laid_millwright_api_ErrForm), ("millwright/api.ErrNone", Rows.laid_millwright_api_ErrNone), ("millwright/api.ErrDup", Rows.laid_millwright_api_ErrDup), ("millwright/api.ErrFull", Rows.laid_millwright_api_ErrFull), ("millwright/api.ErrCycle", Rows.laid_millwright_api_ErrCycle), ("millwright/api.ErrState", Rows.laid_millwright_api_ErrState), ("millwright/api.ErrFail", Rows.laid_millwright_api_ErrFail), ("millwright/api.ErrKind", Rows.laid_millwright_api_ErrKind)] [.sentinel, .sentinel, .sentinel, .sentinel, .sentinel, .sentinel, .sentinel, .sentinel, .sentinel] true :=
  Program.laidByTextLater_by_one 180 8 2 (by kernel_rfl) (by kernel_rfl) (by kernel_rfl) (by kernel_rfl) (by kernel_rfl) (by kernel_rfl) (fun _ _ => by kernel_rfl)
theorem noOwnUnsafe : Tryz.pinned.checked.prog.headLifts.contains "ownunsafe" = false := by kernel_rfl
theorem tie : Tryz.prog.laidByTextLater [("millwright/api.ErrRange", Rows.laid_millwright_api_ErrRange), ("millwright/api.ErrForm", Rows.laid_millwright_api_ErrForm), ("millwright/api.ErrNone", Rows.laid_millwright_api_ErrNone), ("millwright/api.ErrDup", Rows.laid_millwright_api_ErrDup), ("millwright/api.ErrFull", Rows.laid_millwright_api_ErrFull), ("millwright/api.ErrCycle", Rows.laid_millwright_api_ErrCycle), ("millwright/api.ErrState", Rows.laid_millwright_api_ErrState), ("millwright/api.ErrFail", Rows.laid_millwright_api_ErrFail), ("millwright/api.ErrKind", Rows.laid_millwright_api_ErrKind)] [.sentinel, .sentinel, .sentinel, .sentinel, .sentinel, .sentinel, .sentinel, .sentinel, .sentinel] true :=
  Program.laidByTextLater.sub seatTie1 ["millwright/api.ErrRange", "millwright/api.ErrForm", "millwright/api.ErrNone", "millwright/api.ErrDup", "millwright/api.ErrFull", "millwright/api.ErrCycle", "millwright/api.ErrState", "millwright/api.ErrFail", "millwright/api.ErrKind"] (by kernel_rfl) (by kernel_rfl)
theorem auditSet_row_tie : Rows.auditSetRow.laidByTextAt .later Tryz.pinned [.sentinel, .sentinel, .sentinel, .sentinel, .sentinel, .sentinel, .sentinel, .sentinel, .sentinel] true :=
  OpenClaim.laidByTextAt_later rfl rfl tie noOwnUnsafe
theorem auditSetUpto_row_tie : Rows.auditSetUptoRow.laidByTextAt .later Tryz.pinned [.sentinel, .sentinel, .sentinel, .sentinel, .sentinel, .sentinel, .sentinel, .sentinel, .sentinel] true :=
  OpenClaim.laidByTextAt_later rfl rfl tie noOwnUnsafe
end Go.Proofs.YtmnidmkahpfaaaaGreatDoor
