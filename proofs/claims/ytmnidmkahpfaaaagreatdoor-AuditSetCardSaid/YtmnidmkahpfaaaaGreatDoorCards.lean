/-
  DERIVED. GIVEN WITH THE SEED: THE CARDS: each row of YtmnidmkahpfaaaaGreatDoorRows.lean that lists a variable, with what it lists TIED to the program's text (the seventh form; the later family's looks); each row that meets fmt, with fmt's text TOLD by the authors' own Lean function (tested against real Go, not proved from fmt's source: count such statements apart). THE CARD IS WHAT COUNTS. Prove the row's statement (the work); the ties are given (YtmnidmkahpfaaaaGreatDoorTie.lean); close each card by the builder's one call (the guide's Derived/Test/ToyasCard.lean, 'card_holds'). Laid BY PROGRAM, IN A SANDBOX (cutbox-door.mjs). By AI agents, Wed Nov 11 2026. No macro, syntax, notation, axiom, sorry.
-/
import Derived.Test.YtmnidmkahpfaaaaGreatDoorRows
import GoSem.ClaimSeven
namespace Go.Proofs.YtmnidmkahpfaaaaGreatDoor
namespace Rows

/-- THE TIED CARD OF 'millwrightlaw37.AuditSet'. -/
def auditSetCard : Claim7 := { stood := { row := auditSetRow, standIns := [], harness := (true, "36eae5eba2fa5e493e1330aa73538984b82c3b33171356e54c6a04913563ec9d"), looks := false }, kinds := [], alts := [], laidByText := true, laidKinds := [.sentinel, .sentinel, .sentinel, .sentinel, .sentinel, .sentinel, .sentinel, .sentinel, .sentinel], laidTests := true, laidLooks := .later }
def AuditSetCardSaid : Prop := Claim7.holds Tryz.pinned (.plain (OpenSpec.ofChange auditSetSpec)) auditSetCard

/-- THE SECOND FORM's CARD OF 'millwrightlaw37.AuditSet'. -/
def auditSetUptoCard : Claim7 := { stood := { row := auditSetUptoRow, standIns := [], harness := (true, "36eae5eba2fa5e493e1330aa73538984b82c3b33171356e54c6a04913563ec9d"), looks := false }, kinds := [], alts := [], laidByText := true, laidKinds := [.sentinel, .sentinel, .sentinel, .sentinel, .sentinel, .sentinel, .sentinel, .sentinel, .sentinel], laidTests := true, laidLooks := .later }
def AuditSetUptoCardSaid : Prop := Claim7.holds Tryz.pinned (.plain (OpenSpec.upto auditSetSpec)) auditSetUptoCard
end Rows
end Go.Proofs.YtmnidmkahpfaaaaGreatDoor
