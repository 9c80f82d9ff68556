/-
  DERIVED. GIVEN WITH THE SEED: THE CARDS: each row of YtnpbeikcgagacaaGreatDoorRows.lean that lists a variable, with what it lists TIED to the program's text (the seventh form; the later family's looks); each row that meets fmt, with fmt's text TOLD by the authors' own Lean function (tested against real Go, not proved from fmt's source: count such statements apart). THE CARD IS WHAT COUNTS. Prove the row's statement (the work); the ties are given (YtnpbeikcgagacaaGreatDoorTie.lean); close each card by the builder's one call (the guide's Derived/Test/ToyasCard.lean, 'card_holds'). Laid BY PROGRAM, IN A SANDBOX (cutbox-door.mjs). By AI agents, Wed Nov 11 2026. No macro, syntax, notation, axiom, sorry.
-/
import Derived.Test.YtnpbeikcgagacaaGreatDoorRows
import GoSem.ClaimSeven
namespace Go.Proofs.YtnpbeikcgagacaaGreatDoor
namespace Rows

/-- THE TIED CARD OF 'millwrightlaw26.AmbigFaults'. -/
def ambigFaultsCard : Claim7 := { stood := { row := ambigFaultsRow, standIns := [], harness := (true, "8f4fb9111382fc31f98bbedd170a7a735fd1b12f263c6e80e624458d5b84373c"), looks := true }, kinds := [], alts := [], laidByText := true, laidKinds := [.handle, .sentinel, .sentinel, .sentinel, .sentinel, .sentinel, .sentinel, .sentinel, .sentinel, .sentinel, .sentinel, .sentinel, .sentinel, .sentinel, .sentinel, .sentinel, .sentinel, .sentinel, .sentinel, .data], laidTests := true, laidLooks := .later }
def AmbigFaultsCardSaid : Prop := Claim7.holds Tryz.pinned (.plain (OpenSpec.ofChange ambigFaultsSpec)) ambigFaultsCard

/-- THE SECOND FORM's CARD OF 'millwrightlaw26.AmbigFaults'. -/
def ambigFaultsUptoCard : Claim7 := { stood := { row := ambigFaultsUptoRow, standIns := [], harness := (true, "8f4fb9111382fc31f98bbedd170a7a735fd1b12f263c6e80e624458d5b84373c"), looks := true }, kinds := [], alts := [], laidByText := true, laidKinds := [.handle, .sentinel, .sentinel, .sentinel, .sentinel, .sentinel, .sentinel, .sentinel, .sentinel, .sentinel, .sentinel, .sentinel, .sentinel, .sentinel, .sentinel, .sentinel, .sentinel, .sentinel, .sentinel, .data], laidTests := true, laidLooks := .later }
def AmbigFaultsUptoCardSaid : Prop := Claim7.holds Tryz.pinned (.plain (OpenSpec.upto ambigFaultsSpec)) ambigFaultsUptoCard
end Rows
end Go.Proofs.YtnpbeikcgagacaaGreatDoor
