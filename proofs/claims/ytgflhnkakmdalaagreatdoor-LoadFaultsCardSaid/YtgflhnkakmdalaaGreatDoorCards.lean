/-
  DERIVED. GIVEN WITH THE SEED: THE CARDS: each row of YtgflhnkakmdalaaGreatDoorRows.lean that lists a variable, with what it lists TIED to the program's text (the seventh form; the later family's looks); each row that meets fmt, with fmt's text TOLD by the authors' own Lean function (tested against real Go, not proved from fmt's source: count such statements apart). THE CARD IS WHAT COUNTS. Prove the row's statement (the work); the ties are given (YtgflhnkakmdalaaGreatDoorTie.lean); close each card by the builder's one call (the guide's Derived/Test/ToyasCard.lean, 'card_holds'). Laid BY PROGRAM, IN A SANDBOX (cutbox-door.mjs). By AI agents, Wed Nov 11 2026. No macro, syntax, notation, axiom, sorry.
-/
import Derived.Test.YtgflhnkakmdalaaGreatDoorRows
import GoSem.ClaimSeven
namespace Go.Proofs.YtgflhnkakmdalaaGreatDoor
namespace Rows

/-- THE TIED CARD OF 'millwrightlaw20.LoadFaults'. -/
def loadFaultsCard : Claim7 := { stood := { row := loadFaultsRow, standIns := [], harness := (true, "8177ea637335da23c8e763c9d1f207b25a624cdd32f76a39b22a4a2513fbca6b"), looks := true }, kinds := [], alts := [], laidByText := true, laidKinds := [.data, .data, .data, .data, .handle, .sentinel, .sentinel, .sentinel, .sentinel, .sentinel, .sentinel, .sentinel, .sentinel, .sentinel, .sentinel, .sentinel, .sentinel, .sentinel, .sentinel, .sentinel, .sentinel, .sentinel, .sentinel, .pinned], laidTests := true, laidLooks := .later }
def LoadFaultsCardSaid : Prop := Claim7.holds Tryz.pinned (.plain (OpenSpec.ofChange loadFaultsSpec)) loadFaultsCard

/-- THE SECOND FORM's CARD OF 'millwrightlaw20.LoadFaults'. -/
def loadFaultsUptoCard : Claim7 := { stood := { row := loadFaultsUptoRow, standIns := [], harness := (true, "8177ea637335da23c8e763c9d1f207b25a624cdd32f76a39b22a4a2513fbca6b"), looks := true }, kinds := [], alts := [], laidByText := true, laidKinds := [.data, .data, .data, .data, .handle, .sentinel, .sentinel, .sentinel, .sentinel, .sentinel, .sentinel, .sentinel, .sentinel, .sentinel, .sentinel, .sentinel, .sentinel, .sentinel, .sentinel, .sentinel, .sentinel, .sentinel, .sentinel, .pinned], laidTests := true, laidLooks := .later }
def LoadFaultsUptoCardSaid : Prop := Claim7.holds Tryz.pinned (.plain (OpenSpec.upto loadFaultsSpec)) loadFaultsUptoCard
end Rows
end Go.Proofs.YtgflhnkakmdalaaGreatDoor
