/-
  DERIVED. GIVEN WITH THE SEED: THE CARDS: each row of YtaiklcijiajkaaaGreatDoorRows.lean that lists a variable, with what it lists TIED to the program's text (the seventh form; the later family's looks); each row that meets fmt, with fmt's text TOLD by the authors' own Lean function (tested against real Go, not proved from fmt's source: count such statements apart). THE CARD IS WHAT COUNTS. Prove the row's statement (the work); the ties are given (YtaiklcijiajkaaaGreatDoorTie.lean); close each card by the builder's one call (the guide's Derived/Test/ToyasCard.lean, 'card_holds'). Laid BY PROGRAM, IN A SANDBOX (cutbox-door.mjs). By AI agents, Wed Nov 11 2026. No macro, syntax, notation, axiom, sorry.
-/
import Derived.Test.YtaiklcijiajkaaaGreatDoorRows
import GoSem.ClaimSeven
namespace Go.Proofs.YtaiklcijiajkaaaGreatDoor
namespace Rows

/-- THE TIED CARD OF 'millwrightlaw19.StmtTexts'. -/
def stmtTextsCard : Claim7 := { stood := { row := stmtTextsRow, standIns := [], harness := (true, "e62fa124af10d46579833ec7856ab45fa6445fcd756cf03227258783d3a037ff"), looks := true }, kinds := [], alts := [], laidByText := true, laidKinds := [.data, .handle, .sentinel, .sentinel, .sentinel, .sentinel, .sentinel, .sentinel, .sentinel, .sentinel, .sentinel, .sentinel, .sentinel, .sentinel, .sentinel, .sentinel, .sentinel, .sentinel, .sentinel, .sentinel, .pinned], laidTests := true, laidLooks := .later }
def StmtTextsCardSaid : Prop := Claim7.holds Tryz.pinned (.plain (OpenSpec.ofChange stmtTextsSpec)) stmtTextsCard

/-- THE TIED CARD OF 'millwrightlaw19.StmtLines'. -/
def stmtLinesCard : Claim7 := { stood := { row := stmtLinesRow, standIns := [], harness := (true, "e62fa124af10d46579833ec7856ab45fa6445fcd756cf03227258783d3a037ff"), looks := true }, kinds := [], alts := [], laidByText := true, laidKinds := [.data, .handle, .sentinel, .sentinel, .sentinel, .sentinel, .sentinel, .sentinel, .sentinel, .sentinel, .sentinel, .sentinel, .sentinel, .sentinel, .sentinel, .sentinel, .sentinel, .sentinel, .sentinel, .sentinel, .pinned], laidTests := true, laidLooks := .later }
def StmtLinesCardSaid : Prop := Claim7.holds Tryz.pinned (.plain (OpenSpec.ofChange stmtLinesSpec)) stmtLinesCard

/-- THE SECOND FORM's CARD OF 'millwrightlaw19.StmtTexts'. -/
def stmtTextsUptoCard : Claim7 := { stood := { row := stmtTextsUptoRow, standIns := [], harness := (true, "e62fa124af10d46579833ec7856ab45fa6445fcd756cf03227258783d3a037ff"), looks := true }, kinds := [], alts := [], laidByText := true, laidKinds := [.data, .handle, .sentinel, .sentinel, .sentinel, .sentinel, .sentinel, .sentinel, .sentinel, .sentinel, .sentinel, .sentinel, .sentinel, .sentinel, .sentinel, .sentinel, .sentinel, .sentinel, .sentinel, .sentinel, .pinned], laidTests := true, laidLooks := .later }
def StmtTextsUptoCardSaid : Prop := Claim7.holds Tryz.pinned (.plain (OpenSpec.upto stmtTextsSpec)) stmtTextsUptoCard

/-- THE SECOND FORM's CARD OF 'millwrightlaw19.StmtLines'. -/
def stmtLinesUptoCard : Claim7 := { stood := { row := stmtLinesUptoRow, standIns := [], harness := (true, "e62fa124af10d46579833ec7856ab45fa6445fcd756cf03227258783d3a037ff"), looks := true }, kinds := [], alts := [], laidByText := true, laidKinds := [.data, .handle, .sentinel, .sentinel, .sentinel, .sentinel, .sentinel, .sentinel, .sentinel, .sentinel, .sentinel, .sentinel, .sentinel, .sentinel, .sentinel, .sentinel, .sentinel, .sentinel, .sentinel, .sentinel, .pinned], laidTests := true, laidLooks := .later }
def StmtLinesUptoCardSaid : Prop := Claim7.holds Tryz.pinned (.plain (OpenSpec.upto stmtLinesSpec)) stmtLinesUptoCard
end Rows
end Go.Proofs.YtaiklcijiajkaaaGreatDoor
