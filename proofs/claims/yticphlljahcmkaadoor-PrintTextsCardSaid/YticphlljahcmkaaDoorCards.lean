/-
  DERIVED. GIVEN WITH THE SEED: THE CARDS: each row of YticphlljahcmkaaDoorRows.lean that lists a variable, with what it lists TIED to the program's text (the seventh form; the later family's looks); each row that meets fmt, with fmt's text TOLD by the authors' own Lean function (tested against real Go, not proved from fmt's source: count such statements apart). THE CARD IS WHAT COUNTS. Prove the row's statement (the work); the ties are given (YticphlljahcmkaaDoorTie.lean); close each card by the builder's one call (the guide's Derived/Test/ToyasCard.lean, 'card_holds'). Laid BY PROGRAM, IN A SANDBOX (cutbox-door.mjs). By AI agents, Wed Nov 11 2026. No macro, syntax, notation, axiom, sorry.
-/
import Derived.Test.YticphlljahcmkaaDoorRows
import GoSem.ClaimSeven
namespace Go.Proofs.YticphlljahcmkaaDoor
namespace Rows

/-- THE TIED CARD OF 'millwrightlaw36.ReportFiles'. -/
def reportFilesCard : Claim7 := { stood := { row := reportFilesRow, standIns := [], harness := (true, "95b1e0ac3f4a5e96c11f43ebed4fbaccf9109462b3bf646be5b0c9d59810bfee"), looks := true }, kinds := [], alts := [], laidByText := true, laidKinds := [.data, .data, .data, .data], laidTests := true, laidLooks := .later }
def ReportFilesCardSaid : Prop := Claim7.holds Tryd.pinned (.plain (OpenSpec.ofChange reportFilesSpec)) reportFilesCard

/-- THE TIED CARD OF 'millwrightlaw40.PrintPlain'. -/
def printPlainCard : Claim7 := { stood := { row := printPlainRow, standIns := [], harness := (true, "95b1e0ac3f4a5e96c11f43ebed4fbaccf9109462b3bf646be5b0c9d59810bfee"), looks := true }, kinds := [], alts := [], laidByText := true, laidKinds := [.data, .sentinel, .sentinel, .sentinel, .pinned], laidTests := true, laidLooks := .later }
def PrintPlainCardSaid : Prop := Claim7.holds Tryd.pinned (.plain (OpenSpec.ofChange printPlainSpec)) printPlainCard

/-- THE TIED CARD OF 'millwrightlaw40.PrintTexts'. -/
def printTextsCard : Claim7 := { stood := { row := printTextsRow, standIns := [], harness := (true, "95b1e0ac3f4a5e96c11f43ebed4fbaccf9109462b3bf646be5b0c9d59810bfee"), looks := true }, kinds := [], alts := [], laidByText := true, laidKinds := [.data, .sentinel, .sentinel, .sentinel, .sentinel, .sentinel, .sentinel, .sentinel, .sentinel, .sentinel, .sentinel, .sentinel, .sentinel, .sentinel, .sentinel, .sentinel, .sentinel, .sentinel, .sentinel, .pinned], laidTests := true, laidLooks := .later }
def PrintTextsCardSaid : Prop := Claim7.holds Tryd.pinned (.plain (OpenSpec.ofChange printTextsSpec)) printTextsCard

/-- THE TIED CARD OF 'millwrightlaw12.LinesJoin'. -/
def linesJoinCard : Claim7 := { stood := { row := linesJoinRow, standIns := [], harness := (true, "95b1e0ac3f4a5e96c11f43ebed4fbaccf9109462b3bf646be5b0c9d59810bfee"), looks := true }, kinds := [], alts := [], laidByText := true, laidKinds := [.data, .sentinel, .sentinel, .pinned], laidTests := true, laidLooks := .later }
def LinesJoinCardSaid : Prop := Claim7.holds Tryd.pinned (.plain (OpenSpec.ofChange linesJoinSpec)) linesJoinCard

/-- THE TIED CARD OF 'millwrightlaw12.LinesWhole'. -/
def linesWholeCard : Claim7 := { stood := { row := linesWholeRow, standIns := [], harness := (true, "95b1e0ac3f4a5e96c11f43ebed4fbaccf9109462b3bf646be5b0c9d59810bfee"), looks := true }, kinds := [], alts := [], laidByText := true, laidKinds := [.data, .sentinel, .sentinel, .pinned], laidTests := true, laidLooks := .later }
def LinesWholeCardSaid : Prop := Claim7.holds Tryd.pinned (.plain (OpenSpec.ofChange linesWholeSpec)) linesWholeCard

/-- THE TIED CARD OF 'millwrightlaw12.LinesSplit'. -/
def linesSplitCard : Claim7 := { stood := { row := linesSplitRow, standIns := [], harness := (true, "95b1e0ac3f4a5e96c11f43ebed4fbaccf9109462b3bf646be5b0c9d59810bfee"), looks := true }, kinds := [], alts := [], laidByText := true, laidKinds := [.data, .handle, .sentinel, .sentinel, .sentinel, .sentinel, .sentinel, .sentinel, .sentinel, .sentinel, .sentinel, .sentinel, .sentinel, .sentinel, .sentinel, .sentinel, .sentinel, .sentinel, .sentinel, .sentinel, .pinned], laidTests := true, laidLooks := .later }
def LinesSplitCardSaid : Prop := Claim7.holds Tryd.pinned (.plain (OpenSpec.ofChange linesSplitSpec)) linesSplitCard

/-- THE TIED CARD OF 'millwrightlaw12.LinesFaults'. -/
def linesFaultsCard : Claim7 := { stood := { row := linesFaultsRow, standIns := [], harness := (true, "95b1e0ac3f4a5e96c11f43ebed4fbaccf9109462b3bf646be5b0c9d59810bfee"), looks := true }, kinds := [], alts := [], laidByText := true, laidKinds := [.data, .data, .data, .data, .handle, .sentinel, .sentinel, .sentinel, .sentinel, .sentinel, .sentinel, .sentinel, .sentinel, .sentinel, .sentinel, .sentinel, .sentinel, .sentinel, .sentinel, .sentinel, .sentinel, .sentinel, .sentinel, .pinned], laidTests := true, laidLooks := .later }
def LinesFaultsCardSaid : Prop := Claim7.holds Tryd.pinned (.plain (OpenSpec.ofChange linesFaultsSpec)) linesFaultsCard

/-- THE TIED CARD OF 'millwrightlaw19.StmtAlone'. -/
def stmtAloneCard : Claim7 := { stood := { row := stmtAloneRow, standIns := [], harness := (true, "95b1e0ac3f4a5e96c11f43ebed4fbaccf9109462b3bf646be5b0c9d59810bfee"), looks := true }, kinds := [], alts := [], laidByText := true, laidKinds := [.data, .sentinel, .sentinel, .sentinel, .sentinel, .sentinel, .pinned], laidTests := true, laidLooks := .later }
def StmtAloneCardSaid : Prop := Claim7.holds Tryd.pinned (.plain (OpenSpec.ofChange stmtAloneSpec)) stmtAloneCard

/-- THE SECOND FORM's CARD OF 'millwrightlaw36.ReportFiles'. -/
def reportFilesUptoCard : Claim7 := { stood := { row := reportFilesUptoRow, standIns := [], harness := (true, "95b1e0ac3f4a5e96c11f43ebed4fbaccf9109462b3bf646be5b0c9d59810bfee"), looks := true }, kinds := [], alts := [], laidByText := true, laidKinds := [.data, .data, .data, .data], laidTests := true, laidLooks := .later }
def ReportFilesUptoCardSaid : Prop := Claim7.holds Tryd.pinned (.plain (OpenSpec.upto reportFilesSpec)) reportFilesUptoCard

/-- THE SECOND FORM's CARD OF 'millwrightlaw40.PrintPlain'. -/
def printPlainUptoCard : Claim7 := { stood := { row := printPlainUptoRow, standIns := [], harness := (true, "95b1e0ac3f4a5e96c11f43ebed4fbaccf9109462b3bf646be5b0c9d59810bfee"), looks := true }, kinds := [], alts := [], laidByText := true, laidKinds := [.data, .sentinel, .sentinel, .sentinel, .pinned], laidTests := true, laidLooks := .later }
def PrintPlainUptoCardSaid : Prop := Claim7.holds Tryd.pinned (.plain (OpenSpec.upto printPlainSpec)) printPlainUptoCard

/-- THE SECOND FORM's CARD OF 'millwrightlaw40.PrintTexts'. -/
def printTextsUptoCard : Claim7 := { stood := { row := printTextsUptoRow, standIns := [], harness := (true, "95b1e0ac3f4a5e96c11f43ebed4fbaccf9109462b3bf646be5b0c9d59810bfee"), looks := true }, kinds := [], alts := [], laidByText := true, laidKinds := [.data, .sentinel, .sentinel, .sentinel, .sentinel, .sentinel, .sentinel, .sentinel, .sentinel, .sentinel, .sentinel, .sentinel, .sentinel, .sentinel, .sentinel, .sentinel, .sentinel, .sentinel, .sentinel, .pinned], laidTests := true, laidLooks := .later }
def PrintTextsUptoCardSaid : Prop := Claim7.holds Tryd.pinned (.plain (OpenSpec.upto printTextsSpec)) printTextsUptoCard

/-- THE SECOND FORM's CARD OF 'millwrightlaw12.LinesJoin'. -/
def linesJoinUptoCard : Claim7 := { stood := { row := linesJoinUptoRow, standIns := [], harness := (true, "95b1e0ac3f4a5e96c11f43ebed4fbaccf9109462b3bf646be5b0c9d59810bfee"), looks := true }, kinds := [], alts := [], laidByText := true, laidKinds := [.data, .sentinel, .sentinel, .pinned], laidTests := true, laidLooks := .later }
def LinesJoinUptoCardSaid : Prop := Claim7.holds Tryd.pinned (.plain (OpenSpec.upto linesJoinSpec)) linesJoinUptoCard

/-- THE SECOND FORM's CARD OF 'millwrightlaw12.LinesWhole'. -/
def linesWholeUptoCard : Claim7 := { stood := { row := linesWholeUptoRow, standIns := [], harness := (true, "95b1e0ac3f4a5e96c11f43ebed4fbaccf9109462b3bf646be5b0c9d59810bfee"), looks := true }, kinds := [], alts := [], laidByText := true, laidKinds := [.data, .sentinel, .sentinel, .pinned], laidTests := true, laidLooks := .later }
def LinesWholeUptoCardSaid : Prop := Claim7.holds Tryd.pinned (.plain (OpenSpec.upto linesWholeSpec)) linesWholeUptoCard

/-- THE SECOND FORM's CARD OF 'millwrightlaw12.LinesSplit'. -/
def linesSplitUptoCard : Claim7 := { stood := { row := linesSplitUptoRow, standIns := [], harness := (true, "95b1e0ac3f4a5e96c11f43ebed4fbaccf9109462b3bf646be5b0c9d59810bfee"), looks := true }, kinds := [], alts := [], laidByText := true, laidKinds := [.data, .handle, .sentinel, .sentinel, .sentinel, .sentinel, .sentinel, .sentinel, .sentinel, .sentinel, .sentinel, .sentinel, .sentinel, .sentinel, .sentinel, .sentinel, .sentinel, .sentinel, .sentinel, .sentinel, .pinned], laidTests := true, laidLooks := .later }
def LinesSplitUptoCardSaid : Prop := Claim7.holds Tryd.pinned (.plain (OpenSpec.upto linesSplitSpec)) linesSplitUptoCard

/-- THE SECOND FORM's CARD OF 'millwrightlaw12.LinesFaults'. -/
def linesFaultsUptoCard : Claim7 := { stood := { row := linesFaultsUptoRow, standIns := [], harness := (true, "95b1e0ac3f4a5e96c11f43ebed4fbaccf9109462b3bf646be5b0c9d59810bfee"), looks := true }, kinds := [], alts := [], laidByText := true, laidKinds := [.data, .data, .data, .data, .handle, .sentinel, .sentinel, .sentinel, .sentinel, .sentinel, .sentinel, .sentinel, .sentinel, .sentinel, .sentinel, .sentinel, .sentinel, .sentinel, .sentinel, .sentinel, .sentinel, .sentinel, .sentinel, .pinned], laidTests := true, laidLooks := .later }
def LinesFaultsUptoCardSaid : Prop := Claim7.holds Tryd.pinned (.plain (OpenSpec.upto linesFaultsSpec)) linesFaultsUptoCard

/-- THE SECOND FORM's CARD OF 'millwrightlaw19.StmtAlone'. -/
def stmtAloneUptoCard : Claim7 := { stood := { row := stmtAloneUptoRow, standIns := [], harness := (true, "95b1e0ac3f4a5e96c11f43ebed4fbaccf9109462b3bf646be5b0c9d59810bfee"), looks := true }, kinds := [], alts := [], laidByText := true, laidKinds := [.data, .sentinel, .sentinel, .sentinel, .sentinel, .sentinel, .pinned], laidTests := true, laidLooks := .later }
def StmtAloneUptoCardSaid : Prop := Claim7.holds Tryd.pinned (.plain (OpenSpec.upto stmtAloneSpec)) stmtAloneUptoCard
end Rows
end Go.Proofs.YticphlljahcmkaaDoor
