/-
  DERIVED. GIVEN WITH THE SEED: THE CARDS: each row of YtaiklcijiajkaaaDoorRows.lean that lists a variable, with what it lists TIED to the program's text (the seventh form; the later family's looks); each row that meets fmt, with fmt's text TOLD by the authors' own Lean function (tested against real Go, not proved from fmt's source: count such statements apart). THE CARD IS WHAT COUNTS. Prove the row's statement (the work); the ties are given (YtaiklcijiajkaaaDoorTie.lean); close each card by the builder's one call (the guide's Derived/Test/ToyasCard.lean, 'card_holds'). Laid BY PROGRAM, IN A SANDBOX (cutbox-door.mjs). By AI agents, Wed Nov 11 2026. No macro, syntax, notation, axiom, sorry.
-/
import Derived.Test.YtaiklcijiajkaaaDoorRows
import GoSem.ClaimSeven
namespace Go.Proofs.YtaiklcijiajkaaaDoor
namespace Rows

/-- THE TIED CARD OF 'millwrightlaw19.StmtAlone'. -/
def stmtAloneCard : Claim7 := { stood := { row := stmtAloneRow, standIns := [], harness := (true, "c302ca6ff6856cfc9990c0cf59926a749df23ac3ddf34865361324c88082c6b5"), looks := false }, kinds := [], alts := [], laidByText := true, laidKinds := [.data, .sentinel, .sentinel, .sentinel, .sentinel, .sentinel, .pinned], laidTests := true, laidLooks := .later }
def StmtAloneCardSaid : Prop := Claim7.holds Tryd.pinned (.plain (OpenSpec.ofChange stmtAloneSpec)) stmtAloneCard

/-- THE SECOND FORM's CARD OF 'millwrightlaw19.StmtAlone'. -/
def stmtAloneUptoCard : Claim7 := { stood := { row := stmtAloneUptoRow, standIns := [], harness := (true, "c302ca6ff6856cfc9990c0cf59926a749df23ac3ddf34865361324c88082c6b5"), looks := false }, kinds := [], alts := [], laidByText := true, laidKinds := [.data, .sentinel, .sentinel, .sentinel, .sentinel, .sentinel, .pinned], laidTests := true, laidLooks := .later }
def StmtAloneUptoCardSaid : Prop := Claim7.holds Tryd.pinned (.plain (OpenSpec.upto stmtAloneSpec)) stmtAloneUptoCard
end Rows
end Go.Proofs.YtaiklcijiajkaaaDoor
