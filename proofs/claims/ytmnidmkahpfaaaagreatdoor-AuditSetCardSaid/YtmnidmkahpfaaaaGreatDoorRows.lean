/-
  NARROWER THAN 'FOR EVERY INPUT', by the rows' own cells (each row's printed sentence says how): AuditSet: laid.
  DERIVED. THE GIVEN ROWS OF THIS SEAT. 1 by the template 'for every input the law returns true; each argument reads behind the call as it read before'; 0 by the template 'total and deterministic' (their statements: YtmnidmkahpfaaaaGreatDoorTotals.lean).
  GIVEN WITH THE SEED: the statements are not yours to turn. If you find one false, say at which input.
  Laid BY PROGRAM, IN A SANDBOX (cutbox-rows.mjs): the forced cells as the released guide's own fill.sh prints them over the translation 59b76e906426aec3… (all of the seat's roots in one cut). By AI agents, Wed Nov 11 2026. No macro, syntax, notation, axiom, sorry.
-/
import Derived.Test.YtmnidmkahpfaaaaGreatDoorChecked
import GoSem.Claim
import GoSem.ClaimJoined
import GoSem.ClaimMapViews
import Derived.JoinedTies
import Derived.KernelRfl
namespace Go.Proofs.YtmnidmkahpfaaaaGreatDoor
/- THE CELL 'sum', in the pinned program and in every row, IS THE sha256 OF THE DUMP (.gsa) THAT YtmnidmkahpfaaaaGreatDoorProg.lean LOADS. Nothing in Lean hashes anything: it is a label: what it is worth is what the hold of that sum in a sandbox is worth. -/
noncomputable def Tryz.pinned : Pinned := { name := "ytmnidmkahpfaaaagreatdoor", sum := "59b76e906426aec3a3215d0f489b4f6be3bfd8d4fddab1e83b8e00149d6a8ffb", checked := Tryz.checked }
namespace Rows
def none {H : Type} : Left H := { results := [], args := [] }

/- WHAT THE LISTED PACKAGE-LEVEL VARIABLES READ AS WHEN THE CALL BEGINS. Each datum BY PROGRAM (the guide's laid-datum.mjs) off the statement by which the dump's own 'gosem.cut.vars' lays the variable. In a bare row this is a premise. The card (YtmnidmkahpfaaaaGreatDoorCards.lean) ties it to the program's text. -/
def laid_millwright_api_ErrRange {H : Type} : DataW H := .iface "*errors.errorString" (.ptr (.agg [.lit (.string [97, 32, 110, 117, 109, 98, 101, 114, 32, 105, 115, 32, 111, 117, 116, 32, 111, 102, 32, 105, 116, 115, 32, 114, 97, 110, 103, 101])]))
def laid_millwright_api_ErrForm {H : Type} : DataW H := .iface "*errors.errorString" (.ptr (.agg [.lit (.string [105, 116, 32, 105, 115, 32, 110, 111, 116, 32, 111, 102, 32, 105, 116, 115, 32, 102, 111, 114, 109])]))
def laid_millwright_api_ErrNone {H : Type} : DataW H := .iface "*errors.errorString" (.ptr (.agg [.lit (.string [116, 104, 101, 114, 101, 32, 105, 115, 32, 110, 111, 110, 101])]))
def laid_millwright_api_ErrDup {H : Type} : DataW H := .iface "*errors.errorString" (.ptr (.agg [.lit (.string [105, 116, 32, 105, 115, 32, 116, 104, 101, 114, 101, 32, 97, 108, 114, 101, 97, 100, 121])]))
def laid_millwright_api_ErrFull {H : Type} : DataW H := .iface "*errors.errorString" (.ptr (.agg [.lit (.string [116, 104, 101, 114, 101, 32, 105, 115, 32, 110, 111, 32, 109, 111, 114, 101, 32, 114, 111, 111, 109])]))
def laid_millwright_api_ErrCycle {H : Type} : DataW H := .iface "*errors.errorString" (.ptr (.agg [.lit (.string [105, 116, 32, 108, 101, 97, 100, 115, 32, 98, 97, 99, 107, 32, 116, 111, 32, 105, 116, 115, 101, 108, 102])]))
def laid_millwright_api_ErrState {H : Type} : DataW H := .iface "*errors.errorString" (.ptr (.agg [.lit (.string [105, 116, 32, 99, 97, 110, 32, 110, 111, 116, 32, 98, 101, 32, 100, 111, 110, 101, 32, 105, 110, 32, 116, 104, 105, 115, 32, 115, 116, 97, 116, 101])]))
def laid_millwright_api_ErrFail {H : Type} : DataW H := .iface "*errors.errorString" (.ptr (.agg [.lit (.string [97, 32, 114, 101, 99, 105, 112, 101, 32, 102, 97, 105, 108, 101, 100])]))
def laid_millwright_api_ErrKind {H : Type} : DataW H := .iface "*errors.errorString" (.ptr (.agg [.lit (.string [105, 116, 32, 105, 115, 32, 111, 102, 32, 97, 110, 111, 116, 104, 101, 114, 32, 107, 105, 110, 100])]))

/-- 'millwrightlaw37.AuditSet': WHATEVER THE INPUT: true; the input reads as it did. -/
def auditSetSpec : ChangeSpec := { name := "auditSet", fn := fun _ => fun
  | [d] => { results := [.lit (.bool true)], args := [d] }
  | _ => none }
def auditSetRow : OpenClaim := { program := "ytmnidmkahpfaaaagreatdoor", sum := "59b76e906426aec3a3215d0f489b4f6be3bfd8d4fddab1e83b8e00149d6a8ffb", func := "millwright/millwrightlaw37.AuditSet", spec := "auditSet", inPlace := ["internal/bytealg.IndexByteString", "internal/bytealg.IndexString"], unfollowed := true, recurses := true, named := ["millwright/api.ErrKind", "millwright/api.ErrRange", "millwright/api.ErrState", "millwright/api.ErrDup", "millwright/api.ErrFull", "millwright/api.ErrForm", "millwright/api.ErrFail", "millwright/api.ErrCycle", "millwright/api.ErrNone", "internal/bytealg.MaxLen"], apart := false, laid := [("millwright/api.ErrRange", laid_millwright_api_ErrRange), ("millwright/api.ErrForm", laid_millwright_api_ErrForm), ("millwright/api.ErrNone", laid_millwright_api_ErrNone), ("millwright/api.ErrDup", laid_millwright_api_ErrDup), ("millwright/api.ErrFull", laid_millwright_api_ErrFull), ("millwright/api.ErrCycle", laid_millwright_api_ErrCycle), ("millwright/api.ErrState", laid_millwright_api_ErrState), ("millwright/api.ErrFail", laid_millwright_api_ErrFail), ("millwright/api.ErrKind", laid_millwright_api_ErrKind)] }
def AuditSetSaid : Prop := auditSetRow.holds Tryz.pinned (OpenSpec.ofChange auditSetSpec)

/-- ITS FALSE NEIGHBOUR: 'it returns false'. Refute it at one input. -/
def auditSetWrong : ChangeSpec := { name := "auditSet", fn := fun _ => fun
  | [d] => { results := [.lit (.bool false)], args := [d] }
  | _ => none }
def AuditSetWrongFalsely : Prop := auditSetRow.holds Tryz.pinned (OpenSpec.ofChange auditSetWrong)

/- THE SECOND FORM. 'bulk': how many values and letters a reading holds, each counted each time it is reached (what is shared counts as often as it is met; a slice's spare places count too). A statement '..UptoSaid' is the law's where the arguments, and the package variables that the reading takes, are together of bulk at most 1048576: NARROWER than '..Said'. Prove '..Said' where nothing that the law and all that it calls make is longer than what came in: it says more and counts as full. Else prove '..UptoSaid'. A law counts once. -/
mutual
def uptoBulk {H : Type} : DataW H → Nat
  | .lit (.string bytes) => bytes.length + 1
  | .lit _ => 1
  | .nil => 1
  | .ptr d => uptoBulk d + 1
  | .slice elems spare => uptoBulkAll elems + uptoBulkAll spare + 1
  | .agg parts => uptoBulkAll parts + 1
  | .iface _ d => uptoBulk d + 1
  | .map entries => uptoBulkEntries entries + 1
  | .held _ => 1
def uptoBulkAll {H : Type} : List (DataW H) → Nat
  | [] => 0
  | d :: r => uptoBulk d + uptoBulkAll r
def uptoBulkEntries {H : Type} : List (Lit × DataW H) → Nat
  | [] => 0
  | x :: r => uptoBulkEntry x + uptoBulkEntries r
def uptoBulkEntry {H : Type} : Lit × DataW H → Nat
  | (.string bytes, d) => bytes.length + uptoBulk d + 1
  | (_, d) => uptoBulk d + 1
 end
def uptoSmall : (H : Type) → List (DataW H) → Bool := fun _ ds => decide (uptoBulkAll ds ≤ 1048576)
def OpenSpec.upto (s : _root_.Go.ChangeSpec) : _root_.Go.OpenSpec := { _root_.Go.OpenSpec.ofChange s with cond := some uptoSmall }

/-- 'millwrightlaw37.AuditSet', WHERE WHAT IT READS IS OF BULK AT MOST 1048576: true; the input reads as it did. -/
def auditSetUptoRow : OpenClaim := { program := "ytmnidmkahpfaaaagreatdoor", sum := "59b76e906426aec3a3215d0f489b4f6be3bfd8d4fddab1e83b8e00149d6a8ffb", func := "millwright/millwrightlaw37.AuditSet", spec := "auditSet", inPlace := ["internal/bytealg.IndexByteString", "internal/bytealg.IndexString"], unfollowed := true, recurses := true, named := ["millwright/api.ErrKind", "millwright/api.ErrRange", "millwright/api.ErrState", "millwright/api.ErrDup", "millwright/api.ErrFull", "millwright/api.ErrForm", "millwright/api.ErrFail", "millwright/api.ErrCycle", "millwright/api.ErrNone", "internal/bytealg.MaxLen"], apart := false, laid := [("millwright/api.ErrRange", laid_millwright_api_ErrRange), ("millwright/api.ErrForm", laid_millwright_api_ErrForm), ("millwright/api.ErrNone", laid_millwright_api_ErrNone), ("millwright/api.ErrDup", laid_millwright_api_ErrDup), ("millwright/api.ErrFull", laid_millwright_api_ErrFull), ("millwright/api.ErrCycle", laid_millwright_api_ErrCycle), ("millwright/api.ErrState", laid_millwright_api_ErrState), ("millwright/api.ErrFail", laid_millwright_api_ErrFail), ("millwright/api.ErrKind", laid_millwright_api_ErrKind)], narrowed := true }
def AuditSetUptoSaid : Prop := auditSetUptoRow.holds Tryz.pinned (OpenSpec.upto auditSetSpec)

end Rows
end Go.Proofs.YtmnidmkahpfaaaaGreatDoor
