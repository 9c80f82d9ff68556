/-
  NARROWER THAN 'FOR EVERY INPUT', by the rows' own cells (each row's printed sentence says how): ReportFiles: laid · PrintPlain: laid · PrintTexts: laid · LinesJoin: laid · LinesWhole: laid · LinesSplit: laid · LinesFaults: laid · StmtAlone: laid.
  DERIVED. THE GIVEN ROWS OF THIS SEAT. 8 by the template 'for every input the law returns true; each argument reads behind the call as it read before'; 0 by the template 'total and deterministic' (their statements: YticphlljahcmkaaDoorTotals.lean).
  GIVEN WITH THE SEED: the statements are not yours to turn. If you find one false, say at which input.
  Laid BY PROGRAM, IN A SANDBOX (cutbox-rows.mjs): the forced cells as the released guide's own fill.sh prints them over the translation 79f3f22d793c6878… (all of the seat's roots in one cut). By AI agents, Wed Nov 11 2026. No macro, syntax, notation, axiom, sorry.
-/
import Derived.Test.YticphlljahcmkaaDoorChecked
import GoSem.PinnedTables
import GoSem.Claim
import GoSem.ClaimJoined
import GoSem.ClaimMapViews
import Derived.JoinedTies
import Derived.KernelRfl
namespace Go.Proofs.YticphlljahcmkaaDoor
/- THE CELL 'sum', in the pinned program and in every row, IS THE sha256 OF THE DUMP (.gsa) THAT YticphlljahcmkaaDoorProg.lean LOADS. Nothing in Lean hashes anything: it is a label: what it is worth is what the hold of that sum in a sandbox is worth. -/
noncomputable def Tryd.pinned : Pinned := { name := "yticphlljahcmkaadoor", sum := "79f3f22d793c68781be1ec4bc29f905b446efda13edc2604a5f2e3dc19739cfd", checked := Tryd.checked }
namespace Rows
def none {H : Type} : Left H := { results := [], args := [] }

/- WHAT THE LISTED PACKAGE-LEVEL VARIABLES READ AS WHEN THE CALL BEGINS. Each datum BY PROGRAM (the guide's laid-datum.mjs) off the statement by which the dump's own 'gosem.cut.vars' lays the variable. In a bare row this is a premise. The card (YticphlljahcmkaaDoorCards.lean) ties it to the program's text. -/
def laid_math_bits_deBruijn32tab {H : Type} : DataW H := .agg [.lit (.int .u8 0), .lit (.int .u8 1), .lit (.int .u8 28), .lit (.int .u8 2), .lit (.int .u8 29), .lit (.int .u8 14), .lit (.int .u8 24), .lit (.int .u8 3), .lit (.int .u8 30), .lit (.int .u8 22), .lit (.int .u8 20), .lit (.int .u8 15), .lit (.int .u8 25), .lit (.int .u8 17), .lit (.int .u8 4), .lit (.int .u8 8), .lit (.int .u8 31), .lit (.int .u8 27), .lit (.int .u8 13), .lit (.int .u8 23), .lit (.int .u8 21), .lit (.int .u8 19), .lit (.int .u8 16), .lit (.int .u8 7), .lit (.int .u8 26), .lit (.int .u8 12), .lit (.int .u8 18), .lit (.int .u8 6), .lit (.int .u8 11), .lit (.int .u8 5), .lit (.int .u8 10), .lit (.int .u8 9)]
def laid_math_bits_deBruijn64tab {H : Type} : DataW H := .agg [.lit (.int .u8 0), .lit (.int .u8 1), .lit (.int .u8 56), .lit (.int .u8 2), .lit (.int .u8 57), .lit (.int .u8 49), .lit (.int .u8 28), .lit (.int .u8 3), .lit (.int .u8 61), .lit (.int .u8 58), .lit (.int .u8 42), .lit (.int .u8 50), .lit (.int .u8 38), .lit (.int .u8 29), .lit (.int .u8 17), .lit (.int .u8 4), .lit (.int .u8 62), .lit (.int .u8 47), .lit (.int .u8 59), .lit (.int .u8 36), .lit (.int .u8 45), .lit (.int .u8 43), .lit (.int .u8 51), .lit (.int .u8 22), .lit (.int .u8 53), .lit (.int .u8 39), .lit (.int .u8 33), .lit (.int .u8 30), .lit (.int .u8 24), .lit (.int .u8 18), .lit (.int .u8 12), .lit (.int .u8 5), .lit (.int .u8 63), .lit (.int .u8 55), .lit (.int .u8 48), .lit (.int .u8 27), .lit (.int .u8 60), .lit (.int .u8 41), .lit (.int .u8 37), .lit (.int .u8 16), .lit (.int .u8 46), .lit (.int .u8 35), .lit (.int .u8 44), .lit (.int .u8 21), .lit (.int .u8 52), .lit (.int .u8 32), .lit (.int .u8 23), .lit (.int .u8 11), .lit (.int .u8 54), .lit (.int .u8 26), .lit (.int .u8 40), .lit (.int .u8 15), .lit (.int .u8 34), .lit (.int .u8 20), .lit (.int .u8 31), .lit (.int .u8 10), .lit (.int .u8 25), .lit (.int .u8 14), .lit (.int .u8 19), .lit (.int .u8 9), .lit (.int .u8 13), .lit (.int .u8 8), .lit (.int .u8 7), .lit (.int .u8 6)]
def laid_internal_strconv_uint64pow10 {H : Type} : DataW H := .agg [.lit (.int .u64 1), .lit (.int .u64 10), .lit (.int .u64 100), .lit (.int .u64 1000), .lit (.int .u64 10000), .lit (.int .u64 100000), .lit (.int .u64 1000000), .lit (.int .u64 10000000), .lit (.int .u64 100000000), .lit (.int .u64 1000000000), .lit (.int .u64 10000000000), .lit (.int .u64 100000000000), .lit (.int .u64 1000000000000), .lit (.int .u64 10000000000000), .lit (.int .u64 100000000000000), .lit (.int .u64 1000000000000000), .lit (.int .u64 10000000000000000), .lit (.int .u64 100000000000000000), .lit (.int .u64 1000000000000000000), .lit (.int .u64 10000000000000000000)]
def laid_millwright_report_words {H : Type} : DataW H := .agg [.lit (.string [119, 97, 105, 116, 105, 110, 103]), .lit (.string [114, 117, 110, 110, 105, 110, 103]), .lit (.string [109, 97, 100, 101]), .lit (.string [102, 114, 101, 115, 104]), .lit (.string [102, 97, 105, 108, 101, 100])]
def laid_unicode_utf8_acceptRanges {H : Type} : DataW H := .agg [.agg [.lit (.int .u8 128), .lit (.int .u8 191)], .agg [.lit (.int .u8 160), .lit (.int .u8 191)], .agg [.lit (.int .u8 128), .lit (.int .u8 159)], .agg [.lit (.int .u8 144), .lit (.int .u8 191)], .agg [.lit (.int .u8 128), .lit (.int .u8 143)], .agg [.lit (.int .u8 0), .lit (.int .u8 0)], .agg [.lit (.int .u8 0), .lit (.int .u8 0)], .agg [.lit (.int .u8 0), .lit (.int .u8 0)], .agg [.lit (.int .u8 0), .lit (.int .u8 0)], .agg [.lit (.int .u8 0), .lit (.int .u8 0)], .agg [.lit (.int .u8 0), .lit (.int .u8 0)], .agg [.lit (.int .u8 0), .lit (.int .u8 0)], .agg [.lit (.int .u8 0), .lit (.int .u8 0)], .agg [.lit (.int .u8 0), .lit (.int .u8 0)], .agg [.lit (.int .u8 0), .lit (.int .u8 0)], .agg [.lit (.int .u8 0), .lit (.int .u8 0)]]
def laid_millwright_api_ErrLong {H : Type} : DataW H := .iface "*errors.errorString" (.ptr (.agg [.lit (.string [116, 104, 101, 114, 101, 32, 105, 115, 32, 109, 111, 114, 101, 32, 116, 104, 97, 110, 32, 109, 97, 121, 32, 98, 101])]))
def laid_millwright_api_ErrForm {H : Type} : DataW H := .iface "*errors.errorString" (.ptr (.agg [.lit (.string [105, 116, 32, 105, 115, 32, 110, 111, 116, 32, 111, 102, 32, 105, 116, 115, 32, 102, 111, 114, 109])]))
def laid_millwright_api_ErrFull {H : Type} : DataW H := .iface "*errors.errorString" (.ptr (.agg [.lit (.string [116, 104, 101, 114, 101, 32, 105, 115, 32, 110, 111, 32, 109, 111, 114, 101, 32, 114, 111, 111, 109])]))
/-- One of Go's own tables, pinned by name: the form's constant. -/
def laid_unicode_utf8_first : DataW Unit := Go.Pinned.utf8First
def laid_millwright_api_ErrRange {H : Type} : DataW H := .iface "*errors.errorString" (.ptr (.agg [.lit (.string [97, 32, 110, 117, 109, 98, 101, 114, 32, 105, 115, 32, 111, 117, 116, 32, 111, 102, 32, 105, 116, 115, 32, 114, 97, 110, 103, 101])]))
def laid_millwright_api_ErrName {H : Type} : DataW H := .iface "*errors.errorString" (.ptr (.agg [.lit (.string [105, 116, 32, 105, 115, 32, 110, 111, 32, 114, 105, 103, 104, 116, 32, 110, 97, 109, 101])]))
def laid_millwright_api_ErrQuote {H : Type} : DataW H := .iface "*errors.errorString" (.ptr (.agg [.lit (.string [97, 32, 113, 117, 111, 116, 101, 32, 104, 97, 115, 32, 110, 111, 32, 101, 110, 100])]))
def laid_millwright_api_ErrRegex {H : Type} : DataW H := .iface "*errors.errorString" (.ptr (.agg [.lit (.string [105, 116, 32, 105, 115, 32, 110, 111, 32, 114, 101, 103, 117, 108, 97, 114, 32, 101, 120, 112, 114, 101, 115, 115, 105, 111, 110])]))
def laid_millwright_api_ErrAttr {H : Type} : DataW H := .iface "*errors.errorString" (.ptr (.agg [.lit (.string [105, 116, 32, 105, 115, 32, 110, 111, 32, 97, 116, 116, 114, 105, 98, 117, 116, 101])]))
def laid_millwright_api_ErrNone {H : Type} : DataW H := .iface "*errors.errorString" (.ptr (.agg [.lit (.string [116, 104, 101, 114, 101, 32, 105, 115, 32, 110, 111, 110, 101])]))
def laid_millwright_api_ErrDup {H : Type} : DataW H := .iface "*errors.errorString" (.ptr (.agg [.lit (.string [105, 116, 32, 105, 115, 32, 116, 104, 101, 114, 101, 32, 97, 108, 114, 101, 97, 100, 121])]))
def laid_millwright_api_ErrDepth {H : Type} : DataW H := .iface "*errors.errorString" (.ptr (.agg [.lit (.string [105, 116, 32, 103, 111, 101, 115, 32, 116, 111, 111, 32, 100, 101, 101, 112])]))
def laid_millwright_api_ErrCycle {H : Type} : DataW H := .iface "*errors.errorString" (.ptr (.agg [.lit (.string [105, 116, 32, 108, 101, 97, 100, 115, 32, 98, 97, 99, 107, 32, 116, 111, 32, 105, 116, 115, 101, 108, 102])]))
def laid_millwright_api_ErrAmbig {H : Type} : DataW H := .iface "*errors.errorString" (.ptr (.agg [.lit (.string [116, 104, 101, 114, 101, 32, 97, 114, 101, 32, 115, 101, 118, 101, 114, 97, 108, 32, 119, 97, 121, 115, 32, 116, 111, 32, 109, 97, 107, 101, 32, 105, 116])]))
def laid_millwright_api_ErrState {H : Type} : DataW H := .iface "*errors.errorString" (.ptr (.agg [.lit (.string [105, 116, 32, 99, 97, 110, 32, 110, 111, 116, 32, 98, 101, 32, 100, 111, 110, 101, 32, 105, 110, 32, 116, 104, 105, 115, 32, 115, 116, 97, 116, 101])]))
def laid_millwright_api_ErrFail {H : Type} : DataW H := .iface "*errors.errorString" (.ptr (.agg [.lit (.string [97, 32, 114, 101, 99, 105, 112, 101, 32, 102, 97, 105, 108, 101, 100])]))
def laid_millwright_api_ErrFlag {H : Type} : DataW H := .iface "*errors.errorString" (.ptr (.agg [.lit (.string [105, 116, 32, 105, 115, 32, 110, 111, 32, 102, 108, 97, 103])]))
def laid_millwright_api_ErrKind {H : Type} : DataW H := .iface "*errors.errorString" (.ptr (.agg [.lit (.string [105, 116, 32, 105, 115, 32, 111, 102, 32, 97, 110, 111, 116, 104, 101, 114, 32, 107, 105, 110, 100])]))
def laid_millwright_api_ErrLost {H : Type} : DataW H := .iface "*errors.errorString" (.ptr (.agg [.lit (.string [110, 111, 98, 111, 100, 121, 32, 107, 110, 111, 119, 115, 32, 104, 111, 119, 32, 116, 111, 32, 109, 97, 107, 101, 32, 105, 116])]))
def laid_errors_errorType {H : Type} : DataW H := .iface "internal/reflectlite.rtype" (.agg [.ptr (.lit (.string [101, 114, 114, 111, 114]))])

/-- 'millwrightlaw36.ReportFiles': WHATEVER THE INPUT: true; the input reads as it did. -/
def reportFilesSpec : ChangeSpec := { name := "reportFiles", fn := fun _ => fun
  | [d1, d2, d3] => { results := [.lit (.bool true)], args := [d1, d2, d3] }
  | _ => none }
def reportFilesRow : OpenClaim := { program := "yticphlljahcmkaadoor", sum := "79f3f22d793c68781be1ec4bc29f905b446efda13edc2604a5f2e3dc19739cfd", func := "millwright/millwrightlaw36.ReportFiles", spec := "reportFiles", inPlace := ["internal/abi.NoEscape", "internal/bytealg.MakeNoZero"], recurses := true, named := ["internal/strconv.uint64pow10", "math/bits.deBruijn32tab", "math/bits.deBruijn64tab", "millwright/report.words"], apart := false, laid := [("math/bits.deBruijn32tab", laid_math_bits_deBruijn32tab), ("math/bits.deBruijn64tab", laid_math_bits_deBruijn64tab), ("internal/strconv.uint64pow10", laid_internal_strconv_uint64pow10), ("millwright/report.words", laid_millwright_report_words)] }
def ReportFilesSaid : Prop := reportFilesRow.holds Tryd.pinned (OpenSpec.ofChange reportFilesSpec)

/-- ITS FALSE NEIGHBOUR: 'it returns false'. Refute it at one input. -/
def reportFilesWrong : ChangeSpec := { name := "reportFiles", fn := fun _ => fun
  | [d1, d2, d3] => { results := [.lit (.bool false)], args := [d1, d2, d3] }
  | _ => none }
def ReportFilesWrongFalsely : Prop := reportFilesRow.holds Tryd.pinned (OpenSpec.ofChange reportFilesWrong)

/-- 'millwrightlaw40.PrintPlain': WHATEVER THE INPUT: true; the input reads as it did. -/
def printPlainSpec : ChangeSpec := { name := "printPlain", fn := fun _ => fun
  | [d] => { results := [.lit (.bool true)], args := [d] }
  | _ => none }
def printPlainRow : OpenClaim := { program := "yticphlljahcmkaadoor", sum := "79f3f22d793c68781be1ec4bc29f905b446efda13edc2604a5f2e3dc19739cfd", func := "millwright/millwrightlaw40.PrintPlain", spec := "printPlain", inPlace := ["internal/bytealg.IndexByteString", "internal/bytealg.IndexString", "internal/bytealg.CountString", "internal/abi.NoEscape", "internal/bytealg.MakeNoZero"], unfollowed := true, recurses := true, named := ["millwright/api.ErrForm", "millwright/api.ErrFull", "millwright/api.ErrLong", "internal/bytealg.MaxLen", "unicode/utf8.first", "unicode/utf8.acceptRanges"], apart := false, laid := [("unicode/utf8.acceptRanges", laid_unicode_utf8_acceptRanges), ("millwright/api.ErrLong", laid_millwright_api_ErrLong), ("millwright/api.ErrForm", laid_millwright_api_ErrForm), ("millwright/api.ErrFull", laid_millwright_api_ErrFull), ("unicode/utf8.first", laid_unicode_utf8_first)] }
def PrintPlainSaid : Prop := printPlainRow.holds Tryd.pinned (OpenSpec.ofChange printPlainSpec)

/-- ITS FALSE NEIGHBOUR: 'it returns false'. Refute it at one input. -/
def printPlainWrong : ChangeSpec := { name := "printPlain", fn := fun _ => fun
  | [d] => { results := [.lit (.bool false)], args := [d] }
  | _ => none }
def PrintPlainWrongFalsely : Prop := printPlainRow.holds Tryd.pinned (OpenSpec.ofChange printPlainWrong)

/-- 'millwrightlaw40.PrintTexts': WHATEVER THE INPUT: true; the input reads as it did. -/
def printTextsSpec : ChangeSpec := { name := "printTexts", fn := fun _ => fun
  | [d] => { results := [.lit (.bool true)], args := [d] }
  | _ => none }
def printTextsRow : OpenClaim := { program := "yticphlljahcmkaadoor", sum := "79f3f22d793c68781be1ec4bc29f905b446efda13edc2604a5f2e3dc19739cfd", func := "millwright/millwrightlaw40.PrintTexts", spec := "printTexts", inPlace := ["internal/bytealg.IndexByteString", "internal/bytealg.IndexString", "internal/bytealg.CountString", "internal/abi.NoEscape", "internal/bytealg.MakeNoZero", "internal/reflectlite.TypeOf"], unfollowed := true, recurses := true, named := ["millwright/api.ErrForm", "millwright/api.ErrFull", "millwright/api.ErrLong", "internal/bytealg.MaxLen", "unicode/utf8.first", "unicode/utf8.acceptRanges", "millwright/api.ErrRange", "millwright/api.ErrName", "millwright/api.ErrQuote", "millwright/api.ErrRegex", "millwright/api.ErrAttr", "millwright/api.ErrNone", "millwright/api.ErrDup", "millwright/api.ErrDepth", "millwright/api.ErrCycle", "millwright/api.ErrAmbig", "millwright/api.ErrState", "millwright/api.ErrFail", "millwright/api.ErrFlag", "millwright/api.ErrKind", "millwright/api.ErrLost"], apart := false, laid := [("unicode/utf8.acceptRanges", laid_unicode_utf8_acceptRanges), ("millwright/api.ErrRange", laid_millwright_api_ErrRange), ("millwright/api.ErrLong", laid_millwright_api_ErrLong), ("millwright/api.ErrForm", laid_millwright_api_ErrForm), ("millwright/api.ErrName", laid_millwright_api_ErrName), ("millwright/api.ErrQuote", laid_millwright_api_ErrQuote), ("millwright/api.ErrRegex", laid_millwright_api_ErrRegex), ("millwright/api.ErrAttr", laid_millwright_api_ErrAttr), ("millwright/api.ErrNone", laid_millwright_api_ErrNone), ("millwright/api.ErrDup", laid_millwright_api_ErrDup), ("millwright/api.ErrFull", laid_millwright_api_ErrFull), ("millwright/api.ErrDepth", laid_millwright_api_ErrDepth), ("millwright/api.ErrCycle", laid_millwright_api_ErrCycle), ("millwright/api.ErrAmbig", laid_millwright_api_ErrAmbig), ("millwright/api.ErrState", laid_millwright_api_ErrState), ("millwright/api.ErrFail", laid_millwright_api_ErrFail), ("millwright/api.ErrFlag", laid_millwright_api_ErrFlag), ("millwright/api.ErrKind", laid_millwright_api_ErrKind), ("millwright/api.ErrLost", laid_millwright_api_ErrLost), ("unicode/utf8.first", laid_unicode_utf8_first)] }
def PrintTextsSaid : Prop := printTextsRow.holds Tryd.pinned (OpenSpec.ofChange printTextsSpec)

/-- ITS FALSE NEIGHBOUR: 'it returns false'. Refute it at one input. -/
def printTextsWrong : ChangeSpec := { name := "printTexts", fn := fun _ => fun
  | [d] => { results := [.lit (.bool false)], args := [d] }
  | _ => none }
def PrintTextsWrongFalsely : Prop := printTextsRow.holds Tryd.pinned (OpenSpec.ofChange printTextsWrong)

/-- 'millwrightlaw12.LinesJoin': WHATEVER THE INPUT: true; the input reads as it did. -/
def linesJoinSpec : ChangeSpec := { name := "linesJoin", fn := fun _ => fun
  | [d1, d2] => { results := [.lit (.bool true)], args := [d1, d2] }
  | _ => none }
def linesJoinRow : OpenClaim := { program := "yticphlljahcmkaadoor", sum := "79f3f22d793c68781be1ec4bc29f905b446efda13edc2604a5f2e3dc19739cfd", func := "millwright/millwrightlaw12.LinesJoin", spec := "linesJoin", inPlace := ["internal/bytealg.CountString", "internal/bytealg.IndexByteString", "internal/bytealg.IndexString"], named := ["millwright/api.ErrLong", "unicode/utf8.first", "unicode/utf8.acceptRanges", "internal/bytealg.MaxLen", "millwright/api.ErrQuote"], apart := false, laid := [("unicode/utf8.acceptRanges", laid_unicode_utf8_acceptRanges), ("millwright/api.ErrLong", laid_millwright_api_ErrLong), ("millwright/api.ErrQuote", laid_millwright_api_ErrQuote), ("unicode/utf8.first", laid_unicode_utf8_first)] }
def LinesJoinSaid : Prop := linesJoinRow.holds Tryd.pinned (OpenSpec.ofChange linesJoinSpec)

/-- ITS FALSE NEIGHBOUR: 'it returns false'. Refute it at one input. -/
def linesJoinWrong : ChangeSpec := { name := "linesJoin", fn := fun _ => fun
  | [d1, d2] => { results := [.lit (.bool false)], args := [d1, d2] }
  | _ => none }
def LinesJoinWrongFalsely : Prop := linesJoinRow.holds Tryd.pinned (OpenSpec.ofChange linesJoinWrong)

/-- 'millwrightlaw12.LinesWhole': WHATEVER THE INPUT: true; the input reads as it did. -/
def linesWholeSpec : ChangeSpec := { name := "linesWhole", fn := fun _ => fun
  | [d] => { results := [.lit (.bool true)], args := [d] }
  | _ => none }
def linesWholeRow : OpenClaim := { program := "yticphlljahcmkaadoor", sum := "79f3f22d793c68781be1ec4bc29f905b446efda13edc2604a5f2e3dc19739cfd", func := "millwright/millwrightlaw12.LinesWhole", spec := "linesWhole", inPlace := ["internal/bytealg.CountString", "internal/bytealg.IndexByteString", "internal/bytealg.IndexString"], named := ["millwright/api.ErrLong", "unicode/utf8.first", "unicode/utf8.acceptRanges", "internal/bytealg.MaxLen", "millwright/api.ErrQuote"], apart := false, laid := [("unicode/utf8.acceptRanges", laid_unicode_utf8_acceptRanges), ("millwright/api.ErrLong", laid_millwright_api_ErrLong), ("millwright/api.ErrQuote", laid_millwright_api_ErrQuote), ("unicode/utf8.first", laid_unicode_utf8_first)] }
def LinesWholeSaid : Prop := linesWholeRow.holds Tryd.pinned (OpenSpec.ofChange linesWholeSpec)

/-- ITS FALSE NEIGHBOUR: 'it returns false'. Refute it at one input. -/
def linesWholeWrong : ChangeSpec := { name := "linesWhole", fn := fun _ => fun
  | [d] => { results := [.lit (.bool false)], args := [d] }
  | _ => none }
def LinesWholeWrongFalsely : Prop := linesWholeRow.holds Tryd.pinned (OpenSpec.ofChange linesWholeWrong)

/-- 'millwrightlaw12.LinesSplit': WHATEVER THE INPUT: true; the input reads as it did. -/
def linesSplitSpec : ChangeSpec := { name := "linesSplit", fn := fun _ => fun
  | [d] => { results := [.lit (.bool true)], args := [d] }
  | _ => none }
def linesSplitRow : OpenClaim := { program := "yticphlljahcmkaadoor", sum := "79f3f22d793c68781be1ec4bc29f905b446efda13edc2604a5f2e3dc19739cfd", func := "millwright/millwrightlaw12.LinesSplit", spec := "linesSplit", inPlace := ["internal/bytealg.CountString", "internal/bytealg.IndexByteString", "internal/bytealg.IndexString", "internal/reflectlite.ValueOf", "(internal/reflectlite.Value).Type", "(internal/reflectlite.Value).IsNil", "internal/reflectlite.TypeOf", "(internal/reflectlite.Value).Elem", "(internal/reflectlite.Value).Set"], unfollowed := true, recurses := true, named := ["millwright/api.ErrLong", "unicode/utf8.first", "unicode/utf8.acceptRanges", "internal/bytealg.MaxLen", "millwright/api.ErrQuote", "errors.errorType", "millwright/api.ErrRange", "millwright/api.ErrForm", "millwright/api.ErrName", "millwright/api.ErrRegex", "millwright/api.ErrAttr", "millwright/api.ErrNone", "millwright/api.ErrDup", "millwright/api.ErrFull", "millwright/api.ErrDepth", "millwright/api.ErrCycle", "millwright/api.ErrAmbig", "millwright/api.ErrState", "millwright/api.ErrFail", "millwright/api.ErrFlag", "millwright/api.ErrKind", "millwright/api.ErrLost"], apart := false, laid := [("unicode/utf8.acceptRanges", laid_unicode_utf8_acceptRanges), ("errors.errorType", laid_errors_errorType), ("millwright/api.ErrRange", laid_millwright_api_ErrRange), ("millwright/api.ErrLong", laid_millwright_api_ErrLong), ("millwright/api.ErrForm", laid_millwright_api_ErrForm), ("millwright/api.ErrName", laid_millwright_api_ErrName), ("millwright/api.ErrQuote", laid_millwright_api_ErrQuote), ("millwright/api.ErrRegex", laid_millwright_api_ErrRegex), ("millwright/api.ErrAttr", laid_millwright_api_ErrAttr), ("millwright/api.ErrNone", laid_millwright_api_ErrNone), ("millwright/api.ErrDup", laid_millwright_api_ErrDup), ("millwright/api.ErrFull", laid_millwright_api_ErrFull), ("millwright/api.ErrDepth", laid_millwright_api_ErrDepth), ("millwright/api.ErrCycle", laid_millwright_api_ErrCycle), ("millwright/api.ErrAmbig", laid_millwright_api_ErrAmbig), ("millwright/api.ErrState", laid_millwright_api_ErrState), ("millwright/api.ErrFail", laid_millwright_api_ErrFail), ("millwright/api.ErrFlag", laid_millwright_api_ErrFlag), ("millwright/api.ErrKind", laid_millwright_api_ErrKind), ("millwright/api.ErrLost", laid_millwright_api_ErrLost), ("unicode/utf8.first", laid_unicode_utf8_first)] }
def LinesSplitSaid : Prop := linesSplitRow.holds Tryd.pinned (OpenSpec.ofChange linesSplitSpec)

/-- ITS FALSE NEIGHBOUR: 'it returns false'. Refute it at one input. -/
def linesSplitWrong : ChangeSpec := { name := "linesSplit", fn := fun _ => fun
  | [d] => { results := [.lit (.bool false)], args := [d] }
  | _ => none }
def LinesSplitWrongFalsely : Prop := linesSplitRow.holds Tryd.pinned (OpenSpec.ofChange linesSplitWrong)

/-- 'millwrightlaw12.LinesFaults': WHATEVER THE INPUT: true; the input reads as it did. -/
def linesFaultsSpec : ChangeSpec := { name := "linesFaults", fn := fun _ => fun
  | [d1, d2] => { results := [.lit (.bool true)], args := [d1, d2] }
  | _ => none }
def linesFaultsRow : OpenClaim := { program := "yticphlljahcmkaadoor", sum := "79f3f22d793c68781be1ec4bc29f905b446efda13edc2604a5f2e3dc19739cfd", func := "millwright/millwrightlaw12.LinesFaults", spec := "linesFaults", inPlace := ["internal/bytealg.CountString", "internal/bytealg.IndexByteString", "internal/bytealg.IndexString", "internal/reflectlite.ValueOf", "(internal/reflectlite.Value).Type", "(internal/reflectlite.Value).IsNil", "internal/reflectlite.TypeOf", "(internal/reflectlite.Value).Elem", "(internal/reflectlite.Value).Set"], unfollowed := true, recurses := true, named := ["millwright/api.ErrLong", "unicode/utf8.first", "unicode/utf8.acceptRanges", "internal/bytealg.MaxLen", "millwright/api.ErrQuote", "millwright/api.ErrRange", "millwright/api.ErrForm", "millwright/api.ErrName", "millwright/api.ErrRegex", "millwright/api.ErrAttr", "millwright/api.ErrNone", "millwright/api.ErrDup", "millwright/api.ErrFull", "millwright/api.ErrDepth", "millwright/api.ErrCycle", "millwright/api.ErrAmbig", "millwright/api.ErrState", "millwright/api.ErrFail", "millwright/api.ErrFlag", "millwright/api.ErrKind", "millwright/api.ErrLost", "errors.errorType", "internal/strconv.uint64pow10", "math/bits.deBruijn32tab", "math/bits.deBruijn64tab"], apart := false, laid := [("math/bits.deBruijn32tab", laid_math_bits_deBruijn32tab), ("math/bits.deBruijn64tab", laid_math_bits_deBruijn64tab), ("internal/strconv.uint64pow10", laid_internal_strconv_uint64pow10), ("unicode/utf8.acceptRanges", laid_unicode_utf8_acceptRanges), ("errors.errorType", laid_errors_errorType), ("millwright/api.ErrRange", laid_millwright_api_ErrRange), ("millwright/api.ErrLong", laid_millwright_api_ErrLong), ("millwright/api.ErrForm", laid_millwright_api_ErrForm), ("millwright/api.ErrName", laid_millwright_api_ErrName), ("millwright/api.ErrQuote", laid_millwright_api_ErrQuote), ("millwright/api.ErrRegex", laid_millwright_api_ErrRegex), ("millwright/api.ErrAttr", laid_millwright_api_ErrAttr), ("millwright/api.ErrNone", laid_millwright_api_ErrNone), ("millwright/api.ErrDup", laid_millwright_api_ErrDup), ("millwright/api.ErrFull", laid_millwright_api_ErrFull), ("millwright/api.ErrDepth", laid_millwright_api_ErrDepth), ("millwright/api.ErrCycle", laid_millwright_api_ErrCycle), ("millwright/api.ErrAmbig", laid_millwright_api_ErrAmbig), ("millwright/api.ErrState", laid_millwright_api_ErrState), ("millwright/api.ErrFail", laid_millwright_api_ErrFail), ("millwright/api.ErrFlag", laid_millwright_api_ErrFlag), ("millwright/api.ErrKind", laid_millwright_api_ErrKind), ("millwright/api.ErrLost", laid_millwright_api_ErrLost), ("unicode/utf8.first", laid_unicode_utf8_first)] }
def LinesFaultsSaid : Prop := linesFaultsRow.holds Tryd.pinned (OpenSpec.ofChange linesFaultsSpec)

/-- ITS FALSE NEIGHBOUR: 'it returns false'. Refute it at one input. -/
def linesFaultsWrong : ChangeSpec := { name := "linesFaults", fn := fun _ => fun
  | [d1, d2] => { results := [.lit (.bool false)], args := [d1, d2] }
  | _ => none }
def LinesFaultsWrongFalsely : Prop := linesFaultsRow.holds Tryd.pinned (OpenSpec.ofChange linesFaultsWrong)

/-- 'millwrightlaw19.StmtAlone': WHATEVER THE INPUT: true; the input reads as it did. -/
def stmtAloneSpec : ChangeSpec := { name := "stmtAlone", fn := fun _ => fun
  | [d1, d2] => { results := [.lit (.bool true)], args := [d1, d2] }
  | _ => none }
def stmtAloneRow : OpenClaim := { program := "yticphlljahcmkaadoor", sum := "79f3f22d793c68781be1ec4bc29f905b446efda13edc2604a5f2e3dc19739cfd", func := "millwright/millwrightlaw19.StmtAlone", spec := "stmtAlone", inPlace := ["internal/bytealg.CountString", "internal/bytealg.IndexByteString", "internal/bytealg.IndexString", "internal/abi.NoEscape", "internal/bytealg.MakeNoZero"], unfollowed := true, recurses := true, named := ["millwright/api.ErrLong", "unicode/utf8.first", "unicode/utf8.acceptRanges", "internal/bytealg.MaxLen", "millwright/api.ErrQuote", "millwright/api.ErrForm", "millwright/api.ErrName", "millwright/api.ErrAttr"], apart := false, laid := [("unicode/utf8.acceptRanges", laid_unicode_utf8_acceptRanges), ("millwright/api.ErrLong", laid_millwright_api_ErrLong), ("millwright/api.ErrForm", laid_millwright_api_ErrForm), ("millwright/api.ErrName", laid_millwright_api_ErrName), ("millwright/api.ErrQuote", laid_millwright_api_ErrQuote), ("millwright/api.ErrAttr", laid_millwright_api_ErrAttr), ("unicode/utf8.first", laid_unicode_utf8_first)] }
def StmtAloneSaid : Prop := stmtAloneRow.holds Tryd.pinned (OpenSpec.ofChange stmtAloneSpec)

/-- ITS FALSE NEIGHBOUR: 'it returns false'. Refute it at one input. -/
def stmtAloneWrong : ChangeSpec := { name := "stmtAlone", fn := fun _ => fun
  | [d1, d2] => { results := [.lit (.bool false)], args := [d1, d2] }
  | _ => none }
def StmtAloneWrongFalsely : Prop := stmtAloneRow.holds Tryd.pinned (OpenSpec.ofChange stmtAloneWrong)

/- THE SECOND FORM. 'bulk': how many values and letters a reading holds, each counted each time it is reached (what is shared counts as often as it is met; a slice's spare places count too). A statement '..UptoSaid' is the law's where the arguments, and the package variables that the reading takes, are together of bulk at most 1048576: NARROWER than '..Said'. Prove '..Said' where nothing that the law and all that it calls make is longer than what came in: it says more and counts as full. Else prove '..UptoSaid'. A law counts once. -/
mutual
def uptoBulk {H : Type} : DataW H → Nat
  | .lit (.string bytes) => bytes.length + 1
  | .lit _ => 1
  | .nil => 1
  | .ptr d => uptoBulk d + 1
  | .slice elems spare => uptoBulkAll elems + uptoBulkAll spare + 1
  | .agg parts => uptoBulkAll parts + 1
  | .iface _ d => uptoBulk d + 1
  | .map entries => uptoBulkEntries entries + 1
  | .held _ => 1
def uptoBulkAll {H : Type} : List (DataW H) → Nat
  | [] => 0
  | d :: r => uptoBulk d + uptoBulkAll r
def uptoBulkEntries {H : Type} : List (Lit × DataW H) → Nat
  | [] => 0
  | x :: r => uptoBulkEntry x + uptoBulkEntries r
def uptoBulkEntry {H : Type} : Lit × DataW H → Nat
  | (.string bytes, d) => bytes.length + uptoBulk d + 1
  | (_, d) => uptoBulk d + 1
 end
def uptoSmall : (H : Type) → List (DataW H) → Bool := fun _ ds => decide (uptoBulkAll ds ≤ 1048576)
def OpenSpec.upto (s : _root_.Go.ChangeSpec) : _root_.Go.OpenSpec := { _root_.Go.OpenSpec.ofChange s with cond := some uptoSmall }

/-- 'millwrightlaw36.ReportFiles', WHERE WHAT IT READS IS OF BULK AT MOST 1048576: true; the input reads as it did. -/
def reportFilesUptoRow : OpenClaim := { program := "yticphlljahcmkaadoor", sum := "79f3f22d793c68781be1ec4bc29f905b446efda13edc2604a5f2e3dc19739cfd", func := "millwright/millwrightlaw36.ReportFiles", spec := "reportFiles", inPlace := ["internal/abi.NoEscape", "internal/bytealg.MakeNoZero"], recurses := true, named := ["internal/strconv.uint64pow10", "math/bits.deBruijn32tab", "math/bits.deBruijn64tab", "millwright/report.words"], apart := false, laid := [("math/bits.deBruijn32tab", laid_math_bits_deBruijn32tab), ("math/bits.deBruijn64tab", laid_math_bits_deBruijn64tab), ("internal/strconv.uint64pow10", laid_internal_strconv_uint64pow10), ("millwright/report.words", laid_millwright_report_words)], narrowed := true }
def ReportFilesUptoSaid : Prop := reportFilesUptoRow.holds Tryd.pinned (OpenSpec.upto reportFilesSpec)

/-- 'millwrightlaw40.PrintPlain', WHERE WHAT IT READS IS OF BULK AT MOST 1048576: true; the input reads as it did. -/
def printPlainUptoRow : OpenClaim := { program := "yticphlljahcmkaadoor", sum := "79f3f22d793c68781be1ec4bc29f905b446efda13edc2604a5f2e3dc19739cfd", func := "millwright/millwrightlaw40.PrintPlain", spec := "printPlain", inPlace := ["internal/bytealg.IndexByteString", "internal/bytealg.IndexString", "internal/bytealg.CountString", "internal/abi.NoEscape", "internal/bytealg.MakeNoZero"], unfollowed := true, recurses := true, named := ["millwright/api.ErrForm", "millwright/api.ErrFull", "millwright/api.ErrLong", "internal/bytealg.MaxLen", "unicode/utf8.first", "unicode/utf8.acceptRanges"], apart := false, laid := [("unicode/utf8.acceptRanges", laid_unicode_utf8_acceptRanges), ("millwright/api.ErrLong", laid_millwright_api_ErrLong), ("millwright/api.ErrForm", laid_millwright_api_ErrForm), ("millwright/api.ErrFull", laid_millwright_api_ErrFull), ("unicode/utf8.first", laid_unicode_utf8_first)], narrowed := true }
def PrintPlainUptoSaid : Prop := printPlainUptoRow.holds Tryd.pinned (OpenSpec.upto printPlainSpec)

/-- 'millwrightlaw40.PrintTexts', WHERE WHAT IT READS IS OF BULK AT MOST 1048576: true; the input reads as it did. -/
def printTextsUptoRow : OpenClaim := { program := "yticphlljahcmkaadoor", sum := "79f3f22d793c68781be1ec4bc29f905b446efda13edc2604a5f2e3dc19739cfd", func := "millwright/millwrightlaw40.PrintTexts", spec := "printTexts", inPlace := ["internal/bytealg.IndexByteString", "internal/bytealg.IndexString", "internal/bytealg.CountString", "internal/abi.NoEscape", "internal/bytealg.MakeNoZero", "internal/reflectlite.TypeOf"], unfollowed := true, recurses := true, named := ["millwright/api.ErrForm", "millwright/api.ErrFull", "millwright/api.ErrLong", "internal/bytealg.MaxLen", "unicode/utf8.first", "unicode/utf8.acceptRanges", "millwright/api.ErrRange", "millwright/api.ErrName", "millwright/api.ErrQuote", "millwright/api.ErrRegex", "millwright/api.ErrAttr", "millwright/api.ErrNone", "millwright/api.ErrDup", "millwright/api.ErrDepth", "millwright/api.ErrCycle", "millwright/api.ErrAmbig", "millwright/api.ErrState", "millwright/api.ErrFail", "millwright/api.ErrFlag", "millwright/api.ErrKind", "millwright/api.ErrLost"], apart := false, laid := [("unicode/utf8.acceptRanges", laid_unicode_utf8_acceptRanges), ("millwright/api.ErrRange", laid_millwright_api_ErrRange), ("millwright/api.ErrLong", laid_millwright_api_ErrLong), ("millwright/api.ErrForm", laid_millwright_api_ErrForm), ("millwright/api.ErrName", laid_millwright_api_ErrName), ("millwright/api.ErrQuote", laid_millwright_api_ErrQuote), ("millwright/api.ErrRegex", laid_millwright_api_ErrRegex), ("millwright/api.ErrAttr", laid_millwright_api_ErrAttr), ("millwright/api.ErrNone", laid_millwright_api_ErrNone), ("millwright/api.ErrDup", laid_millwright_api_ErrDup), ("millwright/api.ErrFull", laid_millwright_api_ErrFull), ("millwright/api.ErrDepth", laid_millwright_api_ErrDepth), ("millwright/api.ErrCycle", laid_millwright_api_ErrCycle), ("millwright/api.ErrAmbig", laid_millwright_api_ErrAmbig), ("millwright/api.ErrState", laid_millwright_api_ErrState), ("millwright/api.ErrFail", laid_millwright_api_ErrFail), ("millwright/api.ErrFlag", laid_millwright_api_ErrFlag), ("millwright/api.ErrKind", laid_millwright_api_ErrKind), ("millwright/api.ErrLost", laid_millwright_api_ErrLost), ("unicode/utf8.first", laid_unicode_utf8_first)], narrowed := true }
def PrintTextsUptoSaid : Prop := printTextsUptoRow.holds Tryd.pinned (OpenSpec.upto printTextsSpec)

/-- 'millwrightlaw12.LinesJoin', WHERE WHAT IT READS IS OF BULK AT MOST 1048576: true; the input reads as it did. -/
def linesJoinUptoRow : OpenClaim := { program := "yticphlljahcmkaadoor", sum := "79f3f22d793c68781be1ec4bc29f905b446efda13edc2604a5f2e3dc19739cfd", func := "millwright/millwrightlaw12.LinesJoin", spec := "linesJoin", inPlace := ["internal/bytealg.CountString", "internal/bytealg.IndexByteString", "internal/bytealg.IndexString"], named := ["millwright/api.ErrLong", "unicode/utf8.first", "unicode/utf8.acceptRanges", "internal/bytealg.MaxLen", "millwright/api.ErrQuote"], apart := false, laid := [("unicode/utf8.acceptRanges", laid_unicode_utf8_acceptRanges), ("millwright/api.ErrLong", laid_millwright_api_ErrLong), ("millwright/api.ErrQuote", laid_millwright_api_ErrQuote), ("unicode/utf8.first", laid_unicode_utf8_first)], narrowed := true }
def LinesJoinUptoSaid : Prop := linesJoinUptoRow.holds Tryd.pinned (OpenSpec.upto linesJoinSpec)

/-- 'millwrightlaw12.LinesWhole', WHERE WHAT IT READS IS OF BULK AT MOST 1048576: true; the input reads as it did. -/
def linesWholeUptoRow : OpenClaim := { program := "yticphlljahcmkaadoor", sum := "79f3f22d793c68781be1ec4bc29f905b446efda13edc2604a5f2e3dc19739cfd", func := "millwright/millwrightlaw12.LinesWhole", spec := "linesWhole", inPlace := ["internal/bytealg.CountString", "internal/bytealg.IndexByteString", "internal/bytealg.IndexString"], named := ["millwright/api.ErrLong", "unicode/utf8.first", "unicode/utf8.acceptRanges", "internal/bytealg.MaxLen", "millwright/api.ErrQuote"], apart := false, laid := [("unicode/utf8.acceptRanges", laid_unicode_utf8_acceptRanges), ("millwright/api.ErrLong", laid_millwright_api_ErrLong), ("millwright/api.ErrQuote", laid_millwright_api_ErrQuote), ("unicode/utf8.first", laid_unicode_utf8_first)], narrowed := true }
def LinesWholeUptoSaid : Prop := linesWholeUptoRow.holds Tryd.pinned (OpenSpec.upto linesWholeSpec)

/-- 'millwrightlaw12.LinesSplit', WHERE WHAT IT READS IS OF BULK AT MOST 1048576: true; the input reads as it did. -/
def linesSplitUptoRow : OpenClaim := { program := "yticphlljahcmkaadoor", sum := "79f3f22d793c68781be1ec4bc29f905b446efda13edc2604a5f2e3dc19739cfd", func := "millwright/millwrightlaw12.LinesSplit", spec := "linesSplit", inPlace := ["internal/bytealg.CountString", "internal/bytealg.IndexByteString", "internal/bytealg.IndexString", "internal/reflectlite.ValueOf", "(internal/reflectlite.Value).Type", "(internal/reflectlite.Value).IsNil", "internal/reflectlite.TypeOf", "(internal/reflectlite.Value).Elem", "(internal/reflectlite.Value).Set"], unfollowed := true, recurses := true, named := ["millwright/api.ErrLong", "unicode/utf8.first", "unicode/utf8.acceptRanges", "internal/bytealg.MaxLen", "millwright/api.ErrQuote", "errors.errorType", "millwright/api.ErrRange", "millwright/api.ErrForm", "millwright/api.ErrName", "millwright/api.ErrRegex", "millwright/api.ErrAttr", "millwright/api.ErrNone", "millwright/api.ErrDup", "millwright/api.ErrFull", "millwright/api.ErrDepth", "millwright/api.ErrCycle", "millwright/api.ErrAmbig", "millwright/api.ErrState", "millwright/api.ErrFail", "millwright/api.ErrFlag", "millwright/api.ErrKind", "millwright/api.ErrLost"], apart := false, laid := [("unicode/utf8.acceptRanges", laid_unicode_utf8_acceptRanges), ("errors.errorType", laid_errors_errorType), ("millwright/api.ErrRange", laid_millwright_api_ErrRange), ("millwright/api.ErrLong", laid_millwright_api_ErrLong), ("millwright/api.ErrForm", laid_millwright_api_ErrForm), ("millwright/api.ErrName", laid_millwright_api_ErrName), ("millwright/api.ErrQuote", laid_millwright_api_ErrQuote), ("millwright/api.ErrRegex", laid_millwright_api_ErrRegex), ("millwright/api.ErrAttr", laid_millwright_api_ErrAttr), ("millwright/api.ErrNone", laid_millwright_api_ErrNone), ("millwright/api.ErrDup", laid_millwright_api_ErrDup), ("millwright/api.ErrFull", laid_millwright_api_ErrFull), ("millwright/api.ErrDepth", laid_millwright_api_ErrDepth), ("millwright/api.ErrCycle", laid_millwright_api_ErrCycle), ("millwright/api.ErrAmbig", laid_millwright_api_ErrAmbig), ("millwright/api.ErrState", laid_millwright_api_ErrState), ("millwright/api.ErrFail", laid_millwright_api_ErrFail), ("millwright/api.ErrFlag", laid_millwright_api_ErrFlag), ("millwright/api.ErrKind", laid_millwright_api_ErrKind), ("millwright/api.ErrLost", laid_millwright_api_ErrLost), ("unicode/utf8.first", laid_unicode_utf8_first)], narrowed := true }
def LinesSplitUptoSaid : Prop := linesSplitUptoRow.holds Tryd.pinned (OpenSpec.upto linesSplitSpec)

/-- 'millwrightlaw12.LinesFaults', WHERE WHAT IT READS IS OF BULK AT MOST 1048576: true; the input reads as it did. -/
def linesFaultsUptoRow : OpenClaim := { program := "yticphlljahcmkaadoor", sum := "79f3f22d793c68781be1ec4bc29f905b446efda13edc2604a5f2e3dc19739cfd", func := "millwright/millwrightlaw12.LinesFaults", spec := "linesFaults", inPlace := ["internal/bytealg.CountString", "internal/bytealg.IndexByteString", "internal/bytealg.IndexString", "internal/reflectlite.ValueOf", "(internal/reflectlite.Value).Type", "(internal/reflectlite.Value).IsNil", "internal/reflectlite.TypeOf", "(internal/reflectlite.Value).Elem", "(internal/reflectlite.Value).Set"], unfollowed := true, recurses := true, named := ["millwright/api.ErrLong", "unicode/utf8.first", "unicode/utf8.acceptRanges", "internal/bytealg.MaxLen", "millwright/api.ErrQuote", "millwright/api.ErrRange", "millwright/api.ErrForm", "millwright/api.ErrName", "millwright/api.ErrRegex", "millwright/api.ErrAttr", "millwright/api.ErrNone", "millwright/api.ErrDup", "millwright/api.ErrFull", "millwright/api.ErrDepth", "millwright/api.ErrCycle", "millwright/api.ErrAmbig", "millwright/api.ErrState", "millwright/api.ErrFail", "millwright/api.ErrFlag", "millwright/api.ErrKind", "millwright/api.ErrLost", "errors.errorType", "internal/strconv.uint64pow10", "math/bits.deBruijn32tab", "math/bits.deBruijn64tab"], apart := false, laid := [("math/bits.deBruijn32tab", laid_math_bits_deBruijn32tab), ("math/bits.deBruijn64tab", laid_math_bits_deBruijn64tab), ("internal/strconv.uint64pow10", laid_internal_strconv_uint64pow10), ("unicode/utf8.acceptRanges", laid_unicode_utf8_acceptRanges), ("errors.errorType", laid_errors_errorType), ("millwright/api.ErrRange", laid_millwright_api_ErrRange), ("millwright/api.ErrLong", laid_millwright_api_ErrLong), ("millwright/api.ErrForm", laid_millwright_api_ErrForm), ("millwright/api.ErrName", laid_millwright_api_ErrName), ("millwright/api.ErrQuote", laid_millwright_api_ErrQuote), ("millwright/api.ErrRegex", laid_millwright_api_ErrRegex), ("millwright/api.ErrAttr", laid_millwright_api_ErrAttr), ("millwright/api.ErrNone", laid_millwright_api_ErrNone), ("millwright/api.ErrDup", laid_millwright_api_ErrDup), ("millwright/api.ErrFull", laid_millwright_api_ErrFull), ("millwright/api.ErrDepth", laid_millwright_api_ErrDepth), ("millwright/api.ErrCycle", laid_millwright_api_ErrCycle), ("millwright/api.ErrAmbig", laid_millwright_api_ErrAmbig), ("millwright/api.ErrState", laid_millwright_api_ErrState), ("millwright/api.ErrFail", laid_millwright_api_ErrFail), ("millwright/api.ErrFlag", laid_millwright_api_ErrFlag), ("millwright/api.ErrKind", laid_millwright_api_ErrKind), ("millwright/api.ErrLost", laid_millwright_api_ErrLost), ("unicode/utf8.first", laid_unicode_utf8_first)], narrowed := true }
def LinesFaultsUptoSaid : Prop := linesFaultsUptoRow.holds Tryd.pinned (OpenSpec.upto linesFaultsSpec)

/-- 'millwrightlaw19.StmtAlone', WHERE WHAT IT READS IS OF BULK AT MOST 1048576: true; the input reads as it did. -/
def stmtAloneUptoRow : OpenClaim := { program := "yticphlljahcmkaadoor", sum := "79f3f22d793c68781be1ec4bc29f905b446efda13edc2604a5f2e3dc19739cfd", func := "millwright/millwrightlaw19.StmtAlone", spec := "stmtAlone", inPlace := ["internal/bytealg.CountString", "internal/bytealg.IndexByteString", "internal/bytealg.IndexString", "internal/abi.NoEscape", "internal/bytealg.MakeNoZero"], unfollowed := true, recurses := true, named := ["millwright/api.ErrLong", "unicode/utf8.first", "unicode/utf8.acceptRanges", "internal/bytealg.MaxLen", "millwright/api.ErrQuote", "millwright/api.ErrForm", "millwright/api.ErrName", "millwright/api.ErrAttr"], apart := false, laid := [("unicode/utf8.acceptRanges", laid_unicode_utf8_acceptRanges), ("millwright/api.ErrLong", laid_millwright_api_ErrLong), ("millwright/api.ErrForm", laid_millwright_api_ErrForm), ("millwright/api.ErrName", laid_millwright_api_ErrName), ("millwright/api.ErrQuote", laid_millwright_api_ErrQuote), ("millwright/api.ErrAttr", laid_millwright_api_ErrAttr), ("unicode/utf8.first", laid_unicode_utf8_first)], narrowed := true }
def StmtAloneUptoSaid : Prop := stmtAloneUptoRow.holds Tryd.pinned (OpenSpec.upto stmtAloneSpec)

end Rows
end Go.Proofs.YticphlljahcmkaaDoor
