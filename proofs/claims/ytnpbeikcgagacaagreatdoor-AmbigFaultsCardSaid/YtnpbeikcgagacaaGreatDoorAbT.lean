/- One text of a proof that a law of this seat says true for every input: an evaluator of code over data, and that it tells the truth. It holds of the given program under the conditions that the row prints. -/
import Derived.Test.YtnpbeikcgagacaaGreatDoorAbCa
import Derived.Test.YtnpbeikcgagacaaGreatDoorProg
set_option linter.unusedSimpArgs false
set_option linter.unusedVariables false
set_option linter.unusedSectionVars false
namespace Go.Ab
open Go.Proofs

/-- The types of the program, as far as the evaluator asks. -/
def tab : List TI := [
  ⟨.other, 0, [], [], false, [], []⟩,
  ⟨.func, 1, [.v .nilFunc], [], false, [], []⟩,
  ⟨.int .i64, 1, [.v (.int .i64 0)], [], false, [], []⟩,
  ⟨.int .i64, 1, [.v (.int .i64 0)], [], false, [], []⟩,
  ⟨.bool, 1, [.v (.bool false)], [], false, [], []⟩,
  ⟨.int .u8, 1, [.v (.int .u8 0)], [], false, [], []⟩,
  ⟨.int .u8, 1, [.v (.int .u8 0)], [], false, [], []⟩,
  ⟨.strct [(2, 0), (3, 1), (4, 2), (6, 3)], 4, [.v (.int .i64 0), .v (.int .i64 0), .v (.bool false), .v (.int .u8 0)], [], false, [], []⟩,
  ⟨.strct [(2, 0), (3, 1), (4, 2), (6, 3)], 4, [.v (.int .i64 0), .v (.int .i64 0), .v (.bool false), .v (.int .u8 0)], [], false, [], []⟩,
  ⟨.str, 1, [.s []], [], false, [], []⟩,
  ⟨.str, 1, [.s []], [], false, [], []⟩,
  ⟨.str, 1, [.s []], [], false, [], []⟩,
  ⟨.int .u64, 1, [.v (.int .u64 0)], [], false, [], []⟩,
  ⟨.strct [(9, 0), (12, 1)], 2, [.s [], .v (.int .u64 0)], [], false, [], []⟩,
  ⟨.strct [(9, 0), (12, 1)], 2, [.s [], .v (.int .u64 0)], [], false, [], []⟩,
  ⟨.ptr 275, 1, [.v (.pointer none)], [], false, [], []⟩,
  ⟨.ptr 278, 1, [.v (.pointer none)], [], false, [], []⟩,
  ⟨.ptr 286, 1, [.v (.pointer none)], [], false, [], []⟩,
  ⟨.strct [(17, 0)], 1, [.v (.pointer none)], [], false, [], []⟩,
  ⟨.strct [(17, 0)], 1, [.v (.pointer none)], [], false, [], []⟩,
  ⟨.iface true, 1, [.v .nilIface], [], false, [], []⟩,
  ⟨.int .i32, 1, [.v (.int .i32 0)], [], false, [], []⟩,
  ⟨.func, 1, [.v .nilFunc], [], false, [], []⟩,
  ⟨.ptr 25, 1, [.v (.pointer none)], [], false, [(146, false), (144, true)], [("Unwrap", 9)]⟩,
  ⟨.strct [(9, 0), (3, 1), (3, 2)], 3, [.s [], .v (.int .i64 0), .v (.int .i64 0)], [], false, [], []⟩,
  ⟨.strct [(9, 0), (3, 1), (3, 2)], 3, [.s [], .v (.int .i64 0), .v (.int .i64 0)], [.s, .i, .i], false, [], []⟩,
  ⟨.other, 0, [], [], false, [], []⟩,
  ⟨.func, 1, [.v .nilFunc], [], false, [], []⟩,
  ⟨.ptr 32, 1, [.v (.pointer none)], [], false, [(146, false), (144, true)], [("Unwrap", 209)]⟩,
  ⟨.iface false, 1, [.v .nilIface], [], false, [], []⟩,
  ⟨.iface false, 1, [.v .nilIface], [], false, [], []⟩,
  ⟨.strct [(9, 0), (3, 1), (30, 2)], 3, [.s [], .v (.int .i64 0), .v .nilIface], [], false, [], []⟩,
  ⟨.strct [(9, 0), (3, 1), (30, 2)], 3, [.s [], .v (.int .i64 0), .v .nilIface], [], false, [], []⟩,
  ⟨.func, 1, [.v .nilFunc], [], false, [], []⟩,
  ⟨.func, 1, [.v .nilFunc], [], false, [], []⟩,
  ⟨.func, 1, [.v .nilFunc], [], false, [], []⟩,
  ⟨.func, 1, [.v .nilFunc], [], false, [], []⟩,
  ⟨.func, 1, [.v .nilFunc], [], false, [], []⟩,
  ⟨.ptr 63, 1, [.v (.pointer none)], [], false, [], []⟩,
  ⟨.other, 0, [], [], false, [], []⟩,
  ⟨.func, 1, [.v .nilFunc], [], false, [], []⟩,
  ⟨.slice 9, 1, [.sl 1 []], [], false, [], []⟩,
  ⟨.strct [(3, 0), (9, 1)], 2, [.v (.int .i64 0), .s []], [], false, [], []⟩,
  ⟨.strct [(3, 0), (9, 1)], 2, [.v (.int .i64 0), .s []], [.i, .s], false, [], []⟩,
  ⟨.strct [(41, 0), (41, 1), (43, 2), (9, 4), (9, 5), (3, 6)], 7, [.sl 1 [], .sl 1 [], .v (.int .i64 0), .s [], .s [], .s [], .v (.int .i64 0)], [], false, [], []⟩,
  ⟨.strct [(41, 0), (41, 1), (43, 2), (9, 4), (9, 5), (3, 6)], 7, [.sl 1 [], .sl 1 [], .v (.int .i64 0), .s [], .s [], .s [], .v (.int .i64 0)], [], false, [], []⟩,
  ⟨.slice 45, 1, [.sl 7 []], [], false, [], []⟩,
  ⟨.slice 55, 1, [.sl 2 []], [], false, [], []⟩,
  ⟨.strct [(41, 0), (47, 1)], 2, [.sl 1 [], .sl 2 []], [], false, [], []⟩,
  ⟨.strct [(41, 0), (47, 1)], 2, [.sl 1 [], .sl 2 []], [], false, [], []⟩,
  ⟨.other, 0, [], [], false, [], []⟩,
  ⟨.func, 1, [.v .nilFunc], [], false, [], []⟩,
  ⟨.func, 1, [.v .nilFunc], [], false, [], []⟩,
  ⟨.slice 118, 1, [.sl 5 []], [], false, [], []⟩,
  ⟨.strct [(9, 0), (53, 1)], 2, [.s [], .sl 5 []], [], false, [], []⟩,
  ⟨.strct [(9, 0), (53, 1)], 2, [.s [], .sl 5 []], [], false, [], []⟩,
  ⟨.func, 1, [.v .nilFunc], [], false, [], []⟩,
  ⟨.ptr 23, 1, [.v (.pointer none)], [], false, [], []⟩,
  ⟨.slice 30, 1, [.sl 1 []], [], false, [], []⟩,
  ⟨.func, 1, [.v .nilFunc], [], false, [], []⟩,
  ⟨.func, 1, [.v .nilFunc], [], false, [], []⟩,
  ⟨.slice 3, 1, [.sl 1 []], [], false, [], []⟩,
  ⟨.strct [(46, 0), (61, 1)], 2, [.sl 7 [], .sl 1 []], [], false, [], []⟩,
  ⟨.strct [(46, 0), (61, 1)], 2, [.sl 7 [], .sl 1 []], [], false, [], []⟩,
  ⟨.func, 1, [.v .nilFunc], [], false, [], []⟩,
  ⟨.func, 1, [.v .nilFunc], [], false, [], []⟩,
  ⟨.func, 1, [.v .nilFunc], [], false, [], []⟩,
  ⟨.ptr 73, 1, [.v (.pointer none)], [], false, [], []⟩,
  ⟨.map 3 75, 1, [.v (.map none)], [], false, [], []⟩,
  ⟨.map 79 3, 1, [.v (.map none)], [], false, [], []⟩,
  ⟨.map 9 113, 1, [.v (.map none)], [], false, [], []⟩,
  ⟨.slice 79, 1, [.sl 2 []], [], false, [], []⟩,
  ⟨.strct [(38, 0), (68, 1), (69, 2), (70, 3), (71, 4), (4, 5)], 6, [.v (.pointer none), .v (.map none), .v (.map none), .v (.map none), .sl 2 [], .v (.bool false)], [], false, [], []⟩,
  ⟨.strct [(38, 0), (68, 1), (69, 2), (70, 3), (71, 4), (4, 5)], 6, [.v (.pointer none), .v (.map none), .v (.map none), .v (.map none), .sl 2 [], .v (.bool false)], [], false, [], []⟩,
  ⟨.func, 1, [.v .nilFunc], [], false, [], []⟩,
  ⟨.int .u64, 1, [.v (.int .u64 0)], [], false, [], []⟩,
  ⟨.func, 1, [.v .nilFunc], [], false, [], []⟩,
  ⟨.func, 1, [.v .nilFunc], [], false, [], []⟩,
  ⟨.strct [(9, 0), (75, 1)], 2, [.s [], .v (.int .u64 0)], [], false, [], []⟩,
  ⟨.strct [(9, 0), (75, 1)], 2, [.s [], .v (.int .u64 0)], [.s, .i], false, [], []⟩,
  ⟨.func, 1, [.v .nilFunc], [], false, [], []⟩,
  ⟨.func, 1, [.v .nilFunc], [], false, [], []⟩,
  ⟨.other, 0, [], [], false, [], []⟩,
  ⟨.func, 1, [.v .nilFunc], [], false, [], []⟩,
  ⟨.func, 1, [.v .nilFunc], [], false, [], []⟩,
  ⟨.func, 1, [.v .nilFunc], [], false, [], []⟩,
  ⟨.other, 0, [], [], false, [], []⟩,
  ⟨.int .u64, 1, [.v (.int .u64 0)], [], false, [], []⟩,
  ⟨.other, 0, [], [], false, [], []⟩,
  ⟨.other, 0, [], [], false, [], []⟩,
  ⟨.func, 1, [.v .nilFunc], [], false, [], []⟩,
  ⟨.iface false, 1, [.v .nilIface], [], false, [], []⟩,
  ⟨.iface false, 1, [.v .nilIface], [], false, [], []⟩,
  ⟨.func, 1, [.v .nilFunc], [], false, [], []⟩,
  ⟨.int .u8, 1, [.v (.int .u8 0)], [], false, [], []⟩,
  ⟨.func, 1, [.v .nilFunc], [], false, [], []⟩,
  ⟨.func, 1, [.v .nilFunc], [], false, [], []⟩,
  ⟨.func, 1, [.v .nilFunc], [], false, [], []⟩,
  ⟨.func, 1, [.v .nilFunc], [], false, [], []⟩,
  ⟨.func, 1, [.v .nilFunc], [], false, [], []⟩,
  ⟨.func, 1, [.v .nilFunc], [], false, [], []⟩,
  ⟨.func, 1, [.v .nilFunc], [], false, [], []⟩,
  ⟨.func, 1, [.v .nilFunc], [], false, [], []⟩,
  ⟨.func, 1, [.v .nilFunc], [], false, [], []⟩,
  ⟨.func, 1, [.v .nilFunc], [], false, [], []⟩,
  ⟨.func, 1, [.v .nilFunc], [], false, [], []⟩,
  ⟨.func, 1, [.v .nilFunc], [], false, [], []⟩,
  ⟨.func, 1, [.v .nilFunc], [], false, [], []⟩,
  ⟨.func, 1, [.v .nilFunc], [], false, [], []⟩,
  ⟨.func, 1, [.v .nilFunc], [], false, [], []⟩,
  ⟨.other, 0, [], [], false, [], []⟩,
  ⟨.map 3 118, 1, [.v (.map none)], [], false, [], []⟩,
  ⟨.strct [(53, 0), (111, 1)], 2, [.sl 5 [], .v (.map none)], [], false, [], []⟩,
  ⟨.strct [(53, 0), (111, 1)], 2, [.sl 5 [], .v (.map none)], [], false, [], []⟩,
  ⟨.other, 0, [], [], false, [], []⟩,
  ⟨.other, 0, [], [], false, [], []⟩,
  ⟨.func, 1, [.v .nilFunc], [], false, [], []⟩,
  ⟨.strct [(3, 0), (9, 1), (41, 2), (41, 3), (41, 4)], 5, [.v (.int .i64 0), .s [], .sl 1 [], .sl 1 [], .sl 1 []], [], false, [], []⟩,
  ⟨.strct [(3, 0), (9, 1), (41, 2), (41, 3), (41, 4)], 5, [.v (.int .i64 0), .s [], .sl 1 [], .sl 1 [], .sl 1 []], [], false, [], []⟩,
  ⟨.func, 1, [.v .nilFunc], [], false, [], []⟩,
  ⟨.func, 1, [.v .nilFunc], [], false, [], []⟩,
  ⟨.func, 1, [.v .nilFunc], [], false, [], []⟩,
  ⟨.func, 1, [.v .nilFunc], [], false, [], []⟩,
  ⟨.func, 1, [.v .nilFunc], [], false, [], []⟩,
  ⟨.func, 1, [.v .nilFunc], [], false, [], []⟩,
  ⟨.func, 1, [.v .nilFunc], [], false, [], []⟩,
  ⟨.func, 1, [.v .nilFunc], [], false, [], []⟩,
  ⟨.func, 1, [.v .nilFunc], [], false, [], []⟩,
  ⟨.func, 1, [.v .nilFunc], [], false, [], []⟩,
  ⟨.func, 1, [.v .nilFunc], [], false, [], []⟩,
  ⟨.func, 1, [.v .nilFunc], [], false, [], []⟩,
  ⟨.func, 1, [.v .nilFunc], [], false, [], []⟩,
  ⟨.func, 1, [.v .nilFunc], [], false, [], []⟩,
  ⟨.other, 0, [], [], false, [], []⟩,
  ⟨.func, 1, [.v .nilFunc], [], false, [], []⟩,
  ⟨.func, 1, [.v .nilFunc], [], false, [], []⟩,
  ⟨.strct [(17, 0)], 1, [.v (.pointer none)], [], false, [], []⟩,
  ⟨.strct [(17, 0)], 1, [.v (.pointer none)], [], false, [], []⟩,
  ⟨.ptr 290, 1, [.v (.pointer none)], [], false, [], []⟩,
  ⟨.func, 1, [.v .nilFunc], [], false, [], []⟩,
  ⟨.func, 1, [.v .nilFunc], [], false, [], []⟩,
  ⟨.iface false, 1, [.v .nilIface], [], false, [], []⟩,
  ⟨.other, 0, [], [], false, [], []⟩,
  ⟨.func, 1, [.v .nilFunc], [], false, [], []⟩,
  ⟨.iface false, 1, [.v .nilIface], [], false, [], []⟩,
  ⟨.iface false, 1, [.v .nilIface], [], false, [], []⟩,
  ⟨.iface false, 1, [.v .nilIface], [], false, [], []⟩,
  ⟨.other, 0, [], [], false, [], []⟩,
  ⟨.func, 1, [.v .nilFunc], [], false, [], []⟩,
  ⟨.slice 196, 1, [.sl 7 []], [], false, [], []⟩,
  ⟨.other, 0, [], [], false, [], []⟩,
  ⟨.func, 1, [.v .nilFunc], [], false, [], []⟩,
  ⟨.func, 1, [.v .nilFunc], [], false, [], []⟩,
  ⟨.func, 1, [.v .nilFunc], [], false, [], []⟩,
  ⟨.slice 41, 1, [.sl 1 []], [], false, [], []⟩,
  ⟨.func, 1, [.v .nilFunc], [], false, [], []⟩,
  ⟨.func, 1, [.v .nilFunc], [], false, [], []⟩,
  ⟨.other, 0, [], [], false, [], []⟩,
  ⟨.func, 1, [.v .nilFunc], [], false, [], []⟩,
  ⟨.other, 0, [], [], false, [], []⟩,
  ⟨.other, 0, [], [], false, [], []⟩,
  ⟨.func, 1, [.v .nilFunc], [], false, [], []⟩,
  ⟨.func, 1, [.v .nilFunc], [], false, [], []⟩,
  ⟨.func, 1, [.v .nilFunc], [], false, [], []⟩,
  ⟨.func, 1, [.v .nilFunc], [], false, [], []⟩,
  ⟨.func, 1, [.v .nilFunc], [], false, [], []⟩,
  ⟨.int .u64, 1, [.v (.int .u64 0)], [], false, [], []⟩,
  ⟨.arr 4 166, 4, [.v (.int .u64 0), .v (.int .u64 0), .v (.int .u64 0), .v (.int .u64 0)], [], false, [], []⟩,
  ⟨.arr 4 166, 4, [.v (.int .u64 0), .v (.int .u64 0), .v (.int .u64 0), .v (.int .u64 0)], [], false, [], []⟩,
  ⟨.slice 171, 1, [.sl 7 []], [], false, [], []⟩,
  ⟨.strct [(3, 0), (3, 1), (168, 2), (169, 6)], 7, [.v (.int .i64 0), .v (.int .i64 0), .v (.int .u64 0), .v (.int .u64 0), .v (.int .u64 0), .v (.int .u64 0), .sl 7 []], [], false, [], []⟩,
  ⟨.strct [(3, 0), (3, 1), (168, 2), (169, 6)], 7, [.v (.int .i64 0), .v (.int .i64 0), .v (.int .u64 0), .v (.int .u64 0), .v (.int .u64 0), .v (.int .u64 0), .sl 7 []], [], false, [], []⟩,
  ⟨.other, 0, [], [], false, [], []⟩,
  ⟨.func, 1, [.v .nilFunc], [], false, [], []⟩,
  ⟨.func, 1, [.v .nilFunc], [], false, [], []⟩,
  ⟨.func, 1, [.v .nilFunc], [], false, [], []⟩,
  ⟨.func, 1, [.v .nilFunc], [], false, [], []⟩,
  ⟨.other, 0, [], [], false, [], []⟩,
  ⟨.func, 1, [.v .nilFunc], [], false, [], []⟩,
  ⟨.func, 1, [.v .nilFunc], [], false, [], []⟩,
  ⟨.func, 1, [.v .nilFunc], [], false, [], []⟩,
  ⟨.func, 1, [.v .nilFunc], [], false, [], []⟩,
  ⟨.func, 1, [.v .nilFunc], [], false, [], []⟩,
  ⟨.func, 1, [.v .nilFunc], [], false, [], []⟩,
  ⟨.func, 1, [.v .nilFunc], [], false, [], []⟩,
  ⟨.func, 1, [.v .nilFunc], [], false, [], []⟩,
  ⟨.ptr 188, 1, [.v (.pointer none)], [], false, [], []⟩,
  ⟨.strct [(9, 0), (3, 1), (3, 2), (4, 3)], 4, [.s [], .v (.int .i64 0), .v (.int .i64 0), .v (.bool false)], [], false, [], []⟩,
  ⟨.strct [(9, 0), (3, 1), (3, 2), (4, 3)], 4, [.s [], .v (.int .i64 0), .v (.int .i64 0), .v (.bool false)], [], false, [], []⟩,
  ⟨.func, 1, [.v .nilFunc], [], false, [], []⟩,
  ⟨.func, 1, [.v .nilFunc], [], false, [], []⟩,
  ⟨.func, 1, [.v .nilFunc], [], false, [], []⟩,
  ⟨.strct [(149, 0)], 1, [.sl 7 []], [], false, [], []⟩,
  ⟨.strct [(149, 0)], 1, [.sl 7 []], [], false, [], []⟩,
  ⟨.func, 1, [.v .nilFunc], [], false, [], []⟩,
  ⟨.strct [(3, 0), (3, 1), (3, 2), (168, 3)], 7, [.v (.int .i64 0), .v (.int .i64 0), .v (.int .i64 0), .v (.int .u64 0), .v (.int .u64 0), .v (.int .u64 0), .v (.int .u64 0)], [], false, [], []⟩,
  ⟨.strct [(3, 0), (3, 1), (3, 2), (168, 3)], 7, [.v (.int .i64 0), .v (.int .i64 0), .v (.int .i64 0), .v (.int .u64 0), .v (.int .u64 0), .v (.int .u64 0), .v (.int .u64 0)], [], false, [], []⟩,
  ⟨.func, 1, [.v .nilFunc], [], false, [], []⟩,
  ⟨.func, 1, [.v .nilFunc], [], false, [], []⟩,
  ⟨.func, 1, [.v .nilFunc], [], false, [], []⟩,
  ⟨.func, 1, [.v .nilFunc], [], false, [], []⟩,
  ⟨.func, 1, [.v .nilFunc], [], false, [], []⟩,
  ⟨.int .i64, 1, [.v (.int .i64 0)], [], false, [], []⟩,
  ⟨.other, 0, [], [], false, [], []⟩,
  ⟨.func, 1, [.v .nilFunc], [], false, [], []⟩,
  ⟨.func, 1, [.v .nilFunc], [], false, [], []⟩,
  ⟨.func, 1, [.v .nilFunc], [], false, [], []⟩,
  ⟨.func, 1, [.v .nilFunc], [], false, [], []⟩,
  ⟨.func, 1, [.v .nilFunc], [], false, [], []⟩,
  ⟨.func, 1, [.v .nilFunc], [], false, [], []⟩,
  ⟨.int .u32, 1, [.v (.int .u32 0)], [], false, [], []⟩,
  ⟨.func, 1, [.v .nilFunc], [], false, [], []⟩,
  ⟨.func, 1, [.v .nilFunc], [], false, [], []⟩,
  ⟨.func, 1, [.v .nilFunc], [], false, [], []⟩,
  ⟨.func, 1, [.v .nilFunc], [], false, [], []⟩,
  ⟨.func, 1, [.v .nilFunc], [], false, [], []⟩,
  ⟨.func, 1, [.v .nilFunc], [], false, [], []⟩,
  ⟨.func, 1, [.v .nilFunc], [], false, [], []⟩,
  ⟨.func, 1, [.v .nilFunc], [], false, [], []⟩,
  ⟨.other, 0, [], [], false, [], []⟩,
  ⟨.func, 1, [.v .nilFunc], [], false, [], []⟩,
  ⟨.func, 1, [.v .nilFunc], [], false, [], []⟩,
  ⟨.func, 1, [.v .nilFunc], [], false, [], []⟩,
  ⟨.ptr 193, 1, [.v (.pointer none)], [], false, [], []⟩,
  ⟨.func, 1, [.v .nilFunc], [], false, [], []⟩,
  ⟨.func, 1, [.v .nilFunc], [], false, [], []⟩,
  ⟨.other, 0, [], [], false, [], []⟩,
  ⟨.func, 1, [.v .nilFunc], [], false, [], []⟩,
  ⟨.func, 1, [.v .nilFunc], [], false, [], []⟩,
  ⟨.other, 0, [], [], false, [], []⟩,
  ⟨.func, 1, [.v .nilFunc], [], false, [], []⟩,
  ⟨.int .u64, 1, [.v (.int .u64 0)], [], false, [], []⟩,
  ⟨.func, 1, [.v .nilFunc], [], false, [], []⟩,
  ⟨.func, 1, [.v .nilFunc], [], false, [], []⟩,
  ⟨.func, 1, [.v .nilFunc], [], false, [], []⟩,
  ⟨.ptr 3, 1, [.v (.pointer none)], [], false, [], []⟩,
  ⟨.func, 1, [.v .nilFunc], [], false, [], []⟩,
  ⟨.func, 1, [.v .nilFunc], [], false, [], []⟩,
  ⟨.func, 1, [.v .nilFunc], [], false, [], []⟩,
  ⟨.other, 0, [], [], false, [], []⟩,
  ⟨.func, 1, [.v .nilFunc], [], false, [], []⟩,
  ⟨.arr 10 9, 10, [.s [], .s [], .s [], .s [], .s [], .s [], .s [], .s [], .s [], .s []], [], false, [], []⟩,
  ⟨.func, 1, [.v .nilFunc], [], false, [], []⟩,
  ⟨.func, 1, [.v .nilFunc], [], false, [], []⟩,
  ⟨.other, 0, [], [], false, [], []⟩,
  ⟨.func, 1, [.v .nilFunc], [], false, [], []⟩,
  ⟨.func, 1, [.v .nilFunc], [], false, [], []⟩,
  ⟨.func, 1, [.v .nilFunc], [], false, [], []⟩,
  ⟨.ptr 231, 1, [.v (.pointer none)], [], false, [], []⟩,
  ⟨.func, 1, [.v .nilFunc], [], false, [], []⟩,
  ⟨.func, 1, [.v .nilFunc], [], false, [], []⟩,
  ⟨.slice 5, 1, [.sl 1 []], [], false, [], []⟩,
  ⟨.ptr 256, 1, [.v (.pointer none)], [], false, [], []⟩,
  ⟨.slice 267, 1, [.sl 21 []], [], false, [], []⟩,
  ⟨.ptr 258, 1, [.v (.pointer none)], [], false, [], []⟩,
  ⟨.strct [(149, 0), (9, 1), (3, 2), (61, 3), (253, 4), (254, 5)], 6, [.sl 7 [], .s [], .v (.int .i64 0), .sl 1 [], .sl 21 [], .v (.pointer none)], [], false, [], []⟩,
  ⟨.strct [(149, 0), (9, 1), (3, 2), (61, 3), (253, 4), (254, 5)], 6, [.sl 7 [], .s [], .v (.int .i64 0), .sl 1 [], .sl 21 [], .v (.pointer none)], [], false, [], []⟩,
  ⟨.arr 20 3, 20, [.v (.int .i64 0), .v (.int .i64 0), .v (.int .i64 0), .v (.int .i64 0), .v (.int .i64 0), .v (.int .i64 0), .v (.int .i64 0), .v (.int .i64 0), .v (.int .i64 0), .v (.int .i64 0), .v (.int .i64 0), .v (.int .i64 0), .v (.int .i64 0), .v (.int .i64 0), .v (.int .i64 0), .v (.int .i64 0), .v (.int .i64 0), .v (.int .i64 0), .v (.int .i64 0), .v (.int .i64 0)], [], false, [], []⟩,
  ⟨.arr 20 3, 20, [.v (.int .i64 0), .v (.int .i64 0), .v (.int .i64 0), .v (.int .i64 0), .v (.int .i64 0), .v (.int .i64 0), .v (.int .i64 0), .v (.int .i64 0), .v (.int .i64 0), .v (.int .i64 0), .v (.int .i64 0), .v (.int .i64 0), .v (.int .i64 0), .v (.int .i64 0), .v (.int .i64 0), .v (.int .i64 0), .v (.int .i64 0), .v (.int .i64 0), .v (.int .i64 0), .v (.int .i64 0)], [], false, [], []⟩,
  ⟨.func, 1, [.v .nilFunc], [], false, [], []⟩,
  ⟨.func, 1, [.v .nilFunc], [], false, [], []⟩,
  ⟨.func, 1, [.v .nilFunc], [], false, [], []⟩,
  ⟨.func, 1, [.v .nilFunc], [], false, [], []⟩,
  ⟨.func, 1, [.v .nilFunc], [], false, [], []⟩,
  ⟨.func, 1, [.v .nilFunc], [], false, [], []⟩,
  ⟨.func, 1, [.v .nilFunc], [], false, [], []⟩,
  ⟨.strct [(3, 0), (258, 1)], 21, [.v (.int .i64 0), .v (.int .i64 0), .v (.int .i64 0), .v (.int .i64 0), .v (.int .i64 0), .v (.int .i64 0), .v (.int .i64 0), .v (.int .i64 0), .v (.int .i64 0), .v (.int .i64 0), .v (.int .i64 0), .v (.int .i64 0), .v (.int .i64 0), .v (.int .i64 0), .v (.int .i64 0), .v (.int .i64 0), .v (.int .i64 0), .v (.int .i64 0), .v (.int .i64 0), .v (.int .i64 0), .v (.int .i64 0)], [], false, [], []⟩,
  ⟨.strct [(3, 0), (258, 1)], 21, [.v (.int .i64 0), .v (.int .i64 0), .v (.int .i64 0), .v (.int .i64 0), .v (.int .i64 0), .v (.int .i64 0), .v (.int .i64 0), .v (.int .i64 0), .v (.int .i64 0), .v (.int .i64 0), .v (.int .i64 0), .v (.int .i64 0), .v (.int .i64 0), .v (.int .i64 0), .v (.int .i64 0), .v (.int .i64 0), .v (.int .i64 0), .v (.int .i64 0), .v (.int .i64 0), .v (.int .i64 0), .v (.int .i64 0)], [], false, [], []⟩,
  ⟨.func, 1, [.v .nilFunc], [], false, [], []⟩,
  ⟨.func, 1, [.v .nilFunc], [], false, [], []⟩,
  ⟨.func, 1, [.v .nilFunc], [], false, [], []⟩,
  ⟨.func, 1, [.v .nilFunc], [], false, [], []⟩,
  ⟨.func, 1, [.v .nilFunc], [], false, [], []⟩,
  ⟨.ptr 293, 1, [.v (.pointer none)], [], true, [(146, false), (144, false), (145, false)], []⟩,
  ⟨.strct [(17, 0), (17, 1), (17, 2), (9, 3)], 4, [.v (.pointer none), .v (.pointer none), .v (.pointer none), .s []], [], false, [], []⟩,
  ⟨.strct [(17, 0), (17, 1), (17, 2), (9, 3)], 4, [.v (.pointer none), .v (.pointer none), .v (.pointer none), .s []], [], false, [], []⟩,
  ⟨.arr 0 16, 0, [], [], false, [], []⟩,
  ⟨.other, 0, [], [], false, [], []⟩,
  ⟨.other, 0, [], [], false, [], []⟩,
  ⟨.func, 1, [.v .nilFunc], [], false, [], []⟩,
  ⟨.int .u8, 1, [.v (.int .u8 0)], [], false, [], []⟩,
  ⟨.func, 1, [.v .nilFunc], [], false, [], []⟩,
  ⟨.ptr 5, 1, [.v (.pointer none)], [], false, [], []⟩,
  ⟨.int .i32, 1, [.v (.int .i32 0)], [], false, [], []⟩,
  ⟨.int .i32, 1, [.v (.int .i32 0)], [], false, [], []⟩,
  ⟨.strct [(12, 0), (12, 1), (210, 2), (280, 3), (5, 4), (5, 5), (94, 6), (281, 7), (282, 8), (283, 9), (284, 10)], 11, [.v (.int .u64 0), .v (.int .u64 0), .v (.int .u32 0), .v (.int .u8 0), .v (.int .u8 0), .v (.int .u8 0), .v (.int .u8 0), .v .nilFunc, .v (.pointer none), .v (.int .i32 0), .v (.int .i32 0)], [], false, [], []⟩,
  ⟨.strct [(12, 0), (12, 1), (210, 2), (280, 3), (5, 4), (5, 5), (94, 6), (281, 7), (282, 8), (283, 9), (284, 10)], 11, [.v (.int .u64 0), .v (.int .u64 0), .v (.int .u32 0), .v (.int .u8 0), .v (.int .u8 0), .v (.int .u8 0), .v (.int .u8 0), .v .nilFunc, .v (.pointer none), .v (.int .i32 0), .v (.int .i32 0)], [], false, [], []⟩,
  ⟨.func, 1, [.v .nilFunc], [], false, [], []⟩,
  ⟨.func, 1, [.v .nilFunc], [], false, [], []⟩,
  ⟨.strct [(9, 0), (94, 1)], 2, [.s [], .v (.int .u8 0)], [], false, [], []⟩,
  ⟨.strct [(9, 0), (94, 1)], 2, [.s [], .v (.int .u8 0)], [], false, [], []⟩,
  ⟨.func, 1, [.v .nilFunc], [], false, [], []⟩,
  ⟨.strct [(9, 0)], 1, [.s []], [], false, [], []⟩,
  ⟨.strct [(9, 0)], 1, [.s []], [], false, [], []⟩,
  ⟨.ptr 298, 1, [.v (.pointer none)], [], false, [], []⟩,
  ⟨.func, 1, [.v .nilFunc], [], false, [], []⟩,
  ⟨.int .u16, 1, [.v (.int .u16 0)], [], false, [], []⟩,
  ⟨.strct [(283, 0), (296, 1), (296, 2), (210, 3), (210, 4)], 5, [.v (.int .i32 0), .v (.int .u16 0), .v (.int .u16 0), .v (.int .u32 0), .v (.int .u32 0)], [], false, [], []⟩,
  ⟨.strct [(283, 0), (296, 1), (296, 2), (210, 3), (210, 4)], 5, [.v (.int .i32 0), .v (.int .u16 0), .v (.int .u16 0), .v (.int .u32 0), .v (.int .u32 0)], [], false, [], []⟩,
  ⟨.slice 302, 1, [.sl 4 []], [], false, [], []⟩,
  ⟨.int .i32, 1, [.v (.int .i32 0)], [], false, [], []⟩,
  ⟨.strct [(283, 0), (284, 1), (300, 2), (300, 3)], 4, [.v (.int .i32 0), .v (.int .i32 0), .v (.int .i32 0), .v (.int .i32 0)], [], false, [], []⟩,
  ⟨.strct [(283, 0), (284, 1), (300, 2), (300, 3)], 4, [.v (.int .i32 0), .v (.int .i32 0), .v (.int .i32 0), .v (.int .i32 0)], [], false, [], []⟩,
  ⟨.func, 1, [.v .nilFunc], [], false, [], []⟩,
  ⟨.ptr 30, 1, [.v (.pointer none)], [], false, [], []⟩]
theorem tab_ok : tabB Tryz.prog tab 0 tab = true := by kernel_rfl
theorem mixed_ok : Tryz.prog.follows .mixedOrders = true := by kernel_rfl
theorem eqs_ok : eqsB Tryz.prog 0 tab = true := by kernel_rfl
theorem dyns_ok : dynB Tryz.prog 0 tab = true := by kernel_rfl
def methL : List (TypeId × String × FuncId) := [(23, "Unwrap", 9), (28, "Unwrap", 209)]
theorem meths_in : methIn methL 0 tab = true := by kernel_rfl
theorem meths_run : ∀ z ∈ methL, ∀ (v : Value) (w : World), (Go.method (Tryz.prog.types.size + Made.depth) z.1 v z.2.1).run Tryz.prog w = .ok (z.2.2, v) w := by
  intro z hz v w
  simp only [methL, List.mem_cons, List.not_mem_nil, or_false] at hz
  rcases hz with rfl | rfl
  · kernel_rfl
  · kernel_rfl
theorem T_ok (glob : Nat → Option (List D)) : TOk Tryz.prog (mkCtx tab glob) := mk_ok glob tab_ok mixed_ok eqs_ok dyns_ok (meths_of meths_in meths_run)
@[simp] theorem td_1 (glob : Nat → Option (List D)) : (mkCtx tab glob).td 1 = .func := rfl
@[simp] theorem sz_1 (glob : Nat → Option (List D)) : (mkCtx tab glob).sz 1 = 1 := rfl
@[simp] theorem ze_1 (glob : Nat → Option (List D)) : (mkCtx tab glob).zero 1 = [.v .nilFunc] := rfl
@[simp] theorem td_2 (glob : Nat → Option (List D)) : (mkCtx tab glob).td 2 = .int .i64 := rfl
@[simp] theorem sz_2 (glob : Nat → Option (List D)) : (mkCtx tab glob).sz 2 = 1 := rfl
@[simp] theorem ze_2 (glob : Nat → Option (List D)) : (mkCtx tab glob).zero 2 = [.v (.int .i64 0)] := rfl
@[simp] theorem td_3 (glob : Nat → Option (List D)) : (mkCtx tab glob).td 3 = .int .i64 := rfl
@[simp] theorem sz_3 (glob : Nat → Option (List D)) : (mkCtx tab glob).sz 3 = 1 := rfl
@[simp] theorem ze_3 (glob : Nat → Option (List D)) : (mkCtx tab glob).zero 3 = [.v (.int .i64 0)] := rfl
@[simp] theorem td_4 (glob : Nat → Option (List D)) : (mkCtx tab glob).td 4 = .bool := rfl
@[simp] theorem sz_4 (glob : Nat → Option (List D)) : (mkCtx tab glob).sz 4 = 1 := rfl
@[simp] theorem ze_4 (glob : Nat → Option (List D)) : (mkCtx tab glob).zero 4 = [.v (.bool false)] := rfl
@[simp] theorem td_5 (glob : Nat → Option (List D)) : (mkCtx tab glob).td 5 = .int .u8 := rfl
@[simp] theorem sz_5 (glob : Nat → Option (List D)) : (mkCtx tab glob).sz 5 = 1 := rfl
@[simp] theorem ze_5 (glob : Nat → Option (List D)) : (mkCtx tab glob).zero 5 = [.v (.int .u8 0)] := rfl
@[simp] theorem td_6 (glob : Nat → Option (List D)) : (mkCtx tab glob).td 6 = .int .u8 := rfl
@[simp] theorem sz_6 (glob : Nat → Option (List D)) : (mkCtx tab glob).sz 6 = 1 := rfl
@[simp] theorem ze_6 (glob : Nat → Option (List D)) : (mkCtx tab glob).zero 6 = [.v (.int .u8 0)] := rfl
@[simp] theorem td_7 (glob : Nat → Option (List D)) : (mkCtx tab glob).td 7 = .strct [(2, 0), (3, 1), (4, 2), (6, 3)] := rfl
@[simp] theorem sz_7 (glob : Nat → Option (List D)) : (mkCtx tab glob).sz 7 = 4 := rfl
@[simp] theorem eq_7 (glob : Nat → Option (List D)) : (mkCtx tab glob).eqt 7 = [] := rfl
@[simp] theorem ze_7 (glob : Nat → Option (List D)) : (mkCtx tab glob).zero 7 = [.v (.int .i64 0), .v (.int .i64 0), .v (.bool false), .v (.int .u8 0)] := rfl
@[simp] theorem td_8 (glob : Nat → Option (List D)) : (mkCtx tab glob).td 8 = .strct [(2, 0), (3, 1), (4, 2), (6, 3)] := rfl
@[simp] theorem sz_8 (glob : Nat → Option (List D)) : (mkCtx tab glob).sz 8 = 4 := rfl
@[simp] theorem eq_8 (glob : Nat → Option (List D)) : (mkCtx tab glob).eqt 8 = [] := rfl
@[simp] theorem ze_8 (glob : Nat → Option (List D)) : (mkCtx tab glob).zero 8 = [.v (.int .i64 0), .v (.int .i64 0), .v (.bool false), .v (.int .u8 0)] := rfl
@[simp] theorem td_9 (glob : Nat → Option (List D)) : (mkCtx tab glob).td 9 = .str := rfl
@[simp] theorem sz_9 (glob : Nat → Option (List D)) : (mkCtx tab glob).sz 9 = 1 := rfl
@[simp] theorem ze_9 (glob : Nat → Option (List D)) : (mkCtx tab glob).zero 9 = [.s []] := rfl
@[simp] theorem td_10 (glob : Nat → Option (List D)) : (mkCtx tab glob).td 10 = .str := rfl
@[simp] theorem sz_10 (glob : Nat → Option (List D)) : (mkCtx tab glob).sz 10 = 1 := rfl
@[simp] theorem ze_10 (glob : Nat → Option (List D)) : (mkCtx tab glob).zero 10 = [.s []] := rfl
@[simp] theorem td_11 (glob : Nat → Option (List D)) : (mkCtx tab glob).td 11 = .str := rfl
@[simp] theorem sz_11 (glob : Nat → Option (List D)) : (mkCtx tab glob).sz 11 = 1 := rfl
@[simp] theorem ze_11 (glob : Nat → Option (List D)) : (mkCtx tab glob).zero 11 = [.s []] := rfl
@[simp] theorem td_12 (glob : Nat → Option (List D)) : (mkCtx tab glob).td 12 = .int .u64 := rfl
@[simp] theorem sz_12 (glob : Nat → Option (List D)) : (mkCtx tab glob).sz 12 = 1 := rfl
@[simp] theorem ze_12 (glob : Nat → Option (List D)) : (mkCtx tab glob).zero 12 = [.v (.int .u64 0)] := rfl
@[simp] theorem td_13 (glob : Nat → Option (List D)) : (mkCtx tab glob).td 13 = .strct [(9, 0), (12, 1)] := rfl
@[simp] theorem sz_13 (glob : Nat → Option (List D)) : (mkCtx tab glob).sz 13 = 2 := rfl
@[simp] theorem eq_13 (glob : Nat → Option (List D)) : (mkCtx tab glob).eqt 13 = [] := rfl
@[simp] theorem ze_13 (glob : Nat → Option (List D)) : (mkCtx tab glob).zero 13 = [.s [], .v (.int .u64 0)] := rfl
@[simp] theorem td_14 (glob : Nat → Option (List D)) : (mkCtx tab glob).td 14 = .strct [(9, 0), (12, 1)] := rfl
@[simp] theorem sz_14 (glob : Nat → Option (List D)) : (mkCtx tab glob).sz 14 = 2 := rfl
@[simp] theorem eq_14 (glob : Nat → Option (List D)) : (mkCtx tab glob).eqt 14 = [] := rfl
@[simp] theorem ze_14 (glob : Nat → Option (List D)) : (mkCtx tab glob).zero 14 = [.s [], .v (.int .u64 0)] := rfl
@[simp] theorem td_15 (glob : Nat → Option (List D)) : (mkCtx tab glob).td 15 = .ptr 275 := rfl
@[simp] theorem sz_15 (glob : Nat → Option (List D)) : (mkCtx tab glob).sz 15 = 1 := rfl
@[simp] theorem ze_15 (glob : Nat → Option (List D)) : (mkCtx tab glob).zero 15 = [.v (.pointer none)] := rfl
@[simp] theorem td_16 (glob : Nat → Option (List D)) : (mkCtx tab glob).td 16 = .ptr 278 := rfl
@[simp] theorem sz_16 (glob : Nat → Option (List D)) : (mkCtx tab glob).sz 16 = 1 := rfl
@[simp] theorem ze_16 (glob : Nat → Option (List D)) : (mkCtx tab glob).zero 16 = [.v (.pointer none)] := rfl
@[simp] theorem td_17 (glob : Nat → Option (List D)) : (mkCtx tab glob).td 17 = .ptr 286 := rfl
@[simp] theorem sz_17 (glob : Nat → Option (List D)) : (mkCtx tab glob).sz 17 = 1 := rfl
@[simp] theorem ze_17 (glob : Nat → Option (List D)) : (mkCtx tab glob).zero 17 = [.v (.pointer none)] := rfl
@[simp] theorem td_18 (glob : Nat → Option (List D)) : (mkCtx tab glob).td 18 = .strct [(17, 0)] := rfl
@[simp] theorem sz_18 (glob : Nat → Option (List D)) : (mkCtx tab glob).sz 18 = 1 := rfl
@[simp] theorem eq_18 (glob : Nat → Option (List D)) : (mkCtx tab glob).eqt 18 = [] := rfl
@[simp] theorem ze_18 (glob : Nat → Option (List D)) : (mkCtx tab glob).zero 18 = [.v (.pointer none)] := rfl
@[simp] theorem td_19 (glob : Nat → Option (List D)) : (mkCtx tab glob).td 19 = .strct [(17, 0)] := rfl
@[simp] theorem sz_19 (glob : Nat → Option (List D)) : (mkCtx tab glob).sz 19 = 1 := rfl
@[simp] theorem eq_19 (glob : Nat → Option (List D)) : (mkCtx tab glob).eqt 19 = [] := rfl
@[simp] theorem ze_19 (glob : Nat → Option (List D)) : (mkCtx tab glob).zero 19 = [.v (.pointer none)] := rfl
@[simp] theorem td_20 (glob : Nat → Option (List D)) : (mkCtx tab glob).td 20 = .iface true := rfl
@[simp] theorem sz_20 (glob : Nat → Option (List D)) : (mkCtx tab glob).sz 20 = 1 := rfl
@[simp] theorem ze_20 (glob : Nat → Option (List D)) : (mkCtx tab glob).zero 20 = [.v .nilIface] := rfl
@[simp] theorem td_21 (glob : Nat → Option (List D)) : (mkCtx tab glob).td 21 = .int .i32 := rfl
@[simp] theorem sz_21 (glob : Nat → Option (List D)) : (mkCtx tab glob).sz 21 = 1 := rfl
@[simp] theorem ze_21 (glob : Nat → Option (List D)) : (mkCtx tab glob).zero 21 = [.v (.int .i32 0)] := rfl
@[simp] theorem td_22 (glob : Nat → Option (List D)) : (mkCtx tab glob).td 22 = .func := rfl
@[simp] theorem sz_22 (glob : Nat → Option (List D)) : (mkCtx tab glob).sz 22 = 1 := rfl
@[simp] theorem ze_22 (glob : Nat → Option (List D)) : (mkCtx tab glob).zero 22 = [.v .nilFunc] := rfl
@[simp] theorem td_23 (glob : Nat → Option (List D)) : (mkCtx tab glob).td 23 = .ptr 25 := rfl
@[simp] theorem sz_23 (glob : Nat → Option (List D)) : (mkCtx tab glob).sz 23 = 1 := rfl
@[simp] theorem ze_23 (glob : Nat → Option (List D)) : (mkCtx tab glob).zero 23 = [.v (.pointer none)] := rfl
@[simp] theorem td_24 (glob : Nat → Option (List D)) : (mkCtx tab glob).td 24 = .strct [(9, 0), (3, 1), (3, 2)] := rfl
@[simp] theorem sz_24 (glob : Nat → Option (List D)) : (mkCtx tab glob).sz 24 = 3 := rfl
@[simp] theorem eq_24 (glob : Nat → Option (List D)) : (mkCtx tab glob).eqt 24 = [] := rfl
@[simp] theorem ze_24 (glob : Nat → Option (List D)) : (mkCtx tab glob).zero 24 = [.s [], .v (.int .i64 0), .v (.int .i64 0)] := rfl
@[simp] theorem td_25 (glob : Nat → Option (List D)) : (mkCtx tab glob).td 25 = .strct [(9, 0), (3, 1), (3, 2)] := rfl
@[simp] theorem sz_25 (glob : Nat → Option (List D)) : (mkCtx tab glob).sz 25 = 3 := rfl
@[simp] theorem eq_25 (glob : Nat → Option (List D)) : (mkCtx tab glob).eqt 25 = [.s, .i, .i] := rfl
@[simp] theorem ze_25 (glob : Nat → Option (List D)) : (mkCtx tab glob).zero 25 = [.s [], .v (.int .i64 0), .v (.int .i64 0)] := rfl
@[simp] theorem td_27 (glob : Nat → Option (List D)) : (mkCtx tab glob).td 27 = .func := rfl
@[simp] theorem sz_27 (glob : Nat → Option (List D)) : (mkCtx tab glob).sz 27 = 1 := rfl
@[simp] theorem ze_27 (glob : Nat → Option (List D)) : (mkCtx tab glob).zero 27 = [.v .nilFunc] := rfl
@[simp] theorem td_28 (glob : Nat → Option (List D)) : (mkCtx tab glob).td 28 = .ptr 32 := rfl
@[simp] theorem sz_28 (glob : Nat → Option (List D)) : (mkCtx tab glob).sz 28 = 1 := rfl
@[simp] theorem ze_28 (glob : Nat → Option (List D)) : (mkCtx tab glob).zero 28 = [.v (.pointer none)] := rfl
@[simp] theorem td_29 (glob : Nat → Option (List D)) : (mkCtx tab glob).td 29 = .iface false := rfl
@[simp] theorem sz_29 (glob : Nat → Option (List D)) : (mkCtx tab glob).sz 29 = 1 := rfl
@[simp] theorem ze_29 (glob : Nat → Option (List D)) : (mkCtx tab glob).zero 29 = [.v .nilIface] := rfl
@[simp] theorem td_30 (glob : Nat → Option (List D)) : (mkCtx tab glob).td 30 = .iface false := rfl
@[simp] theorem sz_30 (glob : Nat → Option (List D)) : (mkCtx tab glob).sz 30 = 1 := rfl
@[simp] theorem ze_30 (glob : Nat → Option (List D)) : (mkCtx tab glob).zero 30 = [.v .nilIface] := rfl
@[simp] theorem td_31 (glob : Nat → Option (List D)) : (mkCtx tab glob).td 31 = .strct [(9, 0), (3, 1), (30, 2)] := rfl
@[simp] theorem sz_31 (glob : Nat → Option (List D)) : (mkCtx tab glob).sz 31 = 3 := rfl
@[simp] theorem eq_31 (glob : Nat → Option (List D)) : (mkCtx tab glob).eqt 31 = [] := rfl
@[simp] theorem ze_31 (glob : Nat → Option (List D)) : (mkCtx tab glob).zero 31 = [.s [], .v (.int .i64 0), .v .nilIface] := rfl
@[simp] theorem td_32 (glob : Nat → Option (List D)) : (mkCtx tab glob).td 32 = .strct [(9, 0), (3, 1), (30, 2)] := rfl
@[simp] theorem sz_32 (glob : Nat → Option (List D)) : (mkCtx tab glob).sz 32 = 3 := rfl
@[simp] theorem eq_32 (glob : Nat → Option (List D)) : (mkCtx tab glob).eqt 32 = [] := rfl
@[simp] theorem ze_32 (glob : Nat → Option (List D)) : (mkCtx tab glob).zero 32 = [.s [], .v (.int .i64 0), .v .nilIface] := rfl
@[simp] theorem td_33 (glob : Nat → Option (List D)) : (mkCtx tab glob).td 33 = .func := rfl
@[simp] theorem sz_33 (glob : Nat → Option (List D)) : (mkCtx tab glob).sz 33 = 1 := rfl
@[simp] theorem ze_33 (glob : Nat → Option (List D)) : (mkCtx tab glob).zero 33 = [.v .nilFunc] := rfl
@[simp] theorem td_34 (glob : Nat → Option (List D)) : (mkCtx tab glob).td 34 = .func := rfl
@[simp] theorem sz_34 (glob : Nat → Option (List D)) : (mkCtx tab glob).sz 34 = 1 := rfl
@[simp] theorem ze_34 (glob : Nat → Option (List D)) : (mkCtx tab glob).zero 34 = [.v .nilFunc] := rfl
@[simp] theorem td_35 (glob : Nat → Option (List D)) : (mkCtx tab glob).td 35 = .func := rfl
@[simp] theorem sz_35 (glob : Nat → Option (List D)) : (mkCtx tab glob).sz 35 = 1 := rfl
@[simp] theorem ze_35 (glob : Nat → Option (List D)) : (mkCtx tab glob).zero 35 = [.v .nilFunc] := rfl
@[simp] theorem td_36 (glob : Nat → Option (List D)) : (mkCtx tab glob).td 36 = .func := rfl
@[simp] theorem sz_36 (glob : Nat → Option (List D)) : (mkCtx tab glob).sz 36 = 1 := rfl
@[simp] theorem ze_36 (glob : Nat → Option (List D)) : (mkCtx tab glob).zero 36 = [.v .nilFunc] := rfl
@[simp] theorem td_37 (glob : Nat → Option (List D)) : (mkCtx tab glob).td 37 = .func := rfl
@[simp] theorem sz_37 (glob : Nat → Option (List D)) : (mkCtx tab glob).sz 37 = 1 := rfl
@[simp] theorem ze_37 (glob : Nat → Option (List D)) : (mkCtx tab glob).zero 37 = [.v .nilFunc] := rfl
@[simp] theorem td_38 (glob : Nat → Option (List D)) : (mkCtx tab glob).td 38 = .ptr 63 := rfl
@[simp] theorem sz_38 (glob : Nat → Option (List D)) : (mkCtx tab glob).sz 38 = 1 := rfl
@[simp] theorem ze_38 (glob : Nat → Option (List D)) : (mkCtx tab glob).zero 38 = [.v (.pointer none)] := rfl
@[simp] theorem td_40 (glob : Nat → Option (List D)) : (mkCtx tab glob).td 40 = .func := rfl
@[simp] theorem sz_40 (glob : Nat → Option (List D)) : (mkCtx tab glob).sz 40 = 1 := rfl
@[simp] theorem ze_40 (glob : Nat → Option (List D)) : (mkCtx tab glob).zero 40 = [.v .nilFunc] := rfl
@[simp] theorem td_41 (glob : Nat → Option (List D)) : (mkCtx tab glob).td 41 = .slice 9 := rfl
@[simp] theorem sz_41 (glob : Nat → Option (List D)) : (mkCtx tab glob).sz 41 = 1 := rfl
@[simp] theorem ze_41 (glob : Nat → Option (List D)) : (mkCtx tab glob).zero 41 = [.sl 1 []] := rfl
@[simp] theorem td_42 (glob : Nat → Option (List D)) : (mkCtx tab glob).td 42 = .strct [(3, 0), (9, 1)] := rfl
@[simp] theorem sz_42 (glob : Nat → Option (List D)) : (mkCtx tab glob).sz 42 = 2 := rfl
@[simp] theorem eq_42 (glob : Nat → Option (List D)) : (mkCtx tab glob).eqt 42 = [] := rfl
@[simp] theorem ze_42 (glob : Nat → Option (List D)) : (mkCtx tab glob).zero 42 = [.v (.int .i64 0), .s []] := rfl
@[simp] theorem td_43 (glob : Nat → Option (List D)) : (mkCtx tab glob).td 43 = .strct [(3, 0), (9, 1)] := rfl
@[simp] theorem sz_43 (glob : Nat → Option (List D)) : (mkCtx tab glob).sz 43 = 2 := rfl
@[simp] theorem eq_43 (glob : Nat → Option (List D)) : (mkCtx tab glob).eqt 43 = [.i, .s] := rfl
@[simp] theorem ze_43 (glob : Nat → Option (List D)) : (mkCtx tab glob).zero 43 = [.v (.int .i64 0), .s []] := rfl
@[simp] theorem td_44 (glob : Nat → Option (List D)) : (mkCtx tab glob).td 44 = .strct [(41, 0), (41, 1), (43, 2), (9, 4), (9, 5), (3, 6)] := rfl
@[simp] theorem sz_44 (glob : Nat → Option (List D)) : (mkCtx tab glob).sz 44 = 7 := rfl
@[simp] theorem eq_44 (glob : Nat → Option (List D)) : (mkCtx tab glob).eqt 44 = [] := rfl
@[simp] theorem ze_44 (glob : Nat → Option (List D)) : (mkCtx tab glob).zero 44 = [.sl 1 [], .sl 1 [], .v (.int .i64 0), .s [], .s [], .s [], .v (.int .i64 0)] := rfl
@[simp] theorem td_45 (glob : Nat → Option (List D)) : (mkCtx tab glob).td 45 = .strct [(41, 0), (41, 1), (43, 2), (9, 4), (9, 5), (3, 6)] := rfl
@[simp] theorem sz_45 (glob : Nat → Option (List D)) : (mkCtx tab glob).sz 45 = 7 := rfl
@[simp] theorem eq_45 (glob : Nat → Option (List D)) : (mkCtx tab glob).eqt 45 = [] := rfl
@[simp] theorem ze_45 (glob : Nat → Option (List D)) : (mkCtx tab glob).zero 45 = [.sl 1 [], .sl 1 [], .v (.int .i64 0), .s [], .s [], .s [], .v (.int .i64 0)] := rfl
@[simp] theorem td_46 (glob : Nat → Option (List D)) : (mkCtx tab glob).td 46 = .slice 45 := rfl
@[simp] theorem sz_46 (glob : Nat → Option (List D)) : (mkCtx tab glob).sz 46 = 1 := rfl
@[simp] theorem ze_46 (glob : Nat → Option (List D)) : (mkCtx tab glob).zero 46 = [.sl 7 []] := rfl
@[simp] theorem td_47 (glob : Nat → Option (List D)) : (mkCtx tab glob).td 47 = .slice 55 := rfl
@[simp] theorem sz_47 (glob : Nat → Option (List D)) : (mkCtx tab glob).sz 47 = 1 := rfl
@[simp] theorem ze_47 (glob : Nat → Option (List D)) : (mkCtx tab glob).zero 47 = [.sl 2 []] := rfl
@[simp] theorem td_48 (glob : Nat → Option (List D)) : (mkCtx tab glob).td 48 = .strct [(41, 0), (47, 1)] := rfl
@[simp] theorem sz_48 (glob : Nat → Option (List D)) : (mkCtx tab glob).sz 48 = 2 := rfl
@[simp] theorem eq_48 (glob : Nat → Option (List D)) : (mkCtx tab glob).eqt 48 = [] := rfl
@[simp] theorem ze_48 (glob : Nat → Option (List D)) : (mkCtx tab glob).zero 48 = [.sl 1 [], .sl 2 []] := rfl
@[simp] theorem td_49 (glob : Nat → Option (List D)) : (mkCtx tab glob).td 49 = .strct [(41, 0), (47, 1)] := rfl
@[simp] theorem sz_49 (glob : Nat → Option (List D)) : (mkCtx tab glob).sz 49 = 2 := rfl
@[simp] theorem eq_49 (glob : Nat → Option (List D)) : (mkCtx tab glob).eqt 49 = [] := rfl
@[simp] theorem ze_49 (glob : Nat → Option (List D)) : (mkCtx tab glob).zero 49 = [.sl 1 [], .sl 2 []] := rfl
@[simp] theorem td_51 (glob : Nat → Option (List D)) : (mkCtx tab glob).td 51 = .func := rfl
@[simp] theorem sz_51 (glob : Nat → Option (List D)) : (mkCtx tab glob).sz 51 = 1 := rfl
@[simp] theorem ze_51 (glob : Nat → Option (List D)) : (mkCtx tab glob).zero 51 = [.v .nilFunc] := rfl
@[simp] theorem td_52 (glob : Nat → Option (List D)) : (mkCtx tab glob).td 52 = .func := rfl
@[simp] theorem sz_52 (glob : Nat → Option (List D)) : (mkCtx tab glob).sz 52 = 1 := rfl
@[simp] theorem ze_52 (glob : Nat → Option (List D)) : (mkCtx tab glob).zero 52 = [.v .nilFunc] := rfl
@[simp] theorem td_53 (glob : Nat → Option (List D)) : (mkCtx tab glob).td 53 = .slice 118 := rfl
@[simp] theorem sz_53 (glob : Nat → Option (List D)) : (mkCtx tab glob).sz 53 = 1 := rfl
@[simp] theorem ze_53 (glob : Nat → Option (List D)) : (mkCtx tab glob).zero 53 = [.sl 5 []] := rfl
@[simp] theorem td_54 (glob : Nat → Option (List D)) : (mkCtx tab glob).td 54 = .strct [(9, 0), (53, 1)] := rfl
@[simp] theorem sz_54 (glob : Nat → Option (List D)) : (mkCtx tab glob).sz 54 = 2 := rfl
@[simp] theorem eq_54 (glob : Nat → Option (List D)) : (mkCtx tab glob).eqt 54 = [] := rfl
@[simp] theorem ze_54 (glob : Nat → Option (List D)) : (mkCtx tab glob).zero 54 = [.s [], .sl 5 []] := rfl
@[simp] theorem td_55 (glob : Nat → Option (List D)) : (mkCtx tab glob).td 55 = .strct [(9, 0), (53, 1)] := rfl
@[simp] theorem sz_55 (glob : Nat → Option (List D)) : (mkCtx tab glob).sz 55 = 2 := rfl
@[simp] theorem eq_55 (glob : Nat → Option (List D)) : (mkCtx tab glob).eqt 55 = [] := rfl
@[simp] theorem ze_55 (glob : Nat → Option (List D)) : (mkCtx tab glob).zero 55 = [.s [], .sl 5 []] := rfl
@[simp] theorem td_56 (glob : Nat → Option (List D)) : (mkCtx tab glob).td 56 = .func := rfl
@[simp] theorem sz_56 (glob : Nat → Option (List D)) : (mkCtx tab glob).sz 56 = 1 := rfl
@[simp] theorem ze_56 (glob : Nat → Option (List D)) : (mkCtx tab glob).zero 56 = [.v .nilFunc] := rfl
@[simp] theorem td_57 (glob : Nat → Option (List D)) : (mkCtx tab glob).td 57 = .ptr 23 := rfl
@[simp] theorem sz_57 (glob : Nat → Option (List D)) : (mkCtx tab glob).sz 57 = 1 := rfl
@[simp] theorem ze_57 (glob : Nat → Option (List D)) : (mkCtx tab glob).zero 57 = [.v (.pointer none)] := rfl
@[simp] theorem td_58 (glob : Nat → Option (List D)) : (mkCtx tab glob).td 58 = .slice 30 := rfl
@[simp] theorem sz_58 (glob : Nat → Option (List D)) : (mkCtx tab glob).sz 58 = 1 := rfl
@[simp] theorem ze_58 (glob : Nat → Option (List D)) : (mkCtx tab glob).zero 58 = [.sl 1 []] := rfl
@[simp] theorem td_59 (glob : Nat → Option (List D)) : (mkCtx tab glob).td 59 = .func := rfl
@[simp] theorem sz_59 (glob : Nat → Option (List D)) : (mkCtx tab glob).sz 59 = 1 := rfl
@[simp] theorem ze_59 (glob : Nat → Option (List D)) : (mkCtx tab glob).zero 59 = [.v .nilFunc] := rfl
@[simp] theorem td_60 (glob : Nat → Option (List D)) : (mkCtx tab glob).td 60 = .func := rfl
@[simp] theorem sz_60 (glob : Nat → Option (List D)) : (mkCtx tab glob).sz 60 = 1 := rfl
@[simp] theorem ze_60 (glob : Nat → Option (List D)) : (mkCtx tab glob).zero 60 = [.v .nilFunc] := rfl
@[simp] theorem td_61 (glob : Nat → Option (List D)) : (mkCtx tab glob).td 61 = .slice 3 := rfl
@[simp] theorem sz_61 (glob : Nat → Option (List D)) : (mkCtx tab glob).sz 61 = 1 := rfl
@[simp] theorem ze_61 (glob : Nat → Option (List D)) : (mkCtx tab glob).zero 61 = [.sl 1 []] := rfl
@[simp] theorem td_62 (glob : Nat → Option (List D)) : (mkCtx tab glob).td 62 = .strct [(46, 0), (61, 1)] := rfl
@[simp] theorem sz_62 (glob : Nat → Option (List D)) : (mkCtx tab glob).sz 62 = 2 := rfl
@[simp] theorem eq_62 (glob : Nat → Option (List D)) : (mkCtx tab glob).eqt 62 = [] := rfl
@[simp] theorem ze_62 (glob : Nat → Option (List D)) : (mkCtx tab glob).zero 62 = [.sl 7 [], .sl 1 []] := rfl
@[simp] theorem td_63 (glob : Nat → Option (List D)) : (mkCtx tab glob).td 63 = .strct [(46, 0), (61, 1)] := rfl
@[simp] theorem sz_63 (glob : Nat → Option (List D)) : (mkCtx tab glob).sz 63 = 2 := rfl
@[simp] theorem eq_63 (glob : Nat → Option (List D)) : (mkCtx tab glob).eqt 63 = [] := rfl
@[simp] theorem ze_63 (glob : Nat → Option (List D)) : (mkCtx tab glob).zero 63 = [.sl 7 [], .sl 1 []] := rfl
@[simp] theorem td_64 (glob : Nat → Option (List D)) : (mkCtx tab glob).td 64 = .func := rfl
@[simp] theorem sz_64 (glob : Nat → Option (List D)) : (mkCtx tab glob).sz 64 = 1 := rfl
@[simp] theorem ze_64 (glob : Nat → Option (List D)) : (mkCtx tab glob).zero 64 = [.v .nilFunc] := rfl
@[simp] theorem td_65 (glob : Nat → Option (List D)) : (mkCtx tab glob).td 65 = .func := rfl
@[simp] theorem sz_65 (glob : Nat → Option (List D)) : (mkCtx tab glob).sz 65 = 1 := rfl
@[simp] theorem ze_65 (glob : Nat → Option (List D)) : (mkCtx tab glob).zero 65 = [.v .nilFunc] := rfl
@[simp] theorem td_66 (glob : Nat → Option (List D)) : (mkCtx tab glob).td 66 = .func := rfl
@[simp] theorem sz_66 (glob : Nat → Option (List D)) : (mkCtx tab glob).sz 66 = 1 := rfl
@[simp] theorem ze_66 (glob : Nat → Option (List D)) : (mkCtx tab glob).zero 66 = [.v .nilFunc] := rfl
@[simp] theorem td_67 (glob : Nat → Option (List D)) : (mkCtx tab glob).td 67 = .ptr 73 := rfl
@[simp] theorem sz_67 (glob : Nat → Option (List D)) : (mkCtx tab glob).sz 67 = 1 := rfl
@[simp] theorem ze_67 (glob : Nat → Option (List D)) : (mkCtx tab glob).zero 67 = [.v (.pointer none)] := rfl
@[simp] theorem td_68 (glob : Nat → Option (List D)) : (mkCtx tab glob).td 68 = .map 3 75 := rfl
@[simp] theorem sz_68 (glob : Nat → Option (List D)) : (mkCtx tab glob).sz 68 = 1 := rfl
@[simp] theorem ze_68 (glob : Nat → Option (List D)) : (mkCtx tab glob).zero 68 = [.v (.map none)] := rfl
@[simp] theorem td_69 (glob : Nat → Option (List D)) : (mkCtx tab glob).td 69 = .map 79 3 := rfl
@[simp] theorem sz_69 (glob : Nat → Option (List D)) : (mkCtx tab glob).sz 69 = 1 := rfl
@[simp] theorem ze_69 (glob : Nat → Option (List D)) : (mkCtx tab glob).zero 69 = [.v (.map none)] := rfl
@[simp] theorem td_70 (glob : Nat → Option (List D)) : (mkCtx tab glob).td 70 = .map 9 113 := rfl
@[simp] theorem sz_70 (glob : Nat → Option (List D)) : (mkCtx tab glob).sz 70 = 1 := rfl
@[simp] theorem ze_70 (glob : Nat → Option (List D)) : (mkCtx tab glob).zero 70 = [.v (.map none)] := rfl
@[simp] theorem td_71 (glob : Nat → Option (List D)) : (mkCtx tab glob).td 71 = .slice 79 := rfl
@[simp] theorem sz_71 (glob : Nat → Option (List D)) : (mkCtx tab glob).sz 71 = 1 := rfl
@[simp] theorem ze_71 (glob : Nat → Option (List D)) : (mkCtx tab glob).zero 71 = [.sl 2 []] := rfl
@[simp] theorem td_72 (glob : Nat → Option (List D)) : (mkCtx tab glob).td 72 = .strct [(38, 0), (68, 1), (69, 2), (70, 3), (71, 4), (4, 5)] := rfl
@[simp] theorem sz_72 (glob : Nat → Option (List D)) : (mkCtx tab glob).sz 72 = 6 := rfl
@[simp] theorem eq_72 (glob : Nat → Option (List D)) : (mkCtx tab glob).eqt 72 = [] := rfl
@[simp] theorem ze_72 (glob : Nat → Option (List D)) : (mkCtx tab glob).zero 72 = [.v (.pointer none), .v (.map none), .v (.map none), .v (.map none), .sl 2 [], .v (.bool false)] := rfl
@[simp] theorem td_73 (glob : Nat → Option (List D)) : (mkCtx tab glob).td 73 = .strct [(38, 0), (68, 1), (69, 2), (70, 3), (71, 4), (4, 5)] := rfl
@[simp] theorem sz_73 (glob : Nat → Option (List D)) : (mkCtx tab glob).sz 73 = 6 := rfl
@[simp] theorem eq_73 (glob : Nat → Option (List D)) : (mkCtx tab glob).eqt 73 = [] := rfl
@[simp] theorem ze_73 (glob : Nat → Option (List D)) : (mkCtx tab glob).zero 73 = [.v (.pointer none), .v (.map none), .v (.map none), .v (.map none), .sl 2 [], .v (.bool false)] := rfl
@[simp] theorem td_74 (glob : Nat → Option (List D)) : (mkCtx tab glob).td 74 = .func := rfl
@[simp] theorem sz_74 (glob : Nat → Option (List D)) : (mkCtx tab glob).sz 74 = 1 := rfl
@[simp] theorem ze_74 (glob : Nat → Option (List D)) : (mkCtx tab glob).zero 74 = [.v .nilFunc] := rfl
@[simp] theorem td_75 (glob : Nat → Option (List D)) : (mkCtx tab glob).td 75 = .int .u64 := rfl
@[simp] theorem sz_75 (glob : Nat → Option (List D)) : (mkCtx tab glob).sz 75 = 1 := rfl
@[simp] theorem ze_75 (glob : Nat → Option (List D)) : (mkCtx tab glob).zero 75 = [.v (.int .u64 0)] := rfl
@[simp] theorem td_76 (glob : Nat → Option (List D)) : (mkCtx tab glob).td 76 = .func := rfl
@[simp] theorem sz_76 (glob : Nat → Option (List D)) : (mkCtx tab glob).sz 76 = 1 := rfl
@[simp] theorem ze_76 (glob : Nat → Option (List D)) : (mkCtx tab glob).zero 76 = [.v .nilFunc] := rfl
@[simp] theorem td_77 (glob : Nat → Option (List D)) : (mkCtx tab glob).td 77 = .func := rfl
@[simp] theorem sz_77 (glob : Nat → Option (List D)) : (mkCtx tab glob).sz 77 = 1 := rfl
@[simp] theorem ze_77 (glob : Nat → Option (List D)) : (mkCtx tab glob).zero 77 = [.v .nilFunc] := rfl
@[simp] theorem td_78 (glob : Nat → Option (List D)) : (mkCtx tab glob).td 78 = .strct [(9, 0), (75, 1)] := rfl
@[simp] theorem sz_78 (glob : Nat → Option (List D)) : (mkCtx tab glob).sz 78 = 2 := rfl
@[simp] theorem eq_78 (glob : Nat → Option (List D)) : (mkCtx tab glob).eqt 78 = [] := rfl
@[simp] theorem ze_78 (glob : Nat → Option (List D)) : (mkCtx tab glob).zero 78 = [.s [], .v (.int .u64 0)] := rfl
@[simp] theorem td_79 (glob : Nat → Option (List D)) : (mkCtx tab glob).td 79 = .strct [(9, 0), (75, 1)] := rfl
@[simp] theorem sz_79 (glob : Nat → Option (List D)) : (mkCtx tab glob).sz 79 = 2 := rfl
@[simp] theorem eq_79 (glob : Nat → Option (List D)) : (mkCtx tab glob).eqt 79 = [.s, .i] := rfl
@[simp] theorem ze_79 (glob : Nat → Option (List D)) : (mkCtx tab glob).zero 79 = [.s [], .v (.int .u64 0)] := rfl
@[simp] theorem td_80 (glob : Nat → Option (List D)) : (mkCtx tab glob).td 80 = .func := rfl
@[simp] theorem sz_80 (glob : Nat → Option (List D)) : (mkCtx tab glob).sz 80 = 1 := rfl
@[simp] theorem ze_80 (glob : Nat → Option (List D)) : (mkCtx tab glob).zero 80 = [.v .nilFunc] := rfl
@[simp] theorem td_81 (glob : Nat → Option (List D)) : (mkCtx tab glob).td 81 = .func := rfl
@[simp] theorem sz_81 (glob : Nat → Option (List D)) : (mkCtx tab glob).sz 81 = 1 := rfl
@[simp] theorem ze_81 (glob : Nat → Option (List D)) : (mkCtx tab glob).zero 81 = [.v .nilFunc] := rfl
@[simp] theorem td_83 (glob : Nat → Option (List D)) : (mkCtx tab glob).td 83 = .func := rfl
@[simp] theorem sz_83 (glob : Nat → Option (List D)) : (mkCtx tab glob).sz 83 = 1 := rfl
@[simp] theorem ze_83 (glob : Nat → Option (List D)) : (mkCtx tab glob).zero 83 = [.v .nilFunc] := rfl
@[simp] theorem td_84 (glob : Nat → Option (List D)) : (mkCtx tab glob).td 84 = .func := rfl
@[simp] theorem sz_84 (glob : Nat → Option (List D)) : (mkCtx tab glob).sz 84 = 1 := rfl
@[simp] theorem ze_84 (glob : Nat → Option (List D)) : (mkCtx tab glob).zero 84 = [.v .nilFunc] := rfl
@[simp] theorem td_85 (glob : Nat → Option (List D)) : (mkCtx tab glob).td 85 = .func := rfl
@[simp] theorem sz_85 (glob : Nat → Option (List D)) : (mkCtx tab glob).sz 85 = 1 := rfl
@[simp] theorem ze_85 (glob : Nat → Option (List D)) : (mkCtx tab glob).zero 85 = [.v .nilFunc] := rfl
@[simp] theorem td_87 (glob : Nat → Option (List D)) : (mkCtx tab glob).td 87 = .int .u64 := rfl
@[simp] theorem sz_87 (glob : Nat → Option (List D)) : (mkCtx tab glob).sz 87 = 1 := rfl
@[simp] theorem ze_87 (glob : Nat → Option (List D)) : (mkCtx tab glob).zero 87 = [.v (.int .u64 0)] := rfl
@[simp] theorem td_90 (glob : Nat → Option (List D)) : (mkCtx tab glob).td 90 = .func := rfl
@[simp] theorem sz_90 (glob : Nat → Option (List D)) : (mkCtx tab glob).sz 90 = 1 := rfl
@[simp] theorem ze_90 (glob : Nat → Option (List D)) : (mkCtx tab glob).zero 90 = [.v .nilFunc] := rfl
@[simp] theorem td_91 (glob : Nat → Option (List D)) : (mkCtx tab glob).td 91 = .iface false := rfl
@[simp] theorem sz_91 (glob : Nat → Option (List D)) : (mkCtx tab glob).sz 91 = 1 := rfl
@[simp] theorem ze_91 (glob : Nat → Option (List D)) : (mkCtx tab glob).zero 91 = [.v .nilIface] := rfl
@[simp] theorem td_92 (glob : Nat → Option (List D)) : (mkCtx tab glob).td 92 = .iface false := rfl
@[simp] theorem sz_92 (glob : Nat → Option (List D)) : (mkCtx tab glob).sz 92 = 1 := rfl
@[simp] theorem ze_92 (glob : Nat → Option (List D)) : (mkCtx tab glob).zero 92 = [.v .nilIface] := rfl
@[simp] theorem td_93 (glob : Nat → Option (List D)) : (mkCtx tab glob).td 93 = .func := rfl
@[simp] theorem sz_93 (glob : Nat → Option (List D)) : (mkCtx tab glob).sz 93 = 1 := rfl
@[simp] theorem ze_93 (glob : Nat → Option (List D)) : (mkCtx tab glob).zero 93 = [.v .nilFunc] := rfl
@[simp] theorem td_94 (glob : Nat → Option (List D)) : (mkCtx tab glob).td 94 = .int .u8 := rfl
@[simp] theorem sz_94 (glob : Nat → Option (List D)) : (mkCtx tab glob).sz 94 = 1 := rfl
@[simp] theorem ze_94 (glob : Nat → Option (List D)) : (mkCtx tab glob).zero 94 = [.v (.int .u8 0)] := rfl
@[simp] theorem td_95 (glob : Nat → Option (List D)) : (mkCtx tab glob).td 95 = .func := rfl
@[simp] theorem sz_95 (glob : Nat → Option (List D)) : (mkCtx tab glob).sz 95 = 1 := rfl
@[simp] theorem ze_95 (glob : Nat → Option (List D)) : (mkCtx tab glob).zero 95 = [.v .nilFunc] := rfl
@[simp] theorem td_96 (glob : Nat → Option (List D)) : (mkCtx tab glob).td 96 = .func := rfl
@[simp] theorem sz_96 (glob : Nat → Option (List D)) : (mkCtx tab glob).sz 96 = 1 := rfl
@[simp] theorem ze_96 (glob : Nat → Option (List D)) : (mkCtx tab glob).zero 96 = [.v .nilFunc] := rfl
@[simp] theorem td_97 (glob : Nat → Option (List D)) : (mkCtx tab glob).td 97 = .func := rfl
@[simp] theorem sz_97 (glob : Nat → Option (List D)) : (mkCtx tab glob).sz 97 = 1 := rfl
@[simp] theorem ze_97 (glob : Nat → Option (List D)) : (mkCtx tab glob).zero 97 = [.v .nilFunc] := rfl
@[simp] theorem td_98 (glob : Nat → Option (List D)) : (mkCtx tab glob).td 98 = .func := rfl
@[simp] theorem sz_98 (glob : Nat → Option (List D)) : (mkCtx tab glob).sz 98 = 1 := rfl
@[simp] theorem ze_98 (glob : Nat → Option (List D)) : (mkCtx tab glob).zero 98 = [.v .nilFunc] := rfl
@[simp] theorem td_99 (glob : Nat → Option (List D)) : (mkCtx tab glob).td 99 = .func := rfl
@[simp] theorem sz_99 (glob : Nat → Option (List D)) : (mkCtx tab glob).sz 99 = 1 := rfl
@[simp] theorem ze_99 (glob : Nat → Option (List D)) : (mkCtx tab glob).zero 99 = [.v .nilFunc] := rfl
@[simp] theorem td_100 (glob : Nat → Option (List D)) : (mkCtx tab glob).td 100 = .func := rfl
@[simp] theorem sz_100 (glob : Nat → Option (List D)) : (mkCtx tab glob).sz 100 = 1 := rfl
@[simp] theorem ze_100 (glob : Nat → Option (List D)) : (mkCtx tab glob).zero 100 = [.v .nilFunc] := rfl
@[simp] theorem td_101 (glob : Nat → Option (List D)) : (mkCtx tab glob).td 101 = .func := rfl
@[simp] theorem sz_101 (glob : Nat → Option (List D)) : (mkCtx tab glob).sz 101 = 1 := rfl
@[simp] theorem ze_101 (glob : Nat → Option (List D)) : (mkCtx tab glob).zero 101 = [.v .nilFunc] := rfl
@[simp] theorem td_102 (glob : Nat → Option (List D)) : (mkCtx tab glob).td 102 = .func := rfl
@[simp] theorem sz_102 (glob : Nat → Option (List D)) : (mkCtx tab glob).sz 102 = 1 := rfl
@[simp] theorem ze_102 (glob : Nat → Option (List D)) : (mkCtx tab glob).zero 102 = [.v .nilFunc] := rfl
@[simp] theorem td_103 (glob : Nat → Option (List D)) : (mkCtx tab glob).td 103 = .func := rfl
@[simp] theorem sz_103 (glob : Nat → Option (List D)) : (mkCtx tab glob).sz 103 = 1 := rfl
@[simp] theorem ze_103 (glob : Nat → Option (List D)) : (mkCtx tab glob).zero 103 = [.v .nilFunc] := rfl
@[simp] theorem td_104 (glob : Nat → Option (List D)) : (mkCtx tab glob).td 104 = .func := rfl
@[simp] theorem sz_104 (glob : Nat → Option (List D)) : (mkCtx tab glob).sz 104 = 1 := rfl
@[simp] theorem ze_104 (glob : Nat → Option (List D)) : (mkCtx tab glob).zero 104 = [.v .nilFunc] := rfl
@[simp] theorem td_105 (glob : Nat → Option (List D)) : (mkCtx tab glob).td 105 = .func := rfl
@[simp] theorem sz_105 (glob : Nat → Option (List D)) : (mkCtx tab glob).sz 105 = 1 := rfl
@[simp] theorem ze_105 (glob : Nat → Option (List D)) : (mkCtx tab glob).zero 105 = [.v .nilFunc] := rfl
@[simp] theorem td_106 (glob : Nat → Option (List D)) : (mkCtx tab glob).td 106 = .func := rfl
@[simp] theorem sz_106 (glob : Nat → Option (List D)) : (mkCtx tab glob).sz 106 = 1 := rfl
@[simp] theorem ze_106 (glob : Nat → Option (List D)) : (mkCtx tab glob).zero 106 = [.v .nilFunc] := rfl
@[simp] theorem td_107 (glob : Nat → Option (List D)) : (mkCtx tab glob).td 107 = .func := rfl
@[simp] theorem sz_107 (glob : Nat → Option (List D)) : (mkCtx tab glob).sz 107 = 1 := rfl
@[simp] theorem ze_107 (glob : Nat → Option (List D)) : (mkCtx tab glob).zero 107 = [.v .nilFunc] := rfl
@[simp] theorem td_108 (glob : Nat → Option (List D)) : (mkCtx tab glob).td 108 = .func := rfl
@[simp] theorem sz_108 (glob : Nat → Option (List D)) : (mkCtx tab glob).sz 108 = 1 := rfl
@[simp] theorem ze_108 (glob : Nat → Option (List D)) : (mkCtx tab glob).zero 108 = [.v .nilFunc] := rfl
@[simp] theorem td_109 (glob : Nat → Option (List D)) : (mkCtx tab glob).td 109 = .func := rfl
@[simp] theorem sz_109 (glob : Nat → Option (List D)) : (mkCtx tab glob).sz 109 = 1 := rfl
@[simp] theorem ze_109 (glob : Nat → Option (List D)) : (mkCtx tab glob).zero 109 = [.v .nilFunc] := rfl
@[simp] theorem td_111 (glob : Nat → Option (List D)) : (mkCtx tab glob).td 111 = .map 3 118 := rfl
@[simp] theorem sz_111 (glob : Nat → Option (List D)) : (mkCtx tab glob).sz 111 = 1 := rfl
@[simp] theorem ze_111 (glob : Nat → Option (List D)) : (mkCtx tab glob).zero 111 = [.v (.map none)] := rfl
@[simp] theorem td_112 (glob : Nat → Option (List D)) : (mkCtx tab glob).td 112 = .strct [(53, 0), (111, 1)] := rfl
@[simp] theorem sz_112 (glob : Nat → Option (List D)) : (mkCtx tab glob).sz 112 = 2 := rfl
@[simp] theorem eq_112 (glob : Nat → Option (List D)) : (mkCtx tab glob).eqt 112 = [] := rfl
@[simp] theorem ze_112 (glob : Nat → Option (List D)) : (mkCtx tab glob).zero 112 = [.sl 5 [], .v (.map none)] := rfl
@[simp] theorem td_113 (glob : Nat → Option (List D)) : (mkCtx tab glob).td 113 = .strct [(53, 0), (111, 1)] := rfl
@[simp] theorem sz_113 (glob : Nat → Option (List D)) : (mkCtx tab glob).sz 113 = 2 := rfl
@[simp] theorem eq_113 (glob : Nat → Option (List D)) : (mkCtx tab glob).eqt 113 = [] := rfl
@[simp] theorem ze_113 (glob : Nat → Option (List D)) : (mkCtx tab glob).zero 113 = [.sl 5 [], .v (.map none)] := rfl
@[simp] theorem td_116 (glob : Nat → Option (List D)) : (mkCtx tab glob).td 116 = .func := rfl
@[simp] theorem sz_116 (glob : Nat → Option (List D)) : (mkCtx tab glob).sz 116 = 1 := rfl
@[simp] theorem ze_116 (glob : Nat → Option (List D)) : (mkCtx tab glob).zero 116 = [.v .nilFunc] := rfl
@[simp] theorem td_117 (glob : Nat → Option (List D)) : (mkCtx tab glob).td 117 = .strct [(3, 0), (9, 1), (41, 2), (41, 3), (41, 4)] := rfl
@[simp] theorem sz_117 (glob : Nat → Option (List D)) : (mkCtx tab glob).sz 117 = 5 := rfl
@[simp] theorem eq_117 (glob : Nat → Option (List D)) : (mkCtx tab glob).eqt 117 = [] := rfl
@[simp] theorem ze_117 (glob : Nat → Option (List D)) : (mkCtx tab glob).zero 117 = [.v (.int .i64 0), .s [], .sl 1 [], .sl 1 [], .sl 1 []] := rfl
@[simp] theorem td_118 (glob : Nat → Option (List D)) : (mkCtx tab glob).td 118 = .strct [(3, 0), (9, 1), (41, 2), (41, 3), (41, 4)] := rfl
@[simp] theorem sz_118 (glob : Nat → Option (List D)) : (mkCtx tab glob).sz 118 = 5 := rfl
@[simp] theorem eq_118 (glob : Nat → Option (List D)) : (mkCtx tab glob).eqt 118 = [] := rfl
@[simp] theorem ze_118 (glob : Nat → Option (List D)) : (mkCtx tab glob).zero 118 = [.v (.int .i64 0), .s [], .sl 1 [], .sl 1 [], .sl 1 []] := rfl
@[simp] theorem td_119 (glob : Nat → Option (List D)) : (mkCtx tab glob).td 119 = .func := rfl
@[simp] theorem sz_119 (glob : Nat → Option (List D)) : (mkCtx tab glob).sz 119 = 1 := rfl
@[simp] theorem ze_119 (glob : Nat → Option (List D)) : (mkCtx tab glob).zero 119 = [.v .nilFunc] := rfl
@[simp] theorem td_120 (glob : Nat → Option (List D)) : (mkCtx tab glob).td 120 = .func := rfl
@[simp] theorem sz_120 (glob : Nat → Option (List D)) : (mkCtx tab glob).sz 120 = 1 := rfl
@[simp] theorem ze_120 (glob : Nat → Option (List D)) : (mkCtx tab glob).zero 120 = [.v .nilFunc] := rfl
@[simp] theorem td_121 (glob : Nat → Option (List D)) : (mkCtx tab glob).td 121 = .func := rfl
@[simp] theorem sz_121 (glob : Nat → Option (List D)) : (mkCtx tab glob).sz 121 = 1 := rfl
@[simp] theorem ze_121 (glob : Nat → Option (List D)) : (mkCtx tab glob).zero 121 = [.v .nilFunc] := rfl
@[simp] theorem td_122 (glob : Nat → Option (List D)) : (mkCtx tab glob).td 122 = .func := rfl
@[simp] theorem sz_122 (glob : Nat → Option (List D)) : (mkCtx tab glob).sz 122 = 1 := rfl
@[simp] theorem ze_122 (glob : Nat → Option (List D)) : (mkCtx tab glob).zero 122 = [.v .nilFunc] := rfl
@[simp] theorem td_123 (glob : Nat → Option (List D)) : (mkCtx tab glob).td 123 = .func := rfl
@[simp] theorem sz_123 (glob : Nat → Option (List D)) : (mkCtx tab glob).sz 123 = 1 := rfl
@[simp] theorem ze_123 (glob : Nat → Option (List D)) : (mkCtx tab glob).zero 123 = [.v .nilFunc] := rfl
@[simp] theorem td_124 (glob : Nat → Option (List D)) : (mkCtx tab glob).td 124 = .func := rfl
@[simp] theorem sz_124 (glob : Nat → Option (List D)) : (mkCtx tab glob).sz 124 = 1 := rfl
@[simp] theorem ze_124 (glob : Nat → Option (List D)) : (mkCtx tab glob).zero 124 = [.v .nilFunc] := rfl
@[simp] theorem td_125 (glob : Nat → Option (List D)) : (mkCtx tab glob).td 125 = .func := rfl
@[simp] theorem sz_125 (glob : Nat → Option (List D)) : (mkCtx tab glob).sz 125 = 1 := rfl
@[simp] theorem ze_125 (glob : Nat → Option (List D)) : (mkCtx tab glob).zero 125 = [.v .nilFunc] := rfl
@[simp] theorem td_126 (glob : Nat → Option (List D)) : (mkCtx tab glob).td 126 = .func := rfl
@[simp] theorem sz_126 (glob : Nat → Option (List D)) : (mkCtx tab glob).sz 126 = 1 := rfl
@[simp] theorem ze_126 (glob : Nat → Option (List D)) : (mkCtx tab glob).zero 126 = [.v .nilFunc] := rfl
@[simp] theorem td_127 (glob : Nat → Option (List D)) : (mkCtx tab glob).td 127 = .func := rfl
@[simp] theorem sz_127 (glob : Nat → Option (List D)) : (mkCtx tab glob).sz 127 = 1 := rfl
@[simp] theorem ze_127 (glob : Nat → Option (List D)) : (mkCtx tab glob).zero 127 = [.v .nilFunc] := rfl
@[simp] theorem td_128 (glob : Nat → Option (List D)) : (mkCtx tab glob).td 128 = .func := rfl
@[simp] theorem sz_128 (glob : Nat → Option (List D)) : (mkCtx tab glob).sz 128 = 1 := rfl
@[simp] theorem ze_128 (glob : Nat → Option (List D)) : (mkCtx tab glob).zero 128 = [.v .nilFunc] := rfl
@[simp] theorem td_129 (glob : Nat → Option (List D)) : (mkCtx tab glob).td 129 = .func := rfl
@[simp] theorem sz_129 (glob : Nat → Option (List D)) : (mkCtx tab glob).sz 129 = 1 := rfl
@[simp] theorem ze_129 (glob : Nat → Option (List D)) : (mkCtx tab glob).zero 129 = [.v .nilFunc] := rfl
@[simp] theorem td_130 (glob : Nat → Option (List D)) : (mkCtx tab glob).td 130 = .func := rfl
@[simp] theorem sz_130 (glob : Nat → Option (List D)) : (mkCtx tab glob).sz 130 = 1 := rfl
@[simp] theorem ze_130 (glob : Nat → Option (List D)) : (mkCtx tab glob).zero 130 = [.v .nilFunc] := rfl
@[simp] theorem td_131 (glob : Nat → Option (List D)) : (mkCtx tab glob).td 131 = .func := rfl
@[simp] theorem sz_131 (glob : Nat → Option (List D)) : (mkCtx tab glob).sz 131 = 1 := rfl
@[simp] theorem ze_131 (glob : Nat → Option (List D)) : (mkCtx tab glob).zero 131 = [.v .nilFunc] := rfl
@[simp] theorem td_132 (glob : Nat → Option (List D)) : (mkCtx tab glob).td 132 = .func := rfl
@[simp] theorem sz_132 (glob : Nat → Option (List D)) : (mkCtx tab glob).sz 132 = 1 := rfl
@[simp] theorem ze_132 (glob : Nat → Option (List D)) : (mkCtx tab glob).zero 132 = [.v .nilFunc] := rfl
@[simp] theorem td_134 (glob : Nat → Option (List D)) : (mkCtx tab glob).td 134 = .func := rfl
@[simp] theorem sz_134 (glob : Nat → Option (List D)) : (mkCtx tab glob).sz 134 = 1 := rfl
@[simp] theorem ze_134 (glob : Nat → Option (List D)) : (mkCtx tab glob).zero 134 = [.v .nilFunc] := rfl
@[simp] theorem td_135 (glob : Nat → Option (List D)) : (mkCtx tab glob).td 135 = .func := rfl
@[simp] theorem sz_135 (glob : Nat → Option (List D)) : (mkCtx tab glob).sz 135 = 1 := rfl
@[simp] theorem ze_135 (glob : Nat → Option (List D)) : (mkCtx tab glob).zero 135 = [.v .nilFunc] := rfl
@[simp] theorem td_136 (glob : Nat → Option (List D)) : (mkCtx tab glob).td 136 = .strct [(17, 0)] := rfl
@[simp] theorem sz_136 (glob : Nat → Option (List D)) : (mkCtx tab glob).sz 136 = 1 := rfl
@[simp] theorem eq_136 (glob : Nat → Option (List D)) : (mkCtx tab glob).eqt 136 = [] := rfl
@[simp] theorem ze_136 (glob : Nat → Option (List D)) : (mkCtx tab glob).zero 136 = [.v (.pointer none)] := rfl
@[simp] theorem td_137 (glob : Nat → Option (List D)) : (mkCtx tab glob).td 137 = .strct [(17, 0)] := rfl
@[simp] theorem sz_137 (glob : Nat → Option (List D)) : (mkCtx tab glob).sz 137 = 1 := rfl
@[simp] theorem eq_137 (glob : Nat → Option (List D)) : (mkCtx tab glob).eqt 137 = [] := rfl
@[simp] theorem ze_137 (glob : Nat → Option (List D)) : (mkCtx tab glob).zero 137 = [.v (.pointer none)] := rfl
@[simp] theorem td_138 (glob : Nat → Option (List D)) : (mkCtx tab glob).td 138 = .ptr 290 := rfl
@[simp] theorem sz_138 (glob : Nat → Option (List D)) : (mkCtx tab glob).sz 138 = 1 := rfl
@[simp] theorem ze_138 (glob : Nat → Option (List D)) : (mkCtx tab glob).zero 138 = [.v (.pointer none)] := rfl
@[simp] theorem td_139 (glob : Nat → Option (List D)) : (mkCtx tab glob).td 139 = .func := rfl
@[simp] theorem sz_139 (glob : Nat → Option (List D)) : (mkCtx tab glob).sz 139 = 1 := rfl
@[simp] theorem ze_139 (glob : Nat → Option (List D)) : (mkCtx tab glob).zero 139 = [.v .nilFunc] := rfl
@[simp] theorem td_140 (glob : Nat → Option (List D)) : (mkCtx tab glob).td 140 = .func := rfl
@[simp] theorem sz_140 (glob : Nat → Option (List D)) : (mkCtx tab glob).sz 140 = 1 := rfl
@[simp] theorem ze_140 (glob : Nat → Option (List D)) : (mkCtx tab glob).zero 140 = [.v .nilFunc] := rfl
@[simp] theorem td_141 (glob : Nat → Option (List D)) : (mkCtx tab glob).td 141 = .iface false := rfl
@[simp] theorem sz_141 (glob : Nat → Option (List D)) : (mkCtx tab glob).sz 141 = 1 := rfl
@[simp] theorem ze_141 (glob : Nat → Option (List D)) : (mkCtx tab glob).zero 141 = [.v .nilIface] := rfl
@[simp] theorem td_143 (glob : Nat → Option (List D)) : (mkCtx tab glob).td 143 = .func := rfl
@[simp] theorem sz_143 (glob : Nat → Option (List D)) : (mkCtx tab glob).sz 143 = 1 := rfl
@[simp] theorem ze_143 (glob : Nat → Option (List D)) : (mkCtx tab glob).zero 143 = [.v .nilFunc] := rfl
@[simp] theorem td_144 (glob : Nat → Option (List D)) : (mkCtx tab glob).td 144 = .iface false := rfl
@[simp] theorem sz_144 (glob : Nat → Option (List D)) : (mkCtx tab glob).sz 144 = 1 := rfl
@[simp] theorem ze_144 (glob : Nat → Option (List D)) : (mkCtx tab glob).zero 144 = [.v .nilIface] := rfl
@[simp] theorem td_145 (glob : Nat → Option (List D)) : (mkCtx tab glob).td 145 = .iface false := rfl
@[simp] theorem sz_145 (glob : Nat → Option (List D)) : (mkCtx tab glob).sz 145 = 1 := rfl
@[simp] theorem ze_145 (glob : Nat → Option (List D)) : (mkCtx tab glob).zero 145 = [.v .nilIface] := rfl
@[simp] theorem td_146 (glob : Nat → Option (List D)) : (mkCtx tab glob).td 146 = .iface false := rfl
@[simp] theorem sz_146 (glob : Nat → Option (List D)) : (mkCtx tab glob).sz 146 = 1 := rfl
@[simp] theorem ze_146 (glob : Nat → Option (List D)) : (mkCtx tab glob).zero 146 = [.v .nilIface] := rfl
@[simp] theorem td_148 (glob : Nat → Option (List D)) : (mkCtx tab glob).td 148 = .func := rfl
@[simp] theorem sz_148 (glob : Nat → Option (List D)) : (mkCtx tab glob).sz 148 = 1 := rfl
@[simp] theorem ze_148 (glob : Nat → Option (List D)) : (mkCtx tab glob).zero 148 = [.v .nilFunc] := rfl
@[simp] theorem td_149 (glob : Nat → Option (List D)) : (mkCtx tab glob).td 149 = .slice 196 := rfl
@[simp] theorem sz_149 (glob : Nat → Option (List D)) : (mkCtx tab glob).sz 149 = 1 := rfl
@[simp] theorem ze_149 (glob : Nat → Option (List D)) : (mkCtx tab glob).zero 149 = [.sl 7 []] := rfl
@[simp] theorem td_151 (glob : Nat → Option (List D)) : (mkCtx tab glob).td 151 = .func := rfl
@[simp] theorem sz_151 (glob : Nat → Option (List D)) : (mkCtx tab glob).sz 151 = 1 := rfl
@[simp] theorem ze_151 (glob : Nat → Option (List D)) : (mkCtx tab glob).zero 151 = [.v .nilFunc] := rfl
@[simp] theorem td_152 (glob : Nat → Option (List D)) : (mkCtx tab glob).td 152 = .func := rfl
@[simp] theorem sz_152 (glob : Nat → Option (List D)) : (mkCtx tab glob).sz 152 = 1 := rfl
@[simp] theorem ze_152 (glob : Nat → Option (List D)) : (mkCtx tab glob).zero 152 = [.v .nilFunc] := rfl
@[simp] theorem td_153 (glob : Nat → Option (List D)) : (mkCtx tab glob).td 153 = .func := rfl
@[simp] theorem sz_153 (glob : Nat → Option (List D)) : (mkCtx tab glob).sz 153 = 1 := rfl
@[simp] theorem ze_153 (glob : Nat → Option (List D)) : (mkCtx tab glob).zero 153 = [.v .nilFunc] := rfl
@[simp] theorem td_154 (glob : Nat → Option (List D)) : (mkCtx tab glob).td 154 = .slice 41 := rfl
@[simp] theorem sz_154 (glob : Nat → Option (List D)) : (mkCtx tab glob).sz 154 = 1 := rfl
@[simp] theorem ze_154 (glob : Nat → Option (List D)) : (mkCtx tab glob).zero 154 = [.sl 1 []] := rfl
@[simp] theorem td_155 (glob : Nat → Option (List D)) : (mkCtx tab glob).td 155 = .func := rfl
@[simp] theorem sz_155 (glob : Nat → Option (List D)) : (mkCtx tab glob).sz 155 = 1 := rfl
@[simp] theorem ze_155 (glob : Nat → Option (List D)) : (mkCtx tab glob).zero 155 = [.v .nilFunc] := rfl
@[simp] theorem td_156 (glob : Nat → Option (List D)) : (mkCtx tab glob).td 156 = .func := rfl
@[simp] theorem sz_156 (glob : Nat → Option (List D)) : (mkCtx tab glob).sz 156 = 1 := rfl
@[simp] theorem ze_156 (glob : Nat → Option (List D)) : (mkCtx tab glob).zero 156 = [.v .nilFunc] := rfl
@[simp] theorem td_158 (glob : Nat → Option (List D)) : (mkCtx tab glob).td 158 = .func := rfl
@[simp] theorem sz_158 (glob : Nat → Option (List D)) : (mkCtx tab glob).sz 158 = 1 := rfl
@[simp] theorem ze_158 (glob : Nat → Option (List D)) : (mkCtx tab glob).zero 158 = [.v .nilFunc] := rfl
@[simp] theorem td_161 (glob : Nat → Option (List D)) : (mkCtx tab glob).td 161 = .func := rfl
@[simp] theorem sz_161 (glob : Nat → Option (List D)) : (mkCtx tab glob).sz 161 = 1 := rfl
@[simp] theorem ze_161 (glob : Nat → Option (List D)) : (mkCtx tab glob).zero 161 = [.v .nilFunc] := rfl
@[simp] theorem td_162 (glob : Nat → Option (List D)) : (mkCtx tab glob).td 162 = .func := rfl
@[simp] theorem sz_162 (glob : Nat → Option (List D)) : (mkCtx tab glob).sz 162 = 1 := rfl
@[simp] theorem ze_162 (glob : Nat → Option (List D)) : (mkCtx tab glob).zero 162 = [.v .nilFunc] := rfl
@[simp] theorem td_163 (glob : Nat → Option (List D)) : (mkCtx tab glob).td 163 = .func := rfl
@[simp] theorem sz_163 (glob : Nat → Option (List D)) : (mkCtx tab glob).sz 163 = 1 := rfl
@[simp] theorem ze_163 (glob : Nat → Option (List D)) : (mkCtx tab glob).zero 163 = [.v .nilFunc] := rfl
@[simp] theorem td_164 (glob : Nat → Option (List D)) : (mkCtx tab glob).td 164 = .func := rfl
@[simp] theorem sz_164 (glob : Nat → Option (List D)) : (mkCtx tab glob).sz 164 = 1 := rfl
@[simp] theorem ze_164 (glob : Nat → Option (List D)) : (mkCtx tab glob).zero 164 = [.v .nilFunc] := rfl
@[simp] theorem td_165 (glob : Nat → Option (List D)) : (mkCtx tab glob).td 165 = .func := rfl
@[simp] theorem sz_165 (glob : Nat → Option (List D)) : (mkCtx tab glob).sz 165 = 1 := rfl
@[simp] theorem ze_165 (glob : Nat → Option (List D)) : (mkCtx tab glob).zero 165 = [.v .nilFunc] := rfl
@[simp] theorem td_166 (glob : Nat → Option (List D)) : (mkCtx tab glob).td 166 = .int .u64 := rfl
@[simp] theorem sz_166 (glob : Nat → Option (List D)) : (mkCtx tab glob).sz 166 = 1 := rfl
@[simp] theorem ze_166 (glob : Nat → Option (List D)) : (mkCtx tab glob).zero 166 = [.v (.int .u64 0)] := rfl
@[simp] theorem td_167 (glob : Nat → Option (List D)) : (mkCtx tab glob).td 167 = .arr 4 166 := rfl
@[simp] theorem sz_167 (glob : Nat → Option (List D)) : (mkCtx tab glob).sz 167 = 4 := rfl
@[simp] theorem ze_167 (glob : Nat → Option (List D)) : (mkCtx tab glob).zero 167 = [.v (.int .u64 0), .v (.int .u64 0), .v (.int .u64 0), .v (.int .u64 0)] := rfl
@[simp] theorem td_168 (glob : Nat → Option (List D)) : (mkCtx tab glob).td 168 = .arr 4 166 := rfl
@[simp] theorem sz_168 (glob : Nat → Option (List D)) : (mkCtx tab glob).sz 168 = 4 := rfl
@[simp] theorem ze_168 (glob : Nat → Option (List D)) : (mkCtx tab glob).zero 168 = [.v (.int .u64 0), .v (.int .u64 0), .v (.int .u64 0), .v (.int .u64 0)] := rfl
@[simp] theorem td_169 (glob : Nat → Option (List D)) : (mkCtx tab glob).td 169 = .slice 171 := rfl
@[simp] theorem sz_169 (glob : Nat → Option (List D)) : (mkCtx tab glob).sz 169 = 1 := rfl
@[simp] theorem ze_169 (glob : Nat → Option (List D)) : (mkCtx tab glob).zero 169 = [.sl 7 []] := rfl
@[simp] theorem td_170 (glob : Nat → Option (List D)) : (mkCtx tab glob).td 170 = .strct [(3, 0), (3, 1), (168, 2), (169, 6)] := rfl
@[simp] theorem sz_170 (glob : Nat → Option (List D)) : (mkCtx tab glob).sz 170 = 7 := rfl
@[simp] theorem eq_170 (glob : Nat → Option (List D)) : (mkCtx tab glob).eqt 170 = [] := rfl
@[simp] theorem ze_170 (glob : Nat → Option (List D)) : (mkCtx tab glob).zero 170 = [.v (.int .i64 0), .v (.int .i64 0), .v (.int .u64 0), .v (.int .u64 0), .v (.int .u64 0), .v (.int .u64 0), .sl 7 []] := rfl
@[simp] theorem td_171 (glob : Nat → Option (List D)) : (mkCtx tab glob).td 171 = .strct [(3, 0), (3, 1), (168, 2), (169, 6)] := rfl
@[simp] theorem sz_171 (glob : Nat → Option (List D)) : (mkCtx tab glob).sz 171 = 7 := rfl
@[simp] theorem eq_171 (glob : Nat → Option (List D)) : (mkCtx tab glob).eqt 171 = [] := rfl
@[simp] theorem ze_171 (glob : Nat → Option (List D)) : (mkCtx tab glob).zero 171 = [.v (.int .i64 0), .v (.int .i64 0), .v (.int .u64 0), .v (.int .u64 0), .v (.int .u64 0), .v (.int .u64 0), .sl 7 []] := rfl
@[simp] theorem td_173 (glob : Nat → Option (List D)) : (mkCtx tab glob).td 173 = .func := rfl
@[simp] theorem sz_173 (glob : Nat → Option (List D)) : (mkCtx tab glob).sz 173 = 1 := rfl
@[simp] theorem ze_173 (glob : Nat → Option (List D)) : (mkCtx tab glob).zero 173 = [.v .nilFunc] := rfl
@[simp] theorem td_174 (glob : Nat → Option (List D)) : (mkCtx tab glob).td 174 = .func := rfl
@[simp] theorem sz_174 (glob : Nat → Option (List D)) : (mkCtx tab glob).sz 174 = 1 := rfl
@[simp] theorem ze_174 (glob : Nat → Option (List D)) : (mkCtx tab glob).zero 174 = [.v .nilFunc] := rfl
@[simp] theorem td_175 (glob : Nat → Option (List D)) : (mkCtx tab glob).td 175 = .func := rfl
@[simp] theorem sz_175 (glob : Nat → Option (List D)) : (mkCtx tab glob).sz 175 = 1 := rfl
@[simp] theorem ze_175 (glob : Nat → Option (List D)) : (mkCtx tab glob).zero 175 = [.v .nilFunc] := rfl
@[simp] theorem td_176 (glob : Nat → Option (List D)) : (mkCtx tab glob).td 176 = .func := rfl
@[simp] theorem sz_176 (glob : Nat → Option (List D)) : (mkCtx tab glob).sz 176 = 1 := rfl
@[simp] theorem ze_176 (glob : Nat → Option (List D)) : (mkCtx tab glob).zero 176 = [.v .nilFunc] := rfl
@[simp] theorem td_178 (glob : Nat → Option (List D)) : (mkCtx tab glob).td 178 = .func := rfl
@[simp] theorem sz_178 (glob : Nat → Option (List D)) : (mkCtx tab glob).sz 178 = 1 := rfl
@[simp] theorem ze_178 (glob : Nat → Option (List D)) : (mkCtx tab glob).zero 178 = [.v .nilFunc] := rfl
@[simp] theorem td_179 (glob : Nat → Option (List D)) : (mkCtx tab glob).td 179 = .func := rfl
@[simp] theorem sz_179 (glob : Nat → Option (List D)) : (mkCtx tab glob).sz 179 = 1 := rfl
@[simp] theorem ze_179 (glob : Nat → Option (List D)) : (mkCtx tab glob).zero 179 = [.v .nilFunc] := rfl
@[simp] theorem td_180 (glob : Nat → Option (List D)) : (mkCtx tab glob).td 180 = .func := rfl
@[simp] theorem sz_180 (glob : Nat → Option (List D)) : (mkCtx tab glob).sz 180 = 1 := rfl
@[simp] theorem ze_180 (glob : Nat → Option (List D)) : (mkCtx tab glob).zero 180 = [.v .nilFunc] := rfl
@[simp] theorem td_181 (glob : Nat → Option (List D)) : (mkCtx tab glob).td 181 = .func := rfl
@[simp] theorem sz_181 (glob : Nat → Option (List D)) : (mkCtx tab glob).sz 181 = 1 := rfl
@[simp] theorem ze_181 (glob : Nat → Option (List D)) : (mkCtx tab glob).zero 181 = [.v .nilFunc] := rfl
@[simp] theorem td_182 (glob : Nat → Option (List D)) : (mkCtx tab glob).td 182 = .func := rfl
@[simp] theorem sz_182 (glob : Nat → Option (List D)) : (mkCtx tab glob).sz 182 = 1 := rfl
@[simp] theorem ze_182 (glob : Nat → Option (List D)) : (mkCtx tab glob).zero 182 = [.v .nilFunc] := rfl
@[simp] theorem td_183 (glob : Nat → Option (List D)) : (mkCtx tab glob).td 183 = .func := rfl
@[simp] theorem sz_183 (glob : Nat → Option (List D)) : (mkCtx tab glob).sz 183 = 1 := rfl
@[simp] theorem ze_183 (glob : Nat → Option (List D)) : (mkCtx tab glob).zero 183 = [.v .nilFunc] := rfl
@[simp] theorem td_184 (glob : Nat → Option (List D)) : (mkCtx tab glob).td 184 = .func := rfl
@[simp] theorem sz_184 (glob : Nat → Option (List D)) : (mkCtx tab glob).sz 184 = 1 := rfl
@[simp] theorem ze_184 (glob : Nat → Option (List D)) : (mkCtx tab glob).zero 184 = [.v .nilFunc] := rfl
@[simp] theorem td_185 (glob : Nat → Option (List D)) : (mkCtx tab glob).td 185 = .func := rfl
@[simp] theorem sz_185 (glob : Nat → Option (List D)) : (mkCtx tab glob).sz 185 = 1 := rfl
@[simp] theorem ze_185 (glob : Nat → Option (List D)) : (mkCtx tab glob).zero 185 = [.v .nilFunc] := rfl
@[simp] theorem td_186 (glob : Nat → Option (List D)) : (mkCtx tab glob).td 186 = .ptr 188 := rfl
@[simp] theorem sz_186 (glob : Nat → Option (List D)) : (mkCtx tab glob).sz 186 = 1 := rfl
@[simp] theorem ze_186 (glob : Nat → Option (List D)) : (mkCtx tab glob).zero 186 = [.v (.pointer none)] := rfl
@[simp] theorem td_187 (glob : Nat → Option (List D)) : (mkCtx tab glob).td 187 = .strct [(9, 0), (3, 1), (3, 2), (4, 3)] := rfl
@[simp] theorem sz_187 (glob : Nat → Option (List D)) : (mkCtx tab glob).sz 187 = 4 := rfl
@[simp] theorem eq_187 (glob : Nat → Option (List D)) : (mkCtx tab glob).eqt 187 = [] := rfl
@[simp] theorem ze_187 (glob : Nat → Option (List D)) : (mkCtx tab glob).zero 187 = [.s [], .v (.int .i64 0), .v (.int .i64 0), .v (.bool false)] := rfl
@[simp] theorem td_188 (glob : Nat → Option (List D)) : (mkCtx tab glob).td 188 = .strct [(9, 0), (3, 1), (3, 2), (4, 3)] := rfl
@[simp] theorem sz_188 (glob : Nat → Option (List D)) : (mkCtx tab glob).sz 188 = 4 := rfl
@[simp] theorem eq_188 (glob : Nat → Option (List D)) : (mkCtx tab glob).eqt 188 = [] := rfl
@[simp] theorem ze_188 (glob : Nat → Option (List D)) : (mkCtx tab glob).zero 188 = [.s [], .v (.int .i64 0), .v (.int .i64 0), .v (.bool false)] := rfl
@[simp] theorem td_189 (glob : Nat → Option (List D)) : (mkCtx tab glob).td 189 = .func := rfl
@[simp] theorem sz_189 (glob : Nat → Option (List D)) : (mkCtx tab glob).sz 189 = 1 := rfl
@[simp] theorem ze_189 (glob : Nat → Option (List D)) : (mkCtx tab glob).zero 189 = [.v .nilFunc] := rfl
@[simp] theorem td_190 (glob : Nat → Option (List D)) : (mkCtx tab glob).td 190 = .func := rfl
@[simp] theorem sz_190 (glob : Nat → Option (List D)) : (mkCtx tab glob).sz 190 = 1 := rfl
@[simp] theorem ze_190 (glob : Nat → Option (List D)) : (mkCtx tab glob).zero 190 = [.v .nilFunc] := rfl
@[simp] theorem td_191 (glob : Nat → Option (List D)) : (mkCtx tab glob).td 191 = .func := rfl
@[simp] theorem sz_191 (glob : Nat → Option (List D)) : (mkCtx tab glob).sz 191 = 1 := rfl
@[simp] theorem ze_191 (glob : Nat → Option (List D)) : (mkCtx tab glob).zero 191 = [.v .nilFunc] := rfl
@[simp] theorem td_192 (glob : Nat → Option (List D)) : (mkCtx tab glob).td 192 = .strct [(149, 0)] := rfl
@[simp] theorem sz_192 (glob : Nat → Option (List D)) : (mkCtx tab glob).sz 192 = 1 := rfl
@[simp] theorem eq_192 (glob : Nat → Option (List D)) : (mkCtx tab glob).eqt 192 = [] := rfl
@[simp] theorem ze_192 (glob : Nat → Option (List D)) : (mkCtx tab glob).zero 192 = [.sl 7 []] := rfl
@[simp] theorem td_193 (glob : Nat → Option (List D)) : (mkCtx tab glob).td 193 = .strct [(149, 0)] := rfl
@[simp] theorem sz_193 (glob : Nat → Option (List D)) : (mkCtx tab glob).sz 193 = 1 := rfl
@[simp] theorem eq_193 (glob : Nat → Option (List D)) : (mkCtx tab glob).eqt 193 = [] := rfl
@[simp] theorem ze_193 (glob : Nat → Option (List D)) : (mkCtx tab glob).zero 193 = [.sl 7 []] := rfl
@[simp] theorem td_194 (glob : Nat → Option (List D)) : (mkCtx tab glob).td 194 = .func := rfl
@[simp] theorem sz_194 (glob : Nat → Option (List D)) : (mkCtx tab glob).sz 194 = 1 := rfl
@[simp] theorem ze_194 (glob : Nat → Option (List D)) : (mkCtx tab glob).zero 194 = [.v .nilFunc] := rfl
@[simp] theorem td_195 (glob : Nat → Option (List D)) : (mkCtx tab glob).td 195 = .strct [(3, 0), (3, 1), (3, 2), (168, 3)] := rfl
@[simp] theorem sz_195 (glob : Nat → Option (List D)) : (mkCtx tab glob).sz 195 = 7 := rfl
@[simp] theorem eq_195 (glob : Nat → Option (List D)) : (mkCtx tab glob).eqt 195 = [] := rfl
@[simp] theorem ze_195 (glob : Nat → Option (List D)) : (mkCtx tab glob).zero 195 = [.v (.int .i64 0), .v (.int .i64 0), .v (.int .i64 0), .v (.int .u64 0), .v (.int .u64 0), .v (.int .u64 0), .v (.int .u64 0)] := rfl
@[simp] theorem td_196 (glob : Nat → Option (List D)) : (mkCtx tab glob).td 196 = .strct [(3, 0), (3, 1), (3, 2), (168, 3)] := rfl
@[simp] theorem sz_196 (glob : Nat → Option (List D)) : (mkCtx tab glob).sz 196 = 7 := rfl
@[simp] theorem eq_196 (glob : Nat → Option (List D)) : (mkCtx tab glob).eqt 196 = [] := rfl
@[simp] theorem ze_196 (glob : Nat → Option (List D)) : (mkCtx tab glob).zero 196 = [.v (.int .i64 0), .v (.int .i64 0), .v (.int .i64 0), .v (.int .u64 0), .v (.int .u64 0), .v (.int .u64 0), .v (.int .u64 0)] := rfl
@[simp] theorem td_197 (glob : Nat → Option (List D)) : (mkCtx tab glob).td 197 = .func := rfl
@[simp] theorem sz_197 (glob : Nat → Option (List D)) : (mkCtx tab glob).sz 197 = 1 := rfl
@[simp] theorem ze_197 (glob : Nat → Option (List D)) : (mkCtx tab glob).zero 197 = [.v .nilFunc] := rfl
@[simp] theorem td_198 (glob : Nat → Option (List D)) : (mkCtx tab glob).td 198 = .func := rfl
@[simp] theorem sz_198 (glob : Nat → Option (List D)) : (mkCtx tab glob).sz 198 = 1 := rfl
@[simp] theorem ze_198 (glob : Nat → Option (List D)) : (mkCtx tab glob).zero 198 = [.v .nilFunc] := rfl
@[simp] theorem td_199 (glob : Nat → Option (List D)) : (mkCtx tab glob).td 199 = .func := rfl
@[simp] theorem sz_199 (glob : Nat → Option (List D)) : (mkCtx tab glob).sz 199 = 1 := rfl
@[simp] theorem ze_199 (glob : Nat → Option (List D)) : (mkCtx tab glob).zero 199 = [.v .nilFunc] := rfl
@[simp] theorem td_200 (glob : Nat → Option (List D)) : (mkCtx tab glob).td 200 = .func := rfl
@[simp] theorem sz_200 (glob : Nat → Option (List D)) : (mkCtx tab glob).sz 200 = 1 := rfl
@[simp] theorem ze_200 (glob : Nat → Option (List D)) : (mkCtx tab glob).zero 200 = [.v .nilFunc] := rfl
@[simp] theorem td_201 (glob : Nat → Option (List D)) : (mkCtx tab glob).td 201 = .func := rfl
@[simp] theorem sz_201 (glob : Nat → Option (List D)) : (mkCtx tab glob).sz 201 = 1 := rfl
@[simp] theorem ze_201 (glob : Nat → Option (List D)) : (mkCtx tab glob).zero 201 = [.v .nilFunc] := rfl
@[simp] theorem td_202 (glob : Nat → Option (List D)) : (mkCtx tab glob).td 202 = .int .i64 := rfl
@[simp] theorem sz_202 (glob : Nat → Option (List D)) : (mkCtx tab glob).sz 202 = 1 := rfl
@[simp] theorem ze_202 (glob : Nat → Option (List D)) : (mkCtx tab glob).zero 202 = [.v (.int .i64 0)] := rfl
@[simp] theorem td_204 (glob : Nat → Option (List D)) : (mkCtx tab glob).td 204 = .func := rfl
@[simp] theorem sz_204 (glob : Nat → Option (List D)) : (mkCtx tab glob).sz 204 = 1 := rfl
@[simp] theorem ze_204 (glob : Nat → Option (List D)) : (mkCtx tab glob).zero 204 = [.v .nilFunc] := rfl
@[simp] theorem td_205 (glob : Nat → Option (List D)) : (mkCtx tab glob).td 205 = .func := rfl
@[simp] theorem sz_205 (glob : Nat → Option (List D)) : (mkCtx tab glob).sz 205 = 1 := rfl
@[simp] theorem ze_205 (glob : Nat → Option (List D)) : (mkCtx tab glob).zero 205 = [.v .nilFunc] := rfl
@[simp] theorem td_206 (glob : Nat → Option (List D)) : (mkCtx tab glob).td 206 = .func := rfl
@[simp] theorem sz_206 (glob : Nat → Option (List D)) : (mkCtx tab glob).sz 206 = 1 := rfl
@[simp] theorem ze_206 (glob : Nat → Option (List D)) : (mkCtx tab glob).zero 206 = [.v .nilFunc] := rfl
@[simp] theorem td_207 (glob : Nat → Option (List D)) : (mkCtx tab glob).td 207 = .func := rfl
@[simp] theorem sz_207 (glob : Nat → Option (List D)) : (mkCtx tab glob).sz 207 = 1 := rfl
@[simp] theorem ze_207 (glob : Nat → Option (List D)) : (mkCtx tab glob).zero 207 = [.v .nilFunc] := rfl
@[simp] theorem td_208 (glob : Nat → Option (List D)) : (mkCtx tab glob).td 208 = .func := rfl
@[simp] theorem sz_208 (glob : Nat → Option (List D)) : (mkCtx tab glob).sz 208 = 1 := rfl
@[simp] theorem ze_208 (glob : Nat → Option (List D)) : (mkCtx tab glob).zero 208 = [.v .nilFunc] := rfl
@[simp] theorem td_209 (glob : Nat → Option (List D)) : (mkCtx tab glob).td 209 = .func := rfl
@[simp] theorem sz_209 (glob : Nat → Option (List D)) : (mkCtx tab glob).sz 209 = 1 := rfl
@[simp] theorem ze_209 (glob : Nat → Option (List D)) : (mkCtx tab glob).zero 209 = [.v .nilFunc] := rfl
@[simp] theorem td_210 (glob : Nat → Option (List D)) : (mkCtx tab glob).td 210 = .int .u32 := rfl
@[simp] theorem sz_210 (glob : Nat → Option (List D)) : (mkCtx tab glob).sz 210 = 1 := rfl
@[simp] theorem ze_210 (glob : Nat → Option (List D)) : (mkCtx tab glob).zero 210 = [.v (.int .u32 0)] := rfl
@[simp] theorem td_211 (glob : Nat → Option (List D)) : (mkCtx tab glob).td 211 = .func := rfl
@[simp] theorem sz_211 (glob : Nat → Option (List D)) : (mkCtx tab glob).sz 211 = 1 := rfl
@[simp] theorem ze_211 (glob : Nat → Option (List D)) : (mkCtx tab glob).zero 211 = [.v .nilFunc] := rfl
@[simp] theorem td_212 (glob : Nat → Option (List D)) : (mkCtx tab glob).td 212 = .func := rfl
@[simp] theorem sz_212 (glob : Nat → Option (List D)) : (mkCtx tab glob).sz 212 = 1 := rfl
@[simp] theorem ze_212 (glob : Nat → Option (List D)) : (mkCtx tab glob).zero 212 = [.v .nilFunc] := rfl
@[simp] theorem td_213 (glob : Nat → Option (List D)) : (mkCtx tab glob).td 213 = .func := rfl
@[simp] theorem sz_213 (glob : Nat → Option (List D)) : (mkCtx tab glob).sz 213 = 1 := rfl
@[simp] theorem ze_213 (glob : Nat → Option (List D)) : (mkCtx tab glob).zero 213 = [.v .nilFunc] := rfl
@[simp] theorem td_214 (glob : Nat → Option (List D)) : (mkCtx tab glob).td 214 = .func := rfl
@[simp] theorem sz_214 (glob : Nat → Option (List D)) : (mkCtx tab glob).sz 214 = 1 := rfl
@[simp] theorem ze_214 (glob : Nat → Option (List D)) : (mkCtx tab glob).zero 214 = [.v .nilFunc] := rfl
@[simp] theorem td_215 (glob : Nat → Option (List D)) : (mkCtx tab glob).td 215 = .func := rfl
@[simp] theorem sz_215 (glob : Nat → Option (List D)) : (mkCtx tab glob).sz 215 = 1 := rfl
@[simp] theorem ze_215 (glob : Nat → Option (List D)) : (mkCtx tab glob).zero 215 = [.v .nilFunc] := rfl
@[simp] theorem td_216 (glob : Nat → Option (List D)) : (mkCtx tab glob).td 216 = .func := rfl
@[simp] theorem sz_216 (glob : Nat → Option (List D)) : (mkCtx tab glob).sz 216 = 1 := rfl
@[simp] theorem ze_216 (glob : Nat → Option (List D)) : (mkCtx tab glob).zero 216 = [.v .nilFunc] := rfl
@[simp] theorem td_217 (glob : Nat → Option (List D)) : (mkCtx tab glob).td 217 = .func := rfl
@[simp] theorem sz_217 (glob : Nat → Option (List D)) : (mkCtx tab glob).sz 217 = 1 := rfl
@[simp] theorem ze_217 (glob : Nat → Option (List D)) : (mkCtx tab glob).zero 217 = [.v .nilFunc] := rfl
@[simp] theorem td_218 (glob : Nat → Option (List D)) : (mkCtx tab glob).td 218 = .func := rfl
@[simp] theorem sz_218 (glob : Nat → Option (List D)) : (mkCtx tab glob).sz 218 = 1 := rfl
@[simp] theorem ze_218 (glob : Nat → Option (List D)) : (mkCtx tab glob).zero 218 = [.v .nilFunc] := rfl
@[simp] theorem td_220 (glob : Nat → Option (List D)) : (mkCtx tab glob).td 220 = .func := rfl
@[simp] theorem sz_220 (glob : Nat → Option (List D)) : (mkCtx tab glob).sz 220 = 1 := rfl
@[simp] theorem ze_220 (glob : Nat → Option (List D)) : (mkCtx tab glob).zero 220 = [.v .nilFunc] := rfl
@[simp] theorem td_221 (glob : Nat → Option (List D)) : (mkCtx tab glob).td 221 = .func := rfl
@[simp] theorem sz_221 (glob : Nat → Option (List D)) : (mkCtx tab glob).sz 221 = 1 := rfl
@[simp] theorem ze_221 (glob : Nat → Option (List D)) : (mkCtx tab glob).zero 221 = [.v .nilFunc] := rfl
@[simp] theorem td_222 (glob : Nat → Option (List D)) : (mkCtx tab glob).td 222 = .func := rfl
@[simp] theorem sz_222 (glob : Nat → Option (List D)) : (mkCtx tab glob).sz 222 = 1 := rfl
@[simp] theorem ze_222 (glob : Nat → Option (List D)) : (mkCtx tab glob).zero 222 = [.v .nilFunc] := rfl
@[simp] theorem td_223 (glob : Nat → Option (List D)) : (mkCtx tab glob).td 223 = .ptr 193 := rfl
@[simp] theorem sz_223 (glob : Nat → Option (List D)) : (mkCtx tab glob).sz 223 = 1 := rfl
@[simp] theorem ze_223 (glob : Nat → Option (List D)) : (mkCtx tab glob).zero 223 = [.v (.pointer none)] := rfl
@[simp] theorem td_224 (glob : Nat → Option (List D)) : (mkCtx tab glob).td 224 = .func := rfl
@[simp] theorem sz_224 (glob : Nat → Option (List D)) : (mkCtx tab glob).sz 224 = 1 := rfl
@[simp] theorem ze_224 (glob : Nat → Option (List D)) : (mkCtx tab glob).zero 224 = [.v .nilFunc] := rfl
@[simp] theorem td_225 (glob : Nat → Option (List D)) : (mkCtx tab glob).td 225 = .func := rfl
@[simp] theorem sz_225 (glob : Nat → Option (List D)) : (mkCtx tab glob).sz 225 = 1 := rfl
@[simp] theorem ze_225 (glob : Nat → Option (List D)) : (mkCtx tab glob).zero 225 = [.v .nilFunc] := rfl
@[simp] theorem td_227 (glob : Nat → Option (List D)) : (mkCtx tab glob).td 227 = .func := rfl
@[simp] theorem sz_227 (glob : Nat → Option (List D)) : (mkCtx tab glob).sz 227 = 1 := rfl
@[simp] theorem ze_227 (glob : Nat → Option (List D)) : (mkCtx tab glob).zero 227 = [.v .nilFunc] := rfl
@[simp] theorem td_228 (glob : Nat → Option (List D)) : (mkCtx tab glob).td 228 = .func := rfl
@[simp] theorem sz_228 (glob : Nat → Option (List D)) : (mkCtx tab glob).sz 228 = 1 := rfl
@[simp] theorem ze_228 (glob : Nat → Option (List D)) : (mkCtx tab glob).zero 228 = [.v .nilFunc] := rfl
@[simp] theorem td_230 (glob : Nat → Option (List D)) : (mkCtx tab glob).td 230 = .func := rfl
@[simp] theorem sz_230 (glob : Nat → Option (List D)) : (mkCtx tab glob).sz 230 = 1 := rfl
@[simp] theorem ze_230 (glob : Nat → Option (List D)) : (mkCtx tab glob).zero 230 = [.v .nilFunc] := rfl
@[simp] theorem td_231 (glob : Nat → Option (List D)) : (mkCtx tab glob).td 231 = .int .u64 := rfl
@[simp] theorem sz_231 (glob : Nat → Option (List D)) : (mkCtx tab glob).sz 231 = 1 := rfl
@[simp] theorem ze_231 (glob : Nat → Option (List D)) : (mkCtx tab glob).zero 231 = [.v (.int .u64 0)] := rfl
@[simp] theorem td_232 (glob : Nat → Option (List D)) : (mkCtx tab glob).td 232 = .func := rfl
@[simp] theorem sz_232 (glob : Nat → Option (List D)) : (mkCtx tab glob).sz 232 = 1 := rfl
@[simp] theorem ze_232 (glob : Nat → Option (List D)) : (mkCtx tab glob).zero 232 = [.v .nilFunc] := rfl
@[simp] theorem td_233 (glob : Nat → Option (List D)) : (mkCtx tab glob).td 233 = .func := rfl
@[simp] theorem sz_233 (glob : Nat → Option (List D)) : (mkCtx tab glob).sz 233 = 1 := rfl
@[simp] theorem ze_233 (glob : Nat → Option (List D)) : (mkCtx tab glob).zero 233 = [.v .nilFunc] := rfl
@[simp] theorem td_234 (glob : Nat → Option (List D)) : (mkCtx tab glob).td 234 = .func := rfl
@[simp] theorem sz_234 (glob : Nat → Option (List D)) : (mkCtx tab glob).sz 234 = 1 := rfl
@[simp] theorem ze_234 (glob : Nat → Option (List D)) : (mkCtx tab glob).zero 234 = [.v .nilFunc] := rfl
@[simp] theorem td_235 (glob : Nat → Option (List D)) : (mkCtx tab glob).td 235 = .ptr 3 := rfl
@[simp] theorem sz_235 (glob : Nat → Option (List D)) : (mkCtx tab glob).sz 235 = 1 := rfl
@[simp] theorem ze_235 (glob : Nat → Option (List D)) : (mkCtx tab glob).zero 235 = [.v (.pointer none)] := rfl
@[simp] theorem td_236 (glob : Nat → Option (List D)) : (mkCtx tab glob).td 236 = .func := rfl
@[simp] theorem sz_236 (glob : Nat → Option (List D)) : (mkCtx tab glob).sz 236 = 1 := rfl
@[simp] theorem ze_236 (glob : Nat → Option (List D)) : (mkCtx tab glob).zero 236 = [.v .nilFunc] := rfl
@[simp] theorem td_237 (glob : Nat → Option (List D)) : (mkCtx tab glob).td 237 = .func := rfl
@[simp] theorem sz_237 (glob : Nat → Option (List D)) : (mkCtx tab glob).sz 237 = 1 := rfl
@[simp] theorem ze_237 (glob : Nat → Option (List D)) : (mkCtx tab glob).zero 237 = [.v .nilFunc] := rfl
@[simp] theorem td_238 (glob : Nat → Option (List D)) : (mkCtx tab glob).td 238 = .func := rfl
@[simp] theorem sz_238 (glob : Nat → Option (List D)) : (mkCtx tab glob).sz 238 = 1 := rfl
@[simp] theorem ze_238 (glob : Nat → Option (List D)) : (mkCtx tab glob).zero 238 = [.v .nilFunc] := rfl
@[simp] theorem td_240 (glob : Nat → Option (List D)) : (mkCtx tab glob).td 240 = .func := rfl
@[simp] theorem sz_240 (glob : Nat → Option (List D)) : (mkCtx tab glob).sz 240 = 1 := rfl
@[simp] theorem ze_240 (glob : Nat → Option (List D)) : (mkCtx tab glob).zero 240 = [.v .nilFunc] := rfl
@[simp] theorem td_241 (glob : Nat → Option (List D)) : (mkCtx tab glob).td 241 = .arr 10 9 := rfl
@[simp] theorem sz_241 (glob : Nat → Option (List D)) : (mkCtx tab glob).sz 241 = 10 := rfl
@[simp] theorem ze_241 (glob : Nat → Option (List D)) : (mkCtx tab glob).zero 241 = [.s [], .s [], .s [], .s [], .s [], .s [], .s [], .s [], .s [], .s []] := rfl
@[simp] theorem td_242 (glob : Nat → Option (List D)) : (mkCtx tab glob).td 242 = .func := rfl
@[simp] theorem sz_242 (glob : Nat → Option (List D)) : (mkCtx tab glob).sz 242 = 1 := rfl
@[simp] theorem ze_242 (glob : Nat → Option (List D)) : (mkCtx tab glob).zero 242 = [.v .nilFunc] := rfl
@[simp] theorem td_243 (glob : Nat → Option (List D)) : (mkCtx tab glob).td 243 = .func := rfl
@[simp] theorem sz_243 (glob : Nat → Option (List D)) : (mkCtx tab glob).sz 243 = 1 := rfl
@[simp] theorem ze_243 (glob : Nat → Option (List D)) : (mkCtx tab glob).zero 243 = [.v .nilFunc] := rfl
@[simp] theorem td_245 (glob : Nat → Option (List D)) : (mkCtx tab glob).td 245 = .func := rfl
@[simp] theorem sz_245 (glob : Nat → Option (List D)) : (mkCtx tab glob).sz 245 = 1 := rfl
@[simp] theorem ze_245 (glob : Nat → Option (List D)) : (mkCtx tab glob).zero 245 = [.v .nilFunc] := rfl
@[simp] theorem td_246 (glob : Nat → Option (List D)) : (mkCtx tab glob).td 246 = .func := rfl
@[simp] theorem sz_246 (glob : Nat → Option (List D)) : (mkCtx tab glob).sz 246 = 1 := rfl
@[simp] theorem ze_246 (glob : Nat → Option (List D)) : (mkCtx tab glob).zero 246 = [.v .nilFunc] := rfl
@[simp] theorem td_247 (glob : Nat → Option (List D)) : (mkCtx tab glob).td 247 = .func := rfl
@[simp] theorem sz_247 (glob : Nat → Option (List D)) : (mkCtx tab glob).sz 247 = 1 := rfl
@[simp] theorem ze_247 (glob : Nat → Option (List D)) : (mkCtx tab glob).zero 247 = [.v .nilFunc] := rfl
@[simp] theorem td_248 (glob : Nat → Option (List D)) : (mkCtx tab glob).td 248 = .ptr 231 := rfl
@[simp] theorem sz_248 (glob : Nat → Option (List D)) : (mkCtx tab glob).sz 248 = 1 := rfl
@[simp] theorem ze_248 (glob : Nat → Option (List D)) : (mkCtx tab glob).zero 248 = [.v (.pointer none)] := rfl
@[simp] theorem td_249 (glob : Nat → Option (List D)) : (mkCtx tab glob).td 249 = .func := rfl
@[simp] theorem sz_249 (glob : Nat → Option (List D)) : (mkCtx tab glob).sz 249 = 1 := rfl
@[simp] theorem ze_249 (glob : Nat → Option (List D)) : (mkCtx tab glob).zero 249 = [.v .nilFunc] := rfl
@[simp] theorem td_250 (glob : Nat → Option (List D)) : (mkCtx tab glob).td 250 = .func := rfl
@[simp] theorem sz_250 (glob : Nat → Option (List D)) : (mkCtx tab glob).sz 250 = 1 := rfl
@[simp] theorem ze_250 (glob : Nat → Option (List D)) : (mkCtx tab glob).zero 250 = [.v .nilFunc] := rfl
@[simp] theorem td_251 (glob : Nat → Option (List D)) : (mkCtx tab glob).td 251 = .slice 5 := rfl
@[simp] theorem sz_251 (glob : Nat → Option (List D)) : (mkCtx tab glob).sz 251 = 1 := rfl
@[simp] theorem ze_251 (glob : Nat → Option (List D)) : (mkCtx tab glob).zero 251 = [.sl 1 []] := rfl
@[simp] theorem td_252 (glob : Nat → Option (List D)) : (mkCtx tab glob).td 252 = .ptr 256 := rfl
@[simp] theorem sz_252 (glob : Nat → Option (List D)) : (mkCtx tab glob).sz 252 = 1 := rfl
@[simp] theorem ze_252 (glob : Nat → Option (List D)) : (mkCtx tab glob).zero 252 = [.v (.pointer none)] := rfl
@[simp] theorem td_253 (glob : Nat → Option (List D)) : (mkCtx tab glob).td 253 = .slice 267 := rfl
@[simp] theorem sz_253 (glob : Nat → Option (List D)) : (mkCtx tab glob).sz 253 = 1 := rfl
@[simp] theorem ze_253 (glob : Nat → Option (List D)) : (mkCtx tab glob).zero 253 = [.sl 21 []] := rfl
@[simp] theorem td_254 (glob : Nat → Option (List D)) : (mkCtx tab glob).td 254 = .ptr 258 := rfl
@[simp] theorem sz_254 (glob : Nat → Option (List D)) : (mkCtx tab glob).sz 254 = 1 := rfl
@[simp] theorem ze_254 (glob : Nat → Option (List D)) : (mkCtx tab glob).zero 254 = [.v (.pointer none)] := rfl
@[simp] theorem td_255 (glob : Nat → Option (List D)) : (mkCtx tab glob).td 255 = .strct [(149, 0), (9, 1), (3, 2), (61, 3), (253, 4), (254, 5)] := rfl
@[simp] theorem sz_255 (glob : Nat → Option (List D)) : (mkCtx tab glob).sz 255 = 6 := rfl
@[simp] theorem eq_255 (glob : Nat → Option (List D)) : (mkCtx tab glob).eqt 255 = [] := rfl
@[simp] theorem ze_255 (glob : Nat → Option (List D)) : (mkCtx tab glob).zero 255 = [.sl 7 [], .s [], .v (.int .i64 0), .sl 1 [], .sl 21 [], .v (.pointer none)] := rfl
@[simp] theorem td_256 (glob : Nat → Option (List D)) : (mkCtx tab glob).td 256 = .strct [(149, 0), (9, 1), (3, 2), (61, 3), (253, 4), (254, 5)] := rfl
@[simp] theorem sz_256 (glob : Nat → Option (List D)) : (mkCtx tab glob).sz 256 = 6 := rfl
@[simp] theorem eq_256 (glob : Nat → Option (List D)) : (mkCtx tab glob).eqt 256 = [] := rfl
@[simp] theorem ze_256 (glob : Nat → Option (List D)) : (mkCtx tab glob).zero 256 = [.sl 7 [], .s [], .v (.int .i64 0), .sl 1 [], .sl 21 [], .v (.pointer none)] := rfl
@[simp] theorem td_257 (glob : Nat → Option (List D)) : (mkCtx tab glob).td 257 = .arr 20 3 := rfl
@[simp] theorem sz_257 (glob : Nat → Option (List D)) : (mkCtx tab glob).sz 257 = 20 := rfl
@[simp] theorem ze_257 (glob : Nat → Option (List D)) : (mkCtx tab glob).zero 257 = [.v (.int .i64 0), .v (.int .i64 0), .v (.int .i64 0), .v (.int .i64 0), .v (.int .i64 0), .v (.int .i64 0), .v (.int .i64 0), .v (.int .i64 0), .v (.int .i64 0), .v (.int .i64 0), .v (.int .i64 0), .v (.int .i64 0), .v (.int .i64 0), .v (.int .i64 0), .v (.int .i64 0), .v (.int .i64 0), .v (.int .i64 0), .v (.int .i64 0), .v (.int .i64 0), .v (.int .i64 0)] := rfl
@[simp] theorem td_258 (glob : Nat → Option (List D)) : (mkCtx tab glob).td 258 = .arr 20 3 := rfl
@[simp] theorem sz_258 (glob : Nat → Option (List D)) : (mkCtx tab glob).sz 258 = 20 := rfl
@[simp] theorem ze_258 (glob : Nat → Option (List D)) : (mkCtx tab glob).zero 258 = [.v (.int .i64 0), .v (.int .i64 0), .v (.int .i64 0), .v (.int .i64 0), .v (.int .i64 0), .v (.int .i64 0), .v (.int .i64 0), .v (.int .i64 0), .v (.int .i64 0), .v (.int .i64 0), .v (.int .i64 0), .v (.int .i64 0), .v (.int .i64 0), .v (.int .i64 0), .v (.int .i64 0), .v (.int .i64 0), .v (.int .i64 0), .v (.int .i64 0), .v (.int .i64 0), .v (.int .i64 0)] := rfl
@[simp] theorem td_259 (glob : Nat → Option (List D)) : (mkCtx tab glob).td 259 = .func := rfl
@[simp] theorem sz_259 (glob : Nat → Option (List D)) : (mkCtx tab glob).sz 259 = 1 := rfl
@[simp] theorem ze_259 (glob : Nat → Option (List D)) : (mkCtx tab glob).zero 259 = [.v .nilFunc] := rfl
@[simp] theorem td_260 (glob : Nat → Option (List D)) : (mkCtx tab glob).td 260 = .func := rfl
@[simp] theorem sz_260 (glob : Nat → Option (List D)) : (mkCtx tab glob).sz 260 = 1 := rfl
@[simp] theorem ze_260 (glob : Nat → Option (List D)) : (mkCtx tab glob).zero 260 = [.v .nilFunc] := rfl
@[simp] theorem td_261 (glob : Nat → Option (List D)) : (mkCtx tab glob).td 261 = .func := rfl
@[simp] theorem sz_261 (glob : Nat → Option (List D)) : (mkCtx tab glob).sz 261 = 1 := rfl
@[simp] theorem ze_261 (glob : Nat → Option (List D)) : (mkCtx tab glob).zero 261 = [.v .nilFunc] := rfl
@[simp] theorem td_262 (glob : Nat → Option (List D)) : (mkCtx tab glob).td 262 = .func := rfl
@[simp] theorem sz_262 (glob : Nat → Option (List D)) : (mkCtx tab glob).sz 262 = 1 := rfl
@[simp] theorem ze_262 (glob : Nat → Option (List D)) : (mkCtx tab glob).zero 262 = [.v .nilFunc] := rfl
@[simp] theorem td_263 (glob : Nat → Option (List D)) : (mkCtx tab glob).td 263 = .func := rfl
@[simp] theorem sz_263 (glob : Nat → Option (List D)) : (mkCtx tab glob).sz 263 = 1 := rfl
@[simp] theorem ze_263 (glob : Nat → Option (List D)) : (mkCtx tab glob).zero 263 = [.v .nilFunc] := rfl
@[simp] theorem td_264 (glob : Nat → Option (List D)) : (mkCtx tab glob).td 264 = .func := rfl
@[simp] theorem sz_264 (glob : Nat → Option (List D)) : (mkCtx tab glob).sz 264 = 1 := rfl
@[simp] theorem ze_264 (glob : Nat → Option (List D)) : (mkCtx tab glob).zero 264 = [.v .nilFunc] := rfl
@[simp] theorem td_265 (glob : Nat → Option (List D)) : (mkCtx tab glob).td 265 = .func := rfl
@[simp] theorem sz_265 (glob : Nat → Option (List D)) : (mkCtx tab glob).sz 265 = 1 := rfl
@[simp] theorem ze_265 (glob : Nat → Option (List D)) : (mkCtx tab glob).zero 265 = [.v .nilFunc] := rfl
@[simp] theorem td_266 (glob : Nat → Option (List D)) : (mkCtx tab glob).td 266 = .strct [(3, 0), (258, 1)] := rfl
@[simp] theorem sz_266 (glob : Nat → Option (List D)) : (mkCtx tab glob).sz 266 = 21 := rfl
@[simp] theorem eq_266 (glob : Nat → Option (List D)) : (mkCtx tab glob).eqt 266 = [] := rfl
@[simp] theorem ze_266 (glob : Nat → Option (List D)) : (mkCtx tab glob).zero 266 = [.v (.int .i64 0), .v (.int .i64 0), .v (.int .i64 0), .v (.int .i64 0), .v (.int .i64 0), .v (.int .i64 0), .v (.int .i64 0), .v (.int .i64 0), .v (.int .i64 0), .v (.int .i64 0), .v (.int .i64 0), .v (.int .i64 0), .v (.int .i64 0), .v (.int .i64 0), .v (.int .i64 0), .v (.int .i64 0), .v (.int .i64 0), .v (.int .i64 0), .v (.int .i64 0), .v (.int .i64 0), .v (.int .i64 0)] := rfl
@[simp] theorem td_267 (glob : Nat → Option (List D)) : (mkCtx tab glob).td 267 = .strct [(3, 0), (258, 1)] := rfl
@[simp] theorem sz_267 (glob : Nat → Option (List D)) : (mkCtx tab glob).sz 267 = 21 := rfl
@[simp] theorem eq_267 (glob : Nat → Option (List D)) : (mkCtx tab glob).eqt 267 = [] := rfl
@[simp] theorem ze_267 (glob : Nat → Option (List D)) : (mkCtx tab glob).zero 267 = [.v (.int .i64 0), .v (.int .i64 0), .v (.int .i64 0), .v (.int .i64 0), .v (.int .i64 0), .v (.int .i64 0), .v (.int .i64 0), .v (.int .i64 0), .v (.int .i64 0), .v (.int .i64 0), .v (.int .i64 0), .v (.int .i64 0), .v (.int .i64 0), .v (.int .i64 0), .v (.int .i64 0), .v (.int .i64 0), .v (.int .i64 0), .v (.int .i64 0), .v (.int .i64 0), .v (.int .i64 0), .v (.int .i64 0)] := rfl
@[simp] theorem td_268 (glob : Nat → Option (List D)) : (mkCtx tab glob).td 268 = .func := rfl
@[simp] theorem sz_268 (glob : Nat → Option (List D)) : (mkCtx tab glob).sz 268 = 1 := rfl
@[simp] theorem ze_268 (glob : Nat → Option (List D)) : (mkCtx tab glob).zero 268 = [.v .nilFunc] := rfl
@[simp] theorem td_269 (glob : Nat → Option (List D)) : (mkCtx tab glob).td 269 = .func := rfl
@[simp] theorem sz_269 (glob : Nat → Option (List D)) : (mkCtx tab glob).sz 269 = 1 := rfl
@[simp] theorem ze_269 (glob : Nat → Option (List D)) : (mkCtx tab glob).zero 269 = [.v .nilFunc] := rfl
@[simp] theorem td_270 (glob : Nat → Option (List D)) : (mkCtx tab glob).td 270 = .func := rfl
@[simp] theorem sz_270 (glob : Nat → Option (List D)) : (mkCtx tab glob).sz 270 = 1 := rfl
@[simp] theorem ze_270 (glob : Nat → Option (List D)) : (mkCtx tab glob).zero 270 = [.v .nilFunc] := rfl
@[simp] theorem td_271 (glob : Nat → Option (List D)) : (mkCtx tab glob).td 271 = .func := rfl
@[simp] theorem sz_271 (glob : Nat → Option (List D)) : (mkCtx tab glob).sz 271 = 1 := rfl
@[simp] theorem ze_271 (glob : Nat → Option (List D)) : (mkCtx tab glob).zero 271 = [.v .nilFunc] := rfl
@[simp] theorem td_272 (glob : Nat → Option (List D)) : (mkCtx tab glob).td 272 = .func := rfl
@[simp] theorem sz_272 (glob : Nat → Option (List D)) : (mkCtx tab glob).sz 272 = 1 := rfl
@[simp] theorem ze_272 (glob : Nat → Option (List D)) : (mkCtx tab glob).zero 272 = [.v .nilFunc] := rfl
@[simp] theorem td_273 (glob : Nat → Option (List D)) : (mkCtx tab glob).td 273 = .ptr 293 := rfl
@[simp] theorem sz_273 (glob : Nat → Option (List D)) : (mkCtx tab glob).sz 273 = 1 := rfl
@[simp] theorem ze_273 (glob : Nat → Option (List D)) : (mkCtx tab glob).zero 273 = [.v (.pointer none)] := rfl
@[simp] theorem td_274 (glob : Nat → Option (List D)) : (mkCtx tab glob).td 274 = .strct [(17, 0), (17, 1), (17, 2), (9, 3)] := rfl
@[simp] theorem sz_274 (glob : Nat → Option (List D)) : (mkCtx tab glob).sz 274 = 4 := rfl
@[simp] theorem eq_274 (glob : Nat → Option (List D)) : (mkCtx tab glob).eqt 274 = [] := rfl
@[simp] theorem ze_274 (glob : Nat → Option (List D)) : (mkCtx tab glob).zero 274 = [.v (.pointer none), .v (.pointer none), .v (.pointer none), .s []] := rfl
@[simp] theorem td_275 (glob : Nat → Option (List D)) : (mkCtx tab glob).td 275 = .strct [(17, 0), (17, 1), (17, 2), (9, 3)] := rfl
@[simp] theorem sz_275 (glob : Nat → Option (List D)) : (mkCtx tab glob).sz 275 = 4 := rfl
@[simp] theorem eq_275 (glob : Nat → Option (List D)) : (mkCtx tab glob).eqt 275 = [] := rfl
@[simp] theorem ze_275 (glob : Nat → Option (List D)) : (mkCtx tab glob).zero 275 = [.v (.pointer none), .v (.pointer none), .v (.pointer none), .s []] := rfl
@[simp] theorem td_276 (glob : Nat → Option (List D)) : (mkCtx tab glob).td 276 = .arr 0 16 := rfl
@[simp] theorem sz_276 (glob : Nat → Option (List D)) : (mkCtx tab glob).sz 276 = 0 := rfl
@[simp] theorem ze_276 (glob : Nat → Option (List D)) : (mkCtx tab glob).zero 276 = [] := rfl
@[simp] theorem td_279 (glob : Nat → Option (List D)) : (mkCtx tab glob).td 279 = .func := rfl
@[simp] theorem sz_279 (glob : Nat → Option (List D)) : (mkCtx tab glob).sz 279 = 1 := rfl
@[simp] theorem ze_279 (glob : Nat → Option (List D)) : (mkCtx tab glob).zero 279 = [.v .nilFunc] := rfl
@[simp] theorem td_280 (glob : Nat → Option (List D)) : (mkCtx tab glob).td 280 = .int .u8 := rfl
@[simp] theorem sz_280 (glob : Nat → Option (List D)) : (mkCtx tab glob).sz 280 = 1 := rfl
@[simp] theorem ze_280 (glob : Nat → Option (List D)) : (mkCtx tab glob).zero 280 = [.v (.int .u8 0)] := rfl
@[simp] theorem td_281 (glob : Nat → Option (List D)) : (mkCtx tab glob).td 281 = .func := rfl
@[simp] theorem sz_281 (glob : Nat → Option (List D)) : (mkCtx tab glob).sz 281 = 1 := rfl
@[simp] theorem ze_281 (glob : Nat → Option (List D)) : (mkCtx tab glob).zero 281 = [.v .nilFunc] := rfl
@[simp] theorem td_282 (glob : Nat → Option (List D)) : (mkCtx tab glob).td 282 = .ptr 5 := rfl
@[simp] theorem sz_282 (glob : Nat → Option (List D)) : (mkCtx tab glob).sz 282 = 1 := rfl
@[simp] theorem ze_282 (glob : Nat → Option (List D)) : (mkCtx tab glob).zero 282 = [.v (.pointer none)] := rfl
@[simp] theorem td_283 (glob : Nat → Option (List D)) : (mkCtx tab glob).td 283 = .int .i32 := rfl
@[simp] theorem sz_283 (glob : Nat → Option (List D)) : (mkCtx tab glob).sz 283 = 1 := rfl
@[simp] theorem ze_283 (glob : Nat → Option (List D)) : (mkCtx tab glob).zero 283 = [.v (.int .i32 0)] := rfl
@[simp] theorem td_284 (glob : Nat → Option (List D)) : (mkCtx tab glob).td 284 = .int .i32 := rfl
@[simp] theorem sz_284 (glob : Nat → Option (List D)) : (mkCtx tab glob).sz 284 = 1 := rfl
@[simp] theorem ze_284 (glob : Nat → Option (List D)) : (mkCtx tab glob).zero 284 = [.v (.int .i32 0)] := rfl
@[simp] theorem td_285 (glob : Nat → Option (List D)) : (mkCtx tab glob).td 285 = .strct [(12, 0), (12, 1), (210, 2), (280, 3), (5, 4), (5, 5), (94, 6), (281, 7), (282, 8), (283, 9), (284, 10)] := rfl
@[simp] theorem sz_285 (glob : Nat → Option (List D)) : (mkCtx tab glob).sz 285 = 11 := rfl
@[simp] theorem eq_285 (glob : Nat → Option (List D)) : (mkCtx tab glob).eqt 285 = [] := rfl
@[simp] theorem ze_285 (glob : Nat → Option (List D)) : (mkCtx tab glob).zero 285 = [.v (.int .u64 0), .v (.int .u64 0), .v (.int .u32 0), .v (.int .u8 0), .v (.int .u8 0), .v (.int .u8 0), .v (.int .u8 0), .v .nilFunc, .v (.pointer none), .v (.int .i32 0), .v (.int .i32 0)] := rfl
@[simp] theorem td_286 (glob : Nat → Option (List D)) : (mkCtx tab glob).td 286 = .strct [(12, 0), (12, 1), (210, 2), (280, 3), (5, 4), (5, 5), (94, 6), (281, 7), (282, 8), (283, 9), (284, 10)] := rfl
@[simp] theorem sz_286 (glob : Nat → Option (List D)) : (mkCtx tab glob).sz 286 = 11 := rfl
@[simp] theorem eq_286 (glob : Nat → Option (List D)) : (mkCtx tab glob).eqt 286 = [] := rfl
@[simp] theorem ze_286 (glob : Nat → Option (List D)) : (mkCtx tab glob).zero 286 = [.v (.int .u64 0), .v (.int .u64 0), .v (.int .u32 0), .v (.int .u8 0), .v (.int .u8 0), .v (.int .u8 0), .v (.int .u8 0), .v .nilFunc, .v (.pointer none), .v (.int .i32 0), .v (.int .i32 0)] := rfl
@[simp] theorem td_287 (glob : Nat → Option (List D)) : (mkCtx tab glob).td 287 = .func := rfl
@[simp] theorem sz_287 (glob : Nat → Option (List D)) : (mkCtx tab glob).sz 287 = 1 := rfl
@[simp] theorem ze_287 (glob : Nat → Option (List D)) : (mkCtx tab glob).zero 287 = [.v .nilFunc] := rfl
@[simp] theorem td_288 (glob : Nat → Option (List D)) : (mkCtx tab glob).td 288 = .func := rfl
@[simp] theorem sz_288 (glob : Nat → Option (List D)) : (mkCtx tab glob).sz 288 = 1 := rfl
@[simp] theorem ze_288 (glob : Nat → Option (List D)) : (mkCtx tab glob).zero 288 = [.v .nilFunc] := rfl
@[simp] theorem td_289 (glob : Nat → Option (List D)) : (mkCtx tab glob).td 289 = .strct [(9, 0), (94, 1)] := rfl
@[simp] theorem sz_289 (glob : Nat → Option (List D)) : (mkCtx tab glob).sz 289 = 2 := rfl
@[simp] theorem eq_289 (glob : Nat → Option (List D)) : (mkCtx tab glob).eqt 289 = [] := rfl
@[simp] theorem ze_289 (glob : Nat → Option (List D)) : (mkCtx tab glob).zero 289 = [.s [], .v (.int .u8 0)] := rfl
@[simp] theorem td_290 (glob : Nat → Option (List D)) : (mkCtx tab glob).td 290 = .strct [(9, 0), (94, 1)] := rfl
@[simp] theorem sz_290 (glob : Nat → Option (List D)) : (mkCtx tab glob).sz 290 = 2 := rfl
@[simp] theorem eq_290 (glob : Nat → Option (List D)) : (mkCtx tab glob).eqt 290 = [] := rfl
@[simp] theorem ze_290 (glob : Nat → Option (List D)) : (mkCtx tab glob).zero 290 = [.s [], .v (.int .u8 0)] := rfl
@[simp] theorem td_291 (glob : Nat → Option (List D)) : (mkCtx tab glob).td 291 = .func := rfl
@[simp] theorem sz_291 (glob : Nat → Option (List D)) : (mkCtx tab glob).sz 291 = 1 := rfl
@[simp] theorem ze_291 (glob : Nat → Option (List D)) : (mkCtx tab glob).zero 291 = [.v .nilFunc] := rfl
@[simp] theorem td_292 (glob : Nat → Option (List D)) : (mkCtx tab glob).td 292 = .strct [(9, 0)] := rfl
@[simp] theorem sz_292 (glob : Nat → Option (List D)) : (mkCtx tab glob).sz 292 = 1 := rfl
@[simp] theorem eq_292 (glob : Nat → Option (List D)) : (mkCtx tab glob).eqt 292 = [] := rfl
@[simp] theorem ze_292 (glob : Nat → Option (List D)) : (mkCtx tab glob).zero 292 = [.s []] := rfl
@[simp] theorem td_293 (glob : Nat → Option (List D)) : (mkCtx tab glob).td 293 = .strct [(9, 0)] := rfl
@[simp] theorem sz_293 (glob : Nat → Option (List D)) : (mkCtx tab glob).sz 293 = 1 := rfl
@[simp] theorem eq_293 (glob : Nat → Option (List D)) : (mkCtx tab glob).eqt 293 = [] := rfl
@[simp] theorem ze_293 (glob : Nat → Option (List D)) : (mkCtx tab glob).zero 293 = [.s []] := rfl
@[simp] theorem td_294 (glob : Nat → Option (List D)) : (mkCtx tab glob).td 294 = .ptr 298 := rfl
@[simp] theorem sz_294 (glob : Nat → Option (List D)) : (mkCtx tab glob).sz 294 = 1 := rfl
@[simp] theorem ze_294 (glob : Nat → Option (List D)) : (mkCtx tab glob).zero 294 = [.v (.pointer none)] := rfl
@[simp] theorem td_295 (glob : Nat → Option (List D)) : (mkCtx tab glob).td 295 = .func := rfl
@[simp] theorem sz_295 (glob : Nat → Option (List D)) : (mkCtx tab glob).sz 295 = 1 := rfl
@[simp] theorem ze_295 (glob : Nat → Option (List D)) : (mkCtx tab glob).zero 295 = [.v .nilFunc] := rfl
@[simp] theorem td_296 (glob : Nat → Option (List D)) : (mkCtx tab glob).td 296 = .int .u16 := rfl
@[simp] theorem sz_296 (glob : Nat → Option (List D)) : (mkCtx tab glob).sz 296 = 1 := rfl
@[simp] theorem ze_296 (glob : Nat → Option (List D)) : (mkCtx tab glob).zero 296 = [.v (.int .u16 0)] := rfl
@[simp] theorem td_297 (glob : Nat → Option (List D)) : (mkCtx tab glob).td 297 = .strct [(283, 0), (296, 1), (296, 2), (210, 3), (210, 4)] := rfl
@[simp] theorem sz_297 (glob : Nat → Option (List D)) : (mkCtx tab glob).sz 297 = 5 := rfl
@[simp] theorem eq_297 (glob : Nat → Option (List D)) : (mkCtx tab glob).eqt 297 = [] := rfl
@[simp] theorem ze_297 (glob : Nat → Option (List D)) : (mkCtx tab glob).zero 297 = [.v (.int .i32 0), .v (.int .u16 0), .v (.int .u16 0), .v (.int .u32 0), .v (.int .u32 0)] := rfl
@[simp] theorem td_298 (glob : Nat → Option (List D)) : (mkCtx tab glob).td 298 = .strct [(283, 0), (296, 1), (296, 2), (210, 3), (210, 4)] := rfl
@[simp] theorem sz_298 (glob : Nat → Option (List D)) : (mkCtx tab glob).sz 298 = 5 := rfl
@[simp] theorem eq_298 (glob : Nat → Option (List D)) : (mkCtx tab glob).eqt 298 = [] := rfl
@[simp] theorem ze_298 (glob : Nat → Option (List D)) : (mkCtx tab glob).zero 298 = [.v (.int .i32 0), .v (.int .u16 0), .v (.int .u16 0), .v (.int .u32 0), .v (.int .u32 0)] := rfl
@[simp] theorem td_299 (glob : Nat → Option (List D)) : (mkCtx tab glob).td 299 = .slice 302 := rfl
@[simp] theorem sz_299 (glob : Nat → Option (List D)) : (mkCtx tab glob).sz 299 = 1 := rfl
@[simp] theorem ze_299 (glob : Nat → Option (List D)) : (mkCtx tab glob).zero 299 = [.sl 4 []] := rfl
@[simp] theorem td_300 (glob : Nat → Option (List D)) : (mkCtx tab glob).td 300 = .int .i32 := rfl
@[simp] theorem sz_300 (glob : Nat → Option (List D)) : (mkCtx tab glob).sz 300 = 1 := rfl
@[simp] theorem ze_300 (glob : Nat → Option (List D)) : (mkCtx tab glob).zero 300 = [.v (.int .i32 0)] := rfl
@[simp] theorem td_301 (glob : Nat → Option (List D)) : (mkCtx tab glob).td 301 = .strct [(283, 0), (284, 1), (300, 2), (300, 3)] := rfl
@[simp] theorem sz_301 (glob : Nat → Option (List D)) : (mkCtx tab glob).sz 301 = 4 := rfl
@[simp] theorem eq_301 (glob : Nat → Option (List D)) : (mkCtx tab glob).eqt 301 = [] := rfl
@[simp] theorem ze_301 (glob : Nat → Option (List D)) : (mkCtx tab glob).zero 301 = [.v (.int .i32 0), .v (.int .i32 0), .v (.int .i32 0), .v (.int .i32 0)] := rfl
@[simp] theorem td_302 (glob : Nat → Option (List D)) : (mkCtx tab glob).td 302 = .strct [(283, 0), (284, 1), (300, 2), (300, 3)] := rfl
@[simp] theorem sz_302 (glob : Nat → Option (List D)) : (mkCtx tab glob).sz 302 = 4 := rfl
@[simp] theorem eq_302 (glob : Nat → Option (List D)) : (mkCtx tab glob).eqt 302 = [] := rfl
@[simp] theorem ze_302 (glob : Nat → Option (List D)) : (mkCtx tab glob).zero 302 = [.v (.int .i32 0), .v (.int .i32 0), .v (.int .i32 0), .v (.int .i32 0)] := rfl
@[simp] theorem td_303 (glob : Nat → Option (List D)) : (mkCtx tab glob).td 303 = .func := rfl
@[simp] theorem sz_303 (glob : Nat → Option (List D)) : (mkCtx tab glob).sz 303 = 1 := rfl
@[simp] theorem ze_303 (glob : Nat → Option (List D)) : (mkCtx tab glob).zero 303 = [.v .nilFunc] := rfl
@[simp] theorem td_304 (glob : Nat → Option (List D)) : (mkCtx tab glob).td 304 = .ptr 30 := rfl
@[simp] theorem sz_304 (glob : Nat → Option (List D)) : (mkCtx tab glob).sz 304 = 1 := rfl
@[simp] theorem ze_304 (glob : Nat → Option (List D)) : (mkCtx tab glob).zero 304 = [.v (.pointer none)] := rfl
@[simp] theorem cm_23 (glob : Nat → Option (List D)) : (mkCtx tab glob).cmp 23 = false := rfl
@[simp] theorem ha_23_146 (glob : Nat → Option (List D)) : (mkCtx tab glob).has 23 146 = some false := rfl
@[simp] theorem ha_23_144 (glob : Nat → Option (List D)) : (mkCtx tab glob).has 23 144 = some true := rfl
@[simp] theorem me_23_Unwrap (glob : Nat → Option (List D)) : (mkCtx tab glob).meth 23 "Unwrap" = some 9 := by kernel_rfl
@[simp] theorem cm_28 (glob : Nat → Option (List D)) : (mkCtx tab glob).cmp 28 = false := rfl
@[simp] theorem ha_28_146 (glob : Nat → Option (List D)) : (mkCtx tab glob).has 28 146 = some false := rfl
@[simp] theorem ha_28_144 (glob : Nat → Option (List D)) : (mkCtx tab glob).has 28 144 = some true := rfl
@[simp] theorem me_28_Unwrap (glob : Nat → Option (List D)) : (mkCtx tab glob).meth 28 "Unwrap" = some 209 := by kernel_rfl
@[simp] theorem cm_273 (glob : Nat → Option (List D)) : (mkCtx tab glob).cmp 273 = true := rfl
@[simp] theorem ha_273_146 (glob : Nat → Option (List D)) : (mkCtx tab glob).has 273 146 = some false := rfl
@[simp] theorem ha_273_144 (glob : Nat → Option (List D)) : (mkCtx tab glob).has 273 144 = some false := rfl
@[simp] theorem ha_273_145 (glob : Nat → Option (List D)) : (mkCtx tab glob).has 273 145 = some false := rfl
@[simp] theorem gl_any (glob : Nat → Option (List D)) (g : Nat) : (mkCtx tab glob).glob g = glob g := rfl

end Go.Ab
