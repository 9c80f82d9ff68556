/- One text of a proof that a law of this seat says true for every input: an evaluator of code over data, and that it tells the truth. It holds of the given program under the conditions that the row prints. -/
import Derived.Test.YtgflhnkakmdalaaGreatDoorAbC
import Derived.Test.YtgflhnkakmdalaaGreatDoorProg
set_option linter.unusedSimpArgs false
set_option linter.unusedVariables false
set_option linter.unusedSectionVars false
namespace Go.Ab
open Go.Proofs

/-- The types of the program, as far as the evaluator asks. -/
def tab : List TI := [
  ⟨.other, 0, [], [], false, [], []⟩,
  ⟨.func, 1, [.v .nilFunc], [], false, [], []⟩,
  ⟨.int .i64, 1, [.v (.int .i64 0)], [], false, [], []⟩,
  ⟨.int .i64, 1, [.v (.int .i64 0)], [], false, [], []⟩,
  ⟨.bool, 1, [.v (.bool false)], [], false, [], []⟩,
  ⟨.int .u8, 1, [.v (.int .u8 0)], [], false, [], []⟩,
  ⟨.int .u8, 1, [.v (.int .u8 0)], [], false, [], []⟩,
  ⟨.strct [(2, 0), (3, 1), (4, 2), (6, 3)], 4, [.v (.int .i64 0), .v (.int .i64 0), .v (.bool false), .v (.int .u8 0)], [], false, [], []⟩,
  ⟨.strct [(2, 0), (3, 1), (4, 2), (6, 3)], 4, [.v (.int .i64 0), .v (.int .i64 0), .v (.bool false), .v (.int .u8 0)], [], false, [], []⟩,
  ⟨.str, 1, [.s []], [], false, [], []⟩,
  ⟨.str, 1, [.s []], [], false, [], []⟩,
  ⟨.str, 1, [.s []], [], false, [], []⟩,
  ⟨.int .u64, 1, [.v (.int .u64 0)], [], false, [], []⟩,
  ⟨.strct [(9, 0), (12, 1)], 2, [.s [], .v (.int .u64 0)], [], false, [], []⟩,
  ⟨.strct [(9, 0), (12, 1)], 2, [.s [], .v (.int .u64 0)], [], false, [], []⟩,
  ⟨.ptr 235, 1, [.v (.pointer none)], [], false, [], []⟩,
  ⟨.ptr 238, 1, [.v (.pointer none)], [], false, [], []⟩,
  ⟨.ptr 246, 1, [.v (.pointer none)], [], false, [], []⟩,
  ⟨.strct [(17, 0)], 1, [.v (.pointer none)], [], false, [], []⟩,
  ⟨.strct [(17, 0)], 1, [.v (.pointer none)], [], false, [], []⟩,
  ⟨.iface true, 1, [.v .nilIface], [], false, [], []⟩,
  ⟨.int .i32, 1, [.v (.int .i32 0)], [], false, [], []⟩,
  ⟨.func, 1, [.v .nilFunc], [], false, [], []⟩,
  ⟨.int .u64, 1, [.v (.int .u64 0)], [], false, [], []⟩,
  ⟨.ptr 29, 1, [.v (.pointer none)], [], false, [(101, false), (98, true)], [("Unwrap", 11)]⟩,
  ⟨.iface false, 1, [.v .nilIface], [], false, [], []⟩,
  ⟨.iface false, 1, [.v .nilIface], [], false, [], []⟩,
  ⟨.func, 1, [.v .nilFunc], [], false, [], []⟩,
  ⟨.strct [(9, 0), (3, 1), (26, 2)], 3, [.s [], .v (.int .i64 0), .v .nilIface], [], false, [], []⟩,
  ⟨.strct [(9, 0), (3, 1), (26, 2)], 3, [.s [], .v (.int .i64 0), .v .nilIface], [], false, [], []⟩,
  ⟨.other, 0, [], [], false, [], []⟩,
  ⟨.func, 1, [.v .nilFunc], [], false, [], []⟩,
  ⟨.func, 1, [.v .nilFunc], [], false, [], []⟩,
  ⟨.slice 9, 1, [.sl 1 []], [], false, [], []⟩,
  ⟨.strct [(3, 0), (9, 1)], 2, [.v (.int .i64 0), .s []], [], false, [], []⟩,
  ⟨.strct [(3, 0), (9, 1)], 2, [.v (.int .i64 0), .s []], [.i, .s], false, [], []⟩,
  ⟨.strct [(33, 0), (33, 1), (35, 2), (9, 4), (9, 5), (3, 6)], 7, [.sl 1 [], .sl 1 [], .v (.int .i64 0), .s [], .s [], .s [], .v (.int .i64 0)], [], false, [], []⟩,
  ⟨.strct [(33, 0), (33, 1), (35, 2), (9, 4), (9, 5), (3, 6)], 7, [.sl 1 [], .sl 1 [], .v (.int .i64 0), .s [], .s [], .s [], .v (.int .i64 0)], [], false, [], []⟩,
  ⟨.func, 1, [.v .nilFunc], [], false, [], []⟩,
  ⟨.func, 1, [.v .nilFunc], [], false, [], []⟩,
  ⟨.func, 1, [.v .nilFunc], [], false, [], []⟩,
  ⟨.func, 1, [.v .nilFunc], [], false, [], []⟩,
  ⟨.func, 1, [.v .nilFunc], [], false, [], []⟩,
  ⟨.slice 37, 1, [.sl 7 []], [], false, [], []⟩,
  ⟨.other, 0, [], [], false, [], []⟩,
  ⟨.func, 1, [.v .nilFunc], [], false, [], []⟩,
  ⟨.ptr 65, 1, [.v (.pointer none)], [], false, [], []⟩,
  ⟨.func, 1, [.v .nilFunc], [], false, [], []⟩,
  ⟨.slice 26, 1, [.sl 1 []], [], false, [], []⟩,
  ⟨.func, 1, [.v .nilFunc], [], false, [], []⟩,
  ⟨.func, 1, [.v .nilFunc], [], false, [], []⟩,
  ⟨.ptr 24, 1, [.v (.pointer none)], [], false, [], []⟩,
  ⟨.func, 1, [.v .nilFunc], [], false, [], []⟩,
  ⟨.func, 1, [.v .nilFunc], [], false, [], []⟩,
  ⟨.ptr 193, 1, [.v (.pointer none)], [], false, [], []⟩,
  ⟨.slice 159, 1, [.sl 2 []], [], false, [], []⟩,
  ⟨.ptr 61, 1, [.v (.pointer none)], [], false, [], []⟩,
  ⟨.ptr 59, 1, [.v (.pointer none)], [], false, [], []⟩,
  ⟨.strct [(54, 0), (46, 1), (55, 2), (3, 3), (43, 4)], 5, [.v (.pointer none), .v (.pointer none), .sl 2 [], .v (.int .i64 0), .sl 7 []], [], false, [], []⟩,
  ⟨.strct [(54, 0), (46, 1), (55, 2), (3, 3), (43, 4)], 5, [.v (.pointer none), .v (.pointer none), .sl 2 [], .v (.int .i64 0), .sl 7 []], [], false, [], []⟩,
  ⟨.strct [(57, 0), (9, 1), (3, 2)], 3, [.v (.pointer none), .s [], .v (.int .i64 0)], [], false, [], []⟩,
  ⟨.strct [(57, 0), (9, 1), (3, 2)], 3, [.v (.pointer none), .s [], .v (.int .i64 0)], [], false, [], []⟩,
  ⟨.func, 1, [.v .nilFunc], [], false, [], []⟩,
  ⟨.map 9 132, 1, [.v (.map none)], [], false, [], []⟩,
  ⟨.strct [(63, 0)], 1, [.v (.map none)], [], false, [], []⟩,
  ⟨.strct [(63, 0)], 1, [.v (.map none)], [], false, [], []⟩,
  ⟨.other, 0, [], [], false, [], []⟩,
  ⟨.int .u64, 1, [.v (.int .u64 0)], [], false, [], []⟩,
  ⟨.other, 0, [], [], false, [], []⟩,
  ⟨.other, 0, [], [], false, [], []⟩,
  ⟨.func, 1, [.v .nilFunc], [], false, [], []⟩,
  ⟨.iface false, 1, [.v .nilIface], [], false, [], []⟩,
  ⟨.iface false, 1, [.v .nilIface], [], false, [], []⟩,
  ⟨.func, 1, [.v .nilFunc], [], false, [], []⟩,
  ⟨.int .u8, 1, [.v (.int .u8 0)], [], false, [], []⟩,
  ⟨.func, 1, [.v .nilFunc], [], false, [], []⟩,
  ⟨.func, 1, [.v .nilFunc], [], false, [], []⟩,
  ⟨.func, 1, [.v .nilFunc], [], false, [], []⟩,
  ⟨.func, 1, [.v .nilFunc], [], false, [], []⟩,
  ⟨.func, 1, [.v .nilFunc], [], false, [], []⟩,
  ⟨.slice 87, 1, [.sl 10 []], [], false, [], []⟩,
  ⟨.other, 0, [], [], false, [], []⟩,
  ⟨.func, 1, [.v .nilFunc], [], false, [], []⟩,
  ⟨.other, 0, [], [], false, [], []⟩,
  ⟨.func, 1, [.v .nilFunc], [], false, [], []⟩,
  ⟨.slice 183, 1, [.sl 1 []], [], false, [], []⟩,
  ⟨.strct [(3, 0), (3, 1), (9, 2), (85, 3), (85, 4), (35, 5), (9, 7), (4, 8), (4, 9)], 10, [.v (.int .i64 0), .v (.int .i64 0), .s [], .sl 1 [], .sl 1 [], .v (.int .i64 0), .s [], .s [], .v (.bool false), .v (.bool false)], [], false, [], []⟩,
  ⟨.strct [(3, 0), (3, 1), (9, 2), (85, 3), (85, 4), (35, 5), (9, 7), (4, 8), (4, 9)], 10, [.v (.int .i64 0), .v (.int .i64 0), .s [], .sl 1 [], .sl 1 [], .v (.int .i64 0), .s [], .s [], .v (.bool false), .v (.bool false)], [], false, [], []⟩,
  ⟨.func, 1, [.v .nilFunc], [], false, [], []⟩,
  ⟨.func, 1, [.v .nilFunc], [], false, [], []⟩,
  ⟨.strct [(17, 0)], 1, [.v (.pointer none)], [], false, [], []⟩,
  ⟨.strct [(17, 0)], 1, [.v (.pointer none)], [], false, [], []⟩,
  ⟨.ptr 250, 1, [.v (.pointer none)], [], false, [], []⟩,
  ⟨.func, 1, [.v .nilFunc], [], false, [], []⟩,
  ⟨.func, 1, [.v .nilFunc], [], false, [], []⟩,
  ⟨.iface false, 1, [.v .nilIface], [], false, [], []⟩,
  ⟨.other, 0, [], [], false, [], []⟩,
  ⟨.func, 1, [.v .nilFunc], [], false, [], []⟩,
  ⟨.iface false, 1, [.v .nilIface], [], false, [], []⟩,
  ⟨.iface false, 1, [.v .nilIface], [], false, [], []⟩,
  ⟨.func, 1, [.v .nilFunc], [], false, [], []⟩,
  ⟨.iface false, 1, [.v .nilIface], [], false, [], []⟩,
  ⟨.other, 0, [], [], false, [], []⟩,
  ⟨.func, 1, [.v .nilFunc], [], false, [], []⟩,
  ⟨.slice 121, 1, [.sl 3 []], [], false, [], []⟩,
  ⟨.other, 0, [], [], false, [], []⟩,
  ⟨.func, 1, [.v .nilFunc], [], false, [], []⟩,
  ⟨.func, 1, [.v .nilFunc], [], false, [], []⟩,
  ⟨.ptr 111, 1, [.v (.pointer none)], [], false, [(101, false), (98, true)], [("Unwrap", 199)]⟩,
  ⟨.ptr 108, 1, [.v (.pointer none)], [], false, [], []⟩,
  ⟨.strct [(3, 0), (26, 1)], 2, [.v (.int .i64 0), .v .nilIface], [], false, [], []⟩,
  ⟨.strct [(3, 0), (26, 1)], 2, [.v (.int .i64 0), .v .nilIface], [], false, [], []⟩,
  ⟨.arr 24 5, 24, [.v (.int .u8 0), .v (.int .u8 0), .v (.int .u8 0), .v (.int .u8 0), .v (.int .u8 0), .v (.int .u8 0), .v (.int .u8 0), .v (.int .u8 0), .v (.int .u8 0), .v (.int .u8 0), .v (.int .u8 0), .v (.int .u8 0), .v (.int .u8 0), .v (.int .u8 0), .v (.int .u8 0), .v (.int .u8 0), .v (.int .u8 0), .v (.int .u8 0), .v (.int .u8 0), .v (.int .u8 0), .v (.int .u8 0), .v (.int .u8 0), .v (.int .u8 0), .v (.int .u8 0)], [], false, [], []⟩,
  ⟨.int .u64, 1, [.v (.int .u64 0)], [], false, [], []⟩,
  ⟨.func, 1, [.v .nilFunc], [], false, [], []⟩,
  ⟨.func, 1, [.v .nilFunc], [], false, [], []⟩,
  ⟨.slice 5, 1, [.sl 1 []], [], false, [], []⟩,
  ⟨.other, 0, [], [], false, [], []⟩,
  ⟨.func, 1, [.v .nilFunc], [], false, [], []⟩,
  ⟨.func, 1, [.v .nilFunc], [], false, [], []⟩,
  ⟨.strct [(9, 0), (3, 1), (4, 2)], 3, [.s [], .v (.int .i64 0), .v (.bool false)], [], false, [], []⟩,
  ⟨.strct [(9, 0), (3, 1), (4, 2)], 3, [.s [], .v (.int .i64 0), .v (.bool false)], [], false, [], []⟩,
  ⟨.func, 1, [.v .nilFunc], [], false, [], []⟩,
  ⟨.other, 0, [], [], false, [], []⟩,
  ⟨.func, 1, [.v .nilFunc], [], false, [], []⟩,
  ⟨.func, 1, [.v .nilFunc], [], false, [], []⟩,
  ⟨.other, 0, [], [], false, [], []⟩,
  ⟨.func, 1, [.v .nilFunc], [], false, [], []⟩,
  ⟨.other, 0, [], [], false, [], []⟩,
  ⟨.func, 1, [.v .nilFunc], [], false, [], []⟩,
  ⟨.func, 1, [.v .nilFunc], [], false, [], []⟩,
  ⟨.strct [(9, 0), (33, 1), (3, 2), (4, 3)], 4, [.s [], .sl 1 [], .v (.int .i64 0), .v (.bool false)], [], false, [], []⟩,
  ⟨.strct [(9, 0), (33, 1), (3, 2), (4, 3)], 4, [.s [], .sl 1 [], .v (.int .i64 0), .v (.bool false)], [], false, [], []⟩,
  ⟨.other, 0, [], [], false, [], []⟩,
  ⟨.func, 1, [.v .nilFunc], [], false, [], []⟩,
  ⟨.func, 1, [.v .nilFunc], [], false, [], []⟩,
  ⟨.func, 1, [.v .nilFunc], [], false, [], []⟩,
  ⟨.func, 1, [.v .nilFunc], [], false, [], []⟩,
  ⟨.func, 1, [.v .nilFunc], [], false, [], []⟩,
  ⟨.arr 20 113, 20, [.v (.int .u64 0), .v (.int .u64 0), .v (.int .u64 0), .v (.int .u64 0), .v (.int .u64 0), .v (.int .u64 0), .v (.int .u64 0), .v (.int .u64 0), .v (.int .u64 0), .v (.int .u64 0), .v (.int .u64 0), .v (.int .u64 0), .v (.int .u64 0), .v (.int .u64 0), .v (.int .u64 0), .v (.int .u64 0), .v (.int .u64 0), .v (.int .u64 0), .v (.int .u64 0), .v (.int .u64 0)], [], false, [], []⟩,
  ⟨.int .u32, 1, [.v (.int .u32 0)], [], false, [], []⟩,
  ⟨.other, 0, [], [], false, [], []⟩,
  ⟨.func, 1, [.v .nilFunc], [], false, [], []⟩,
  ⟨.func, 1, [.v .nilFunc], [], false, [], []⟩,
  ⟨.func, 1, [.v .nilFunc], [], false, [], []⟩,
  ⟨.func, 1, [.v .nilFunc], [], false, [], []⟩,
  ⟨.func, 1, [.v .nilFunc], [], false, [], []⟩,
  ⟨.other, 0, [], [], false, [], []⟩,
  ⟨.func, 1, [.v .nilFunc], [], false, [], []⟩,
  ⟨.func, 1, [.v .nilFunc], [], false, [], []⟩,
  ⟨.func, 1, [.v .nilFunc], [], false, [], []⟩,
  ⟨.other, 0, [], [], false, [], []⟩,
  ⟨.func, 1, [.v .nilFunc], [], false, [], []⟩,
  ⟨.func, 1, [.v .nilFunc], [], false, [], []⟩,
  ⟨.func, 1, [.v .nilFunc], [], false, [], []⟩,
  ⟨.other, 0, [], [], false, [], []⟩,
  ⟨.func, 1, [.v .nilFunc], [], false, [], []⟩,
  ⟨.func, 1, [.v .nilFunc], [], false, [], []⟩,
  ⟨.strct [(9, 0), (9, 1)], 2, [.s [], .s []], [], false, [], []⟩,
  ⟨.strct [(9, 0), (9, 1)], 2, [.s [], .s []], [.s, .s], false, [], []⟩,
  ⟨.func, 1, [.v .nilFunc], [], false, [], []⟩,
  ⟨.strct [(9, 0), (9, 1), (3, 2)], 3, [.s [], .s [], .v (.int .i64 0)], [], false, [], []⟩,
  ⟨.strct [(9, 0), (9, 1), (3, 2)], 3, [.s [], .s [], .v (.int .i64 0)], [.s, .s, .i], false, [], []⟩,
  ⟨.other, 0, [], [], false, [], []⟩,
  ⟨.func, 1, [.v .nilFunc], [], false, [], []⟩,
  ⟨.func, 1, [.v .nilFunc], [], false, [], []⟩,
  ⟨.func, 1, [.v .nilFunc], [], false, [], []⟩,
  ⟨.func, 1, [.v .nilFunc], [], false, [], []⟩,
  ⟨.func, 1, [.v .nilFunc], [], false, [], []⟩,
  ⟨.other, 0, [], [], false, [], []⟩,
  ⟨.other, 0, [], [], false, [], []⟩,
  ⟨.other, 0, [], [], false, [], []⟩,
  ⟨.func, 1, [.v .nilFunc], [], false, [], []⟩,
  ⟨.func, 1, [.v .nilFunc], [], false, [], []⟩,
  ⟨.ptr 170, 1, [.v (.pointer none)], [], false, [], []⟩,
  ⟨.ptr 177, 1, [.v (.pointer none)], [], false, [], []⟩,
  ⟨.strct [(9, 0), (3, 1), (26, 2)], 3, [.s [], .v (.int .i64 0), .v .nilIface], [], false, [], []⟩,
  ⟨.strct [(9, 0), (3, 1), (26, 2)], 3, [.s [], .v (.int .i64 0), .v .nilIface], [], false, [], []⟩,
  ⟨.func, 1, [.v .nilFunc], [], false, [], []⟩,
  ⟨.strct [(3, 0), (9, 1), (9, 2), (9, 3)], 4, [.v (.int .i64 0), .s [], .s [], .s []], [], false, [], []⟩,
  ⟨.strct [(3, 0), (9, 1), (9, 2), (9, 3)], 4, [.v (.int .i64 0), .s [], .s [], .s []], [.i, .s, .s, .s], false, [], []⟩,
  ⟨.func, 1, [.v .nilFunc], [], false, [], []⟩,
  ⟨.func, 1, [.v .nilFunc], [], false, [], []⟩,
  ⟨.slice 180, 1, [.sl 4 []], [], false, [], []⟩,
  ⟨.other, 0, [], [], false, [], []⟩,
  ⟨.func, 1, [.v .nilFunc], [], false, [], []⟩,
  ⟨.other, 0, [], [], false, [], []⟩,
  ⟨.func, 1, [.v .nilFunc], [], false, [], []⟩,
  ⟨.func, 1, [.v .nilFunc], [], false, [], []⟩,
  ⟨.func, 1, [.v .nilFunc], [], false, [], []⟩,
  ⟨.func, 1, [.v .nilFunc], [], false, [], []⟩,
  ⟨.map 9 162, 1, [.v (.map none)], [], false, [], []⟩,
  ⟨.strct [(191, 0)], 1, [.v (.map none)], [], false, [], []⟩,
  ⟨.strct [(191, 0)], 1, [.v (.map none)], [], false, [], []⟩,
  ⟨.arr 32 5, 32, [.v (.int .u8 0), .v (.int .u8 0), .v (.int .u8 0), .v (.int .u8 0), .v (.int .u8 0), .v (.int .u8 0), .v (.int .u8 0), .v (.int .u8 0), .v (.int .u8 0), .v (.int .u8 0), .v (.int .u8 0), .v (.int .u8 0), .v (.int .u8 0), .v (.int .u8 0), .v (.int .u8 0), .v (.int .u8 0), .v (.int .u8 0), .v (.int .u8 0), .v (.int .u8 0), .v (.int .u8 0), .v (.int .u8 0), .v (.int .u8 0), .v (.int .u8 0), .v (.int .u8 0), .v (.int .u8 0), .v (.int .u8 0), .v (.int .u8 0), .v (.int .u8 0), .v (.int .u8 0), .v (.int .u8 0), .v (.int .u8 0), .v (.int .u8 0)], [], false, [], []⟩,
  ⟨.other, 0, [], [], false, [], []⟩,
  ⟨.func, 1, [.v .nilFunc], [], false, [], []⟩,
  ⟨.func, 1, [.v .nilFunc], [], false, [], []⟩,
  ⟨.other, 0, [], [], false, [], []⟩,
  ⟨.func, 1, [.v .nilFunc], [], false, [], []⟩,
  ⟨.func, 1, [.v .nilFunc], [], false, [], []⟩,
  ⟨.func, 1, [.v .nilFunc], [], false, [], []⟩,
  ⟨.strct [(46, 0), (55, 1)], 2, [.v (.pointer none), .sl 2 []], [], false, [], []⟩,
  ⟨.strct [(46, 0), (55, 1)], 2, [.v (.pointer none), .sl 2 []], [], false, [], []⟩,
  ⟨.func, 1, [.v .nilFunc], [], false, [], []⟩,
  ⟨.func, 1, [.v .nilFunc], [], false, [], []⟩,
  ⟨.func, 1, [.v .nilFunc], [], false, [], []⟩,
  ⟨.func, 1, [.v .nilFunc], [], false, [], []⟩,
  ⟨.func, 1, [.v .nilFunc], [], false, [], []⟩,
  ⟨.func, 1, [.v .nilFunc], [], false, [], []⟩,
  ⟨.func, 1, [.v .nilFunc], [], false, [], []⟩,
  ⟨.func, 1, [.v .nilFunc], [], false, [], []⟩,
  ⟨.func, 1, [.v .nilFunc], [], false, [], []⟩,
  ⟨.func, 1, [.v .nilFunc], [], false, [], []⟩,
  ⟨.other, 0, [], [], false, [], []⟩,
  ⟨.strct [(5, 0), (5, 1)], 2, [.v (.int .u8 0), .v (.int .u8 0)], [], false, [], []⟩,
  ⟨.strct [(5, 0), (5, 1)], 2, [.v (.int .u8 0), .v (.int .u8 0)], [], false, [], []⟩,
  ⟨.arr 16 216, 32, [.v (.int .u8 0), .v (.int .u8 0), .v (.int .u8 0), .v (.int .u8 0), .v (.int .u8 0), .v (.int .u8 0), .v (.int .u8 0), .v (.int .u8 0), .v (.int .u8 0), .v (.int .u8 0), .v (.int .u8 0), .v (.int .u8 0), .v (.int .u8 0), .v (.int .u8 0), .v (.int .u8 0), .v (.int .u8 0), .v (.int .u8 0), .v (.int .u8 0), .v (.int .u8 0), .v (.int .u8 0), .v (.int .u8 0), .v (.int .u8 0), .v (.int .u8 0), .v (.int .u8 0), .v (.int .u8 0), .v (.int .u8 0), .v (.int .u8 0), .v (.int .u8 0), .v (.int .u8 0), .v (.int .u8 0), .v (.int .u8 0), .v (.int .u8 0)], [], false, [], []⟩,
  ⟨.func, 1, [.v .nilFunc], [], false, [], []⟩,
  ⟨.func, 1, [.v .nilFunc], [], false, [], []⟩,
  ⟨.func, 1, [.v .nilFunc], [], false, [], []⟩,
  ⟨.other, 0, [], [], false, [], []⟩,
  ⟨.func, 1, [.v .nilFunc], [], false, [], []⟩,
  ⟨.ptr 225, 1, [.v (.pointer none)], [], false, [], []⟩,
  ⟨.strct [(223, 0), (116, 1)], 2, [.v (.pointer none), .sl 1 []], [], false, [], []⟩,
  ⟨.strct [(223, 0), (116, 1)], 2, [.v (.pointer none), .sl 1 []], [], false, [], []⟩,
  ⟨.func, 1, [.v .nilFunc], [], false, [], []⟩,
  ⟨.other, 0, [], [], false, [], []⟩,
  ⟨.func, 1, [.v .nilFunc], [], false, [], []⟩,
  ⟨.ptr 5, 1, [.v (.pointer none)], [], false, [], []⟩,
  ⟨.func, 1, [.v .nilFunc], [], false, [], []⟩,
  ⟨.func, 1, [.v .nilFunc], [], false, [], []⟩,
  ⟨.func, 1, [.v .nilFunc], [], false, [], []⟩,
  ⟨.ptr 252, 1, [.v (.pointer none)], [], true, [(101, false), (98, false), (99, false)], []⟩,
  ⟨.strct [(17, 0), (17, 1), (17, 2), (9, 3)], 4, [.v (.pointer none), .v (.pointer none), .v (.pointer none), .s []], [], false, [], []⟩,
  ⟨.strct [(17, 0), (17, 1), (17, 2), (9, 3)], 4, [.v (.pointer none), .v (.pointer none), .v (.pointer none), .s []], [], false, [], []⟩,
  ⟨.arr 0 16, 0, [], [], false, [], []⟩,
  ⟨.other, 0, [], [], false, [], []⟩,
  ⟨.other, 0, [], [], false, [], []⟩,
  ⟨.func, 1, [.v .nilFunc], [], false, [], []⟩,
  ⟨.func, 1, [.v .nilFunc], [], false, [], []⟩,
  ⟨.int .u8, 1, [.v (.int .u8 0)], [], false, [], []⟩,
  ⟨.func, 1, [.v .nilFunc], [], false, [], []⟩,
  ⟨.int .i32, 1, [.v (.int .i32 0)], [], false, [], []⟩,
  ⟨.int .i32, 1, [.v (.int .i32 0)], [], false, [], []⟩,
  ⟨.strct [(12, 0), (12, 1), (140, 2), (241, 3), (5, 4), (5, 5), (74, 6), (242, 7), (229, 8), (243, 9), (244, 10)], 11, [.v (.int .u64 0), .v (.int .u64 0), .v (.int .u32 0), .v (.int .u8 0), .v (.int .u8 0), .v (.int .u8 0), .v (.int .u8 0), .v .nilFunc, .v (.pointer none), .v (.int .i32 0), .v (.int .i32 0)], [], false, [], []⟩,
  ⟨.strct [(12, 0), (12, 1), (140, 2), (241, 3), (5, 4), (5, 5), (74, 6), (242, 7), (229, 8), (243, 9), (244, 10)], 11, [.v (.int .u64 0), .v (.int .u64 0), .v (.int .u32 0), .v (.int .u8 0), .v (.int .u8 0), .v (.int .u8 0), .v (.int .u8 0), .v .nilFunc, .v (.pointer none), .v (.int .i32 0), .v (.int .i32 0)], [], false, [], []⟩,
  ⟨.func, 1, [.v .nilFunc], [], false, [], []⟩,
  ⟨.func, 1, [.v .nilFunc], [], false, [], []⟩,
  ⟨.strct [(9, 0), (74, 1)], 2, [.s [], .v (.int .u8 0)], [], false, [], []⟩,
  ⟨.strct [(9, 0), (74, 1)], 2, [.s [], .v (.int .u8 0)], [], false, [], []⟩,
  ⟨.strct [(9, 0)], 1, [.s []], [], false, [], []⟩,
  ⟨.strct [(9, 0)], 1, [.s []], [], false, [], []⟩,
  ⟨.ptr 257, 1, [.v (.pointer none)], [], false, [], []⟩,
  ⟨.func, 1, [.v .nilFunc], [], false, [], []⟩,
  ⟨.int .u16, 1, [.v (.int .u16 0)], [], false, [], []⟩,
  ⟨.strct [(243, 0), (255, 1), (255, 2), (140, 3), (140, 4)], 5, [.v (.int .i32 0), .v (.int .u16 0), .v (.int .u16 0), .v (.int .u32 0), .v (.int .u32 0)], [], false, [], []⟩,
  ⟨.strct [(243, 0), (255, 1), (255, 2), (140, 3), (140, 4)], 5, [.v (.int .i32 0), .v (.int .u16 0), .v (.int .u16 0), .v (.int .u32 0), .v (.int .u32 0)], [], false, [], []⟩,
  ⟨.slice 261, 1, [.sl 4 []], [], false, [], []⟩,
  ⟨.int .i32, 1, [.v (.int .i32 0)], [], false, [], []⟩,
  ⟨.strct [(243, 0), (244, 1), (259, 2), (259, 3)], 4, [.v (.int .i32 0), .v (.int .i32 0), .v (.int .i32 0), .v (.int .i32 0)], [], false, [], []⟩,
  ⟨.strct [(243, 0), (244, 1), (259, 2), (259, 3)], 4, [.v (.int .i32 0), .v (.int .i32 0), .v (.int .i32 0), .v (.int .i32 0)], [], false, [], []⟩,
  ⟨.ptr 26, 1, [.v (.pointer none)], [], false, [], []⟩]
theorem tab_ok : tabB Tryz.prog tab 0 tab = true := by kernel_rfl
theorem mixed_ok : Tryz.prog.follows .mixedOrders = true := by kernel_rfl
theorem eqs_ok : eqsB Tryz.prog 0 tab = true := by kernel_rfl
theorem dyns_ok : dynB Tryz.prog 0 tab = true := by kernel_rfl
def methL : List (TypeId × String × FuncId) := [(24, "Unwrap", 11), (108, "Unwrap", 199)]
theorem meths_in : methIn methL 0 tab = true := by kernel_rfl
theorem meths_run : ∀ z ∈ methL, ∀ (v : Value) (w : World), (Go.method (Tryz.prog.types.size + Made.depth) z.1 v z.2.1).run Tryz.prog w = .ok (z.2.2, v) w := by
  intro z hz v w
  simp only [methL, List.mem_cons, List.not_mem_nil, or_false] at hz
  rcases hz with rfl | rfl
  · kernel_rfl
  · kernel_rfl
theorem T_ok (glob : Nat → Option (List D)) : TOk Tryz.prog (mkCtx tab glob) := mk_ok glob tab_ok mixed_ok eqs_ok dyns_ok (meths_of meths_in meths_run)
@[simp] theorem td_1 (glob : Nat → Option (List D)) : (mkCtx tab glob).td 1 = .func := rfl
@[simp] theorem sz_1 (glob : Nat → Option (List D)) : (mkCtx tab glob).sz 1 = 1 := rfl
@[simp] theorem ze_1 (glob : Nat → Option (List D)) : (mkCtx tab glob).zero 1 = [.v .nilFunc] := rfl
@[simp] theorem td_2 (glob : Nat → Option (List D)) : (mkCtx tab glob).td 2 = .int .i64 := rfl
@[simp] theorem sz_2 (glob : Nat → Option (List D)) : (mkCtx tab glob).sz 2 = 1 := rfl
@[simp] theorem ze_2 (glob : Nat → Option (List D)) : (mkCtx tab glob).zero 2 = [.v (.int .i64 0)] := rfl
@[simp] theorem td_3 (glob : Nat → Option (List D)) : (mkCtx tab glob).td 3 = .int .i64 := rfl
@[simp] theorem sz_3 (glob : Nat → Option (List D)) : (mkCtx tab glob).sz 3 = 1 := rfl
@[simp] theorem ze_3 (glob : Nat → Option (List D)) : (mkCtx tab glob).zero 3 = [.v (.int .i64 0)] := rfl
@[simp] theorem td_4 (glob : Nat → Option (List D)) : (mkCtx tab glob).td 4 = .bool := rfl
@[simp] theorem sz_4 (glob : Nat → Option (List D)) : (mkCtx tab glob).sz 4 = 1 := rfl
@[simp] theorem ze_4 (glob : Nat → Option (List D)) : (mkCtx tab glob).zero 4 = [.v (.bool false)] := rfl
@[simp] theorem td_5 (glob : Nat → Option (List D)) : (mkCtx tab glob).td 5 = .int .u8 := rfl
@[simp] theorem sz_5 (glob : Nat → Option (List D)) : (mkCtx tab glob).sz 5 = 1 := rfl
@[simp] theorem ze_5 (glob : Nat → Option (List D)) : (mkCtx tab glob).zero 5 = [.v (.int .u8 0)] := rfl
@[simp] theorem td_6 (glob : Nat → Option (List D)) : (mkCtx tab glob).td 6 = .int .u8 := rfl
@[simp] theorem sz_6 (glob : Nat → Option (List D)) : (mkCtx tab glob).sz 6 = 1 := rfl
@[simp] theorem ze_6 (glob : Nat → Option (List D)) : (mkCtx tab glob).zero 6 = [.v (.int .u8 0)] := rfl
@[simp] theorem td_7 (glob : Nat → Option (List D)) : (mkCtx tab glob).td 7 = .strct [(2, 0), (3, 1), (4, 2), (6, 3)] := rfl
@[simp] theorem sz_7 (glob : Nat → Option (List D)) : (mkCtx tab glob).sz 7 = 4 := rfl
@[simp] theorem eq_7 (glob : Nat → Option (List D)) : (mkCtx tab glob).eqt 7 = [] := rfl
@[simp] theorem ze_7 (glob : Nat → Option (List D)) : (mkCtx tab glob).zero 7 = [.v (.int .i64 0), .v (.int .i64 0), .v (.bool false), .v (.int .u8 0)] := rfl
@[simp] theorem td_8 (glob : Nat → Option (List D)) : (mkCtx tab glob).td 8 = .strct [(2, 0), (3, 1), (4, 2), (6, 3)] := rfl
@[simp] theorem sz_8 (glob : Nat → Option (List D)) : (mkCtx tab glob).sz 8 = 4 := rfl
@[simp] theorem eq_8 (glob : Nat → Option (List D)) : (mkCtx tab glob).eqt 8 = [] := rfl
@[simp] theorem ze_8 (glob : Nat → Option (List D)) : (mkCtx tab glob).zero 8 = [.v (.int .i64 0), .v (.int .i64 0), .v (.bool false), .v (.int .u8 0)] := rfl
@[simp] theorem td_9 (glob : Nat → Option (List D)) : (mkCtx tab glob).td 9 = .str := rfl
@[simp] theorem sz_9 (glob : Nat → Option (List D)) : (mkCtx tab glob).sz 9 = 1 := rfl
@[simp] theorem ze_9 (glob : Nat → Option (List D)) : (mkCtx tab glob).zero 9 = [.s []] := rfl
@[simp] theorem td_10 (glob : Nat → Option (List D)) : (mkCtx tab glob).td 10 = .str := rfl
@[simp] theorem sz_10 (glob : Nat → Option (List D)) : (mkCtx tab glob).sz 10 = 1 := rfl
@[simp] theorem ze_10 (glob : Nat → Option (List D)) : (mkCtx tab glob).zero 10 = [.s []] := rfl
@[simp] theorem td_11 (glob : Nat → Option (List D)) : (mkCtx tab glob).td 11 = .str := rfl
@[simp] theorem sz_11 (glob : Nat → Option (List D)) : (mkCtx tab glob).sz 11 = 1 := rfl
@[simp] theorem ze_11 (glob : Nat → Option (List D)) : (mkCtx tab glob).zero 11 = [.s []] := rfl
@[simp] theorem td_12 (glob : Nat → Option (List D)) : (mkCtx tab glob).td 12 = .int .u64 := rfl
@[simp] theorem sz_12 (glob : Nat → Option (List D)) : (mkCtx tab glob).sz 12 = 1 := rfl
@[simp] theorem ze_12 (glob : Nat → Option (List D)) : (mkCtx tab glob).zero 12 = [.v (.int .u64 0)] := rfl
@[simp] theorem td_13 (glob : Nat → Option (List D)) : (mkCtx tab glob).td 13 = .strct [(9, 0), (12, 1)] := rfl
@[simp] theorem sz_13 (glob : Nat → Option (List D)) : (mkCtx tab glob).sz 13 = 2 := rfl
@[simp] theorem eq_13 (glob : Nat → Option (List D)) : (mkCtx tab glob).eqt 13 = [] := rfl
@[simp] theorem ze_13 (glob : Nat → Option (List D)) : (mkCtx tab glob).zero 13 = [.s [], .v (.int .u64 0)] := rfl
@[simp] theorem td_14 (glob : Nat → Option (List D)) : (mkCtx tab glob).td 14 = .strct [(9, 0), (12, 1)] := rfl
@[simp] theorem sz_14 (glob : Nat → Option (List D)) : (mkCtx tab glob).sz 14 = 2 := rfl
@[simp] theorem eq_14 (glob : Nat → Option (List D)) : (mkCtx tab glob).eqt 14 = [] := rfl
@[simp] theorem ze_14 (glob : Nat → Option (List D)) : (mkCtx tab glob).zero 14 = [.s [], .v (.int .u64 0)] := rfl
@[simp] theorem td_15 (glob : Nat → Option (List D)) : (mkCtx tab glob).td 15 = .ptr 235 := rfl
@[simp] theorem sz_15 (glob : Nat → Option (List D)) : (mkCtx tab glob).sz 15 = 1 := rfl
@[simp] theorem ze_15 (glob : Nat → Option (List D)) : (mkCtx tab glob).zero 15 = [.v (.pointer none)] := rfl
@[simp] theorem td_16 (glob : Nat → Option (List D)) : (mkCtx tab glob).td 16 = .ptr 238 := rfl
@[simp] theorem sz_16 (glob : Nat → Option (List D)) : (mkCtx tab glob).sz 16 = 1 := rfl
@[simp] theorem ze_16 (glob : Nat → Option (List D)) : (mkCtx tab glob).zero 16 = [.v (.pointer none)] := rfl
@[simp] theorem td_17 (glob : Nat → Option (List D)) : (mkCtx tab glob).td 17 = .ptr 246 := rfl
@[simp] theorem sz_17 (glob : Nat → Option (List D)) : (mkCtx tab glob).sz 17 = 1 := rfl
@[simp] theorem ze_17 (glob : Nat → Option (List D)) : (mkCtx tab glob).zero 17 = [.v (.pointer none)] := rfl
@[simp] theorem td_18 (glob : Nat → Option (List D)) : (mkCtx tab glob).td 18 = .strct [(17, 0)] := rfl
@[simp] theorem sz_18 (glob : Nat → Option (List D)) : (mkCtx tab glob).sz 18 = 1 := rfl
@[simp] theorem eq_18 (glob : Nat → Option (List D)) : (mkCtx tab glob).eqt 18 = [] := rfl
@[simp] theorem ze_18 (glob : Nat → Option (List D)) : (mkCtx tab glob).zero 18 = [.v (.pointer none)] := rfl
@[simp] theorem td_19 (glob : Nat → Option (List D)) : (mkCtx tab glob).td 19 = .strct [(17, 0)] := rfl
@[simp] theorem sz_19 (glob : Nat → Option (List D)) : (mkCtx tab glob).sz 19 = 1 := rfl
@[simp] theorem eq_19 (glob : Nat → Option (List D)) : (mkCtx tab glob).eqt 19 = [] := rfl
@[simp] theorem ze_19 (glob : Nat → Option (List D)) : (mkCtx tab glob).zero 19 = [.v (.pointer none)] := rfl
@[simp] theorem td_20 (glob : Nat → Option (List D)) : (mkCtx tab glob).td 20 = .iface true := rfl
@[simp] theorem sz_20 (glob : Nat → Option (List D)) : (mkCtx tab glob).sz 20 = 1 := rfl
@[simp] theorem ze_20 (glob : Nat → Option (List D)) : (mkCtx tab glob).zero 20 = [.v .nilIface] := rfl
@[simp] theorem td_21 (glob : Nat → Option (List D)) : (mkCtx tab glob).td 21 = .int .i32 := rfl
@[simp] theorem sz_21 (glob : Nat → Option (List D)) : (mkCtx tab glob).sz 21 = 1 := rfl
@[simp] theorem ze_21 (glob : Nat → Option (List D)) : (mkCtx tab glob).zero 21 = [.v (.int .i32 0)] := rfl
@[simp] theorem td_22 (glob : Nat → Option (List D)) : (mkCtx tab glob).td 22 = .func := rfl
@[simp] theorem sz_22 (glob : Nat → Option (List D)) : (mkCtx tab glob).sz 22 = 1 := rfl
@[simp] theorem ze_22 (glob : Nat → Option (List D)) : (mkCtx tab glob).zero 22 = [.v .nilFunc] := rfl
@[simp] theorem td_23 (glob : Nat → Option (List D)) : (mkCtx tab glob).td 23 = .int .u64 := rfl
@[simp] theorem sz_23 (glob : Nat → Option (List D)) : (mkCtx tab glob).sz 23 = 1 := rfl
@[simp] theorem ze_23 (glob : Nat → Option (List D)) : (mkCtx tab glob).zero 23 = [.v (.int .u64 0)] := rfl
@[simp] theorem td_24 (glob : Nat → Option (List D)) : (mkCtx tab glob).td 24 = .ptr 29 := rfl
@[simp] theorem sz_24 (glob : Nat → Option (List D)) : (mkCtx tab glob).sz 24 = 1 := rfl
@[simp] theorem ze_24 (glob : Nat → Option (List D)) : (mkCtx tab glob).zero 24 = [.v (.pointer none)] := rfl
@[simp] theorem td_25 (glob : Nat → Option (List D)) : (mkCtx tab glob).td 25 = .iface false := rfl
@[simp] theorem sz_25 (glob : Nat → Option (List D)) : (mkCtx tab glob).sz 25 = 1 := rfl
@[simp] theorem ze_25 (glob : Nat → Option (List D)) : (mkCtx tab glob).zero 25 = [.v .nilIface] := rfl
@[simp] theorem td_26 (glob : Nat → Option (List D)) : (mkCtx tab glob).td 26 = .iface false := rfl
@[simp] theorem sz_26 (glob : Nat → Option (List D)) : (mkCtx tab glob).sz 26 = 1 := rfl
@[simp] theorem ze_26 (glob : Nat → Option (List D)) : (mkCtx tab glob).zero 26 = [.v .nilIface] := rfl
@[simp] theorem td_27 (glob : Nat → Option (List D)) : (mkCtx tab glob).td 27 = .func := rfl
@[simp] theorem sz_27 (glob : Nat → Option (List D)) : (mkCtx tab glob).sz 27 = 1 := rfl
@[simp] theorem ze_27 (glob : Nat → Option (List D)) : (mkCtx tab glob).zero 27 = [.v .nilFunc] := rfl
@[simp] theorem td_28 (glob : Nat → Option (List D)) : (mkCtx tab glob).td 28 = .strct [(9, 0), (3, 1), (26, 2)] := rfl
@[simp] theorem sz_28 (glob : Nat → Option (List D)) : (mkCtx tab glob).sz 28 = 3 := rfl
@[simp] theorem eq_28 (glob : Nat → Option (List D)) : (mkCtx tab glob).eqt 28 = [] := rfl
@[simp] theorem ze_28 (glob : Nat → Option (List D)) : (mkCtx tab glob).zero 28 = [.s [], .v (.int .i64 0), .v .nilIface] := rfl
@[simp] theorem td_29 (glob : Nat → Option (List D)) : (mkCtx tab glob).td 29 = .strct [(9, 0), (3, 1), (26, 2)] := rfl
@[simp] theorem sz_29 (glob : Nat → Option (List D)) : (mkCtx tab glob).sz 29 = 3 := rfl
@[simp] theorem eq_29 (glob : Nat → Option (List D)) : (mkCtx tab glob).eqt 29 = [] := rfl
@[simp] theorem ze_29 (glob : Nat → Option (List D)) : (mkCtx tab glob).zero 29 = [.s [], .v (.int .i64 0), .v .nilIface] := rfl
@[simp] theorem td_31 (glob : Nat → Option (List D)) : (mkCtx tab glob).td 31 = .func := rfl
@[simp] theorem sz_31 (glob : Nat → Option (List D)) : (mkCtx tab glob).sz 31 = 1 := rfl
@[simp] theorem ze_31 (glob : Nat → Option (List D)) : (mkCtx tab glob).zero 31 = [.v .nilFunc] := rfl
@[simp] theorem td_32 (glob : Nat → Option (List D)) : (mkCtx tab glob).td 32 = .func := rfl
@[simp] theorem sz_32 (glob : Nat → Option (List D)) : (mkCtx tab glob).sz 32 = 1 := rfl
@[simp] theorem ze_32 (glob : Nat → Option (List D)) : (mkCtx tab glob).zero 32 = [.v .nilFunc] := rfl
@[simp] theorem td_33 (glob : Nat → Option (List D)) : (mkCtx tab glob).td 33 = .slice 9 := rfl
@[simp] theorem sz_33 (glob : Nat → Option (List D)) : (mkCtx tab glob).sz 33 = 1 := rfl
@[simp] theorem ze_33 (glob : Nat → Option (List D)) : (mkCtx tab glob).zero 33 = [.sl 1 []] := rfl
@[simp] theorem td_34 (glob : Nat → Option (List D)) : (mkCtx tab glob).td 34 = .strct [(3, 0), (9, 1)] := rfl
@[simp] theorem sz_34 (glob : Nat → Option (List D)) : (mkCtx tab glob).sz 34 = 2 := rfl
@[simp] theorem eq_34 (glob : Nat → Option (List D)) : (mkCtx tab glob).eqt 34 = [] := rfl
@[simp] theorem ze_34 (glob : Nat → Option (List D)) : (mkCtx tab glob).zero 34 = [.v (.int .i64 0), .s []] := rfl
@[simp] theorem td_35 (glob : Nat → Option (List D)) : (mkCtx tab glob).td 35 = .strct [(3, 0), (9, 1)] := rfl
@[simp] theorem sz_35 (glob : Nat → Option (List D)) : (mkCtx tab glob).sz 35 = 2 := rfl
@[simp] theorem eq_35 (glob : Nat → Option (List D)) : (mkCtx tab glob).eqt 35 = [.i, .s] := rfl
@[simp] theorem ze_35 (glob : Nat → Option (List D)) : (mkCtx tab glob).zero 35 = [.v (.int .i64 0), .s []] := rfl
@[simp] theorem td_36 (glob : Nat → Option (List D)) : (mkCtx tab glob).td 36 = .strct [(33, 0), (33, 1), (35, 2), (9, 4), (9, 5), (3, 6)] := rfl
@[simp] theorem sz_36 (glob : Nat → Option (List D)) : (mkCtx tab glob).sz 36 = 7 := rfl
@[simp] theorem eq_36 (glob : Nat → Option (List D)) : (mkCtx tab glob).eqt 36 = [] := rfl
@[simp] theorem ze_36 (glob : Nat → Option (List D)) : (mkCtx tab glob).zero 36 = [.sl 1 [], .sl 1 [], .v (.int .i64 0), .s [], .s [], .s [], .v (.int .i64 0)] := rfl
@[simp] theorem td_37 (glob : Nat → Option (List D)) : (mkCtx tab glob).td 37 = .strct [(33, 0), (33, 1), (35, 2), (9, 4), (9, 5), (3, 6)] := rfl
@[simp] theorem sz_37 (glob : Nat → Option (List D)) : (mkCtx tab glob).sz 37 = 7 := rfl
@[simp] theorem eq_37 (glob : Nat → Option (List D)) : (mkCtx tab glob).eqt 37 = [] := rfl
@[simp] theorem ze_37 (glob : Nat → Option (List D)) : (mkCtx tab glob).zero 37 = [.sl 1 [], .sl 1 [], .v (.int .i64 0), .s [], .s [], .s [], .v (.int .i64 0)] := rfl
@[simp] theorem td_38 (glob : Nat → Option (List D)) : (mkCtx tab glob).td 38 = .func := rfl
@[simp] theorem sz_38 (glob : Nat → Option (List D)) : (mkCtx tab glob).sz 38 = 1 := rfl
@[simp] theorem ze_38 (glob : Nat → Option (List D)) : (mkCtx tab glob).zero 38 = [.v .nilFunc] := rfl
@[simp] theorem td_39 (glob : Nat → Option (List D)) : (mkCtx tab glob).td 39 = .func := rfl
@[simp] theorem sz_39 (glob : Nat → Option (List D)) : (mkCtx tab glob).sz 39 = 1 := rfl
@[simp] theorem ze_39 (glob : Nat → Option (List D)) : (mkCtx tab glob).zero 39 = [.v .nilFunc] := rfl
@[simp] theorem td_40 (glob : Nat → Option (List D)) : (mkCtx tab glob).td 40 = .func := rfl
@[simp] theorem sz_40 (glob : Nat → Option (List D)) : (mkCtx tab glob).sz 40 = 1 := rfl
@[simp] theorem ze_40 (glob : Nat → Option (List D)) : (mkCtx tab glob).zero 40 = [.v .nilFunc] := rfl
@[simp] theorem td_41 (glob : Nat → Option (List D)) : (mkCtx tab glob).td 41 = .func := rfl
@[simp] theorem sz_41 (glob : Nat → Option (List D)) : (mkCtx tab glob).sz 41 = 1 := rfl
@[simp] theorem ze_41 (glob : Nat → Option (List D)) : (mkCtx tab glob).zero 41 = [.v .nilFunc] := rfl
@[simp] theorem td_42 (glob : Nat → Option (List D)) : (mkCtx tab glob).td 42 = .func := rfl
@[simp] theorem sz_42 (glob : Nat → Option (List D)) : (mkCtx tab glob).sz 42 = 1 := rfl
@[simp] theorem ze_42 (glob : Nat → Option (List D)) : (mkCtx tab glob).zero 42 = [.v .nilFunc] := rfl
@[simp] theorem td_43 (glob : Nat → Option (List D)) : (mkCtx tab glob).td 43 = .slice 37 := rfl
@[simp] theorem sz_43 (glob : Nat → Option (List D)) : (mkCtx tab glob).sz 43 = 1 := rfl
@[simp] theorem ze_43 (glob : Nat → Option (List D)) : (mkCtx tab glob).zero 43 = [.sl 7 []] := rfl
@[simp] theorem td_45 (glob : Nat → Option (List D)) : (mkCtx tab glob).td 45 = .func := rfl
@[simp] theorem sz_45 (glob : Nat → Option (List D)) : (mkCtx tab glob).sz 45 = 1 := rfl
@[simp] theorem ze_45 (glob : Nat → Option (List D)) : (mkCtx tab glob).zero 45 = [.v .nilFunc] := rfl
@[simp] theorem td_46 (glob : Nat → Option (List D)) : (mkCtx tab glob).td 46 = .ptr 65 := rfl
@[simp] theorem sz_46 (glob : Nat → Option (List D)) : (mkCtx tab glob).sz 46 = 1 := rfl
@[simp] theorem ze_46 (glob : Nat → Option (List D)) : (mkCtx tab glob).zero 46 = [.v (.pointer none)] := rfl
@[simp] theorem td_47 (glob : Nat → Option (List D)) : (mkCtx tab glob).td 47 = .func := rfl
@[simp] theorem sz_47 (glob : Nat → Option (List D)) : (mkCtx tab glob).sz 47 = 1 := rfl
@[simp] theorem ze_47 (glob : Nat → Option (List D)) : (mkCtx tab glob).zero 47 = [.v .nilFunc] := rfl
@[simp] theorem td_48 (glob : Nat → Option (List D)) : (mkCtx tab glob).td 48 = .slice 26 := rfl
@[simp] theorem sz_48 (glob : Nat → Option (List D)) : (mkCtx tab glob).sz 48 = 1 := rfl
@[simp] theorem ze_48 (glob : Nat → Option (List D)) : (mkCtx tab glob).zero 48 = [.sl 1 []] := rfl
@[simp] theorem td_49 (glob : Nat → Option (List D)) : (mkCtx tab glob).td 49 = .func := rfl
@[simp] theorem sz_49 (glob : Nat → Option (List D)) : (mkCtx tab glob).sz 49 = 1 := rfl
@[simp] theorem ze_49 (glob : Nat → Option (List D)) : (mkCtx tab glob).zero 49 = [.v .nilFunc] := rfl
@[simp] theorem td_50 (glob : Nat → Option (List D)) : (mkCtx tab glob).td 50 = .func := rfl
@[simp] theorem sz_50 (glob : Nat → Option (List D)) : (mkCtx tab glob).sz 50 = 1 := rfl
@[simp] theorem ze_50 (glob : Nat → Option (List D)) : (mkCtx tab glob).zero 50 = [.v .nilFunc] := rfl
@[simp] theorem td_51 (glob : Nat → Option (List D)) : (mkCtx tab glob).td 51 = .ptr 24 := rfl
@[simp] theorem sz_51 (glob : Nat → Option (List D)) : (mkCtx tab glob).sz 51 = 1 := rfl
@[simp] theorem ze_51 (glob : Nat → Option (List D)) : (mkCtx tab glob).zero 51 = [.v (.pointer none)] := rfl
@[simp] theorem td_52 (glob : Nat → Option (List D)) : (mkCtx tab glob).td 52 = .func := rfl
@[simp] theorem sz_52 (glob : Nat → Option (List D)) : (mkCtx tab glob).sz 52 = 1 := rfl
@[simp] theorem ze_52 (glob : Nat → Option (List D)) : (mkCtx tab glob).zero 52 = [.v .nilFunc] := rfl
@[simp] theorem td_53 (glob : Nat → Option (List D)) : (mkCtx tab glob).td 53 = .func := rfl
@[simp] theorem sz_53 (glob : Nat → Option (List D)) : (mkCtx tab glob).sz 53 = 1 := rfl
@[simp] theorem ze_53 (glob : Nat → Option (List D)) : (mkCtx tab glob).zero 53 = [.v .nilFunc] := rfl
@[simp] theorem td_54 (glob : Nat → Option (List D)) : (mkCtx tab glob).td 54 = .ptr 193 := rfl
@[simp] theorem sz_54 (glob : Nat → Option (List D)) : (mkCtx tab glob).sz 54 = 1 := rfl
@[simp] theorem ze_54 (glob : Nat → Option (List D)) : (mkCtx tab glob).zero 54 = [.v (.pointer none)] := rfl
@[simp] theorem td_55 (glob : Nat → Option (List D)) : (mkCtx tab glob).td 55 = .slice 159 := rfl
@[simp] theorem sz_55 (glob : Nat → Option (List D)) : (mkCtx tab glob).sz 55 = 1 := rfl
@[simp] theorem ze_55 (glob : Nat → Option (List D)) : (mkCtx tab glob).zero 55 = [.sl 2 []] := rfl
@[simp] theorem td_56 (glob : Nat → Option (List D)) : (mkCtx tab glob).td 56 = .ptr 61 := rfl
@[simp] theorem sz_56 (glob : Nat → Option (List D)) : (mkCtx tab glob).sz 56 = 1 := rfl
@[simp] theorem ze_56 (glob : Nat → Option (List D)) : (mkCtx tab glob).zero 56 = [.v (.pointer none)] := rfl
@[simp] theorem td_57 (glob : Nat → Option (List D)) : (mkCtx tab glob).td 57 = .ptr 59 := rfl
@[simp] theorem sz_57 (glob : Nat → Option (List D)) : (mkCtx tab glob).sz 57 = 1 := rfl
@[simp] theorem ze_57 (glob : Nat → Option (List D)) : (mkCtx tab glob).zero 57 = [.v (.pointer none)] := rfl
@[simp] theorem td_58 (glob : Nat → Option (List D)) : (mkCtx tab glob).td 58 = .strct [(54, 0), (46, 1), (55, 2), (3, 3), (43, 4)] := rfl
@[simp] theorem sz_58 (glob : Nat → Option (List D)) : (mkCtx tab glob).sz 58 = 5 := rfl
@[simp] theorem eq_58 (glob : Nat → Option (List D)) : (mkCtx tab glob).eqt 58 = [] := rfl
@[simp] theorem ze_58 (glob : Nat → Option (List D)) : (mkCtx tab glob).zero 58 = [.v (.pointer none), .v (.pointer none), .sl 2 [], .v (.int .i64 0), .sl 7 []] := rfl
@[simp] theorem td_59 (glob : Nat → Option (List D)) : (mkCtx tab glob).td 59 = .strct [(54, 0), (46, 1), (55, 2), (3, 3), (43, 4)] := rfl
@[simp] theorem sz_59 (glob : Nat → Option (List D)) : (mkCtx tab glob).sz 59 = 5 := rfl
@[simp] theorem eq_59 (glob : Nat → Option (List D)) : (mkCtx tab glob).eqt 59 = [] := rfl
@[simp] theorem ze_59 (glob : Nat → Option (List D)) : (mkCtx tab glob).zero 59 = [.v (.pointer none), .v (.pointer none), .sl 2 [], .v (.int .i64 0), .sl 7 []] := rfl
@[simp] theorem td_60 (glob : Nat → Option (List D)) : (mkCtx tab glob).td 60 = .strct [(57, 0), (9, 1), (3, 2)] := rfl
@[simp] theorem sz_60 (glob : Nat → Option (List D)) : (mkCtx tab glob).sz 60 = 3 := rfl
@[simp] theorem eq_60 (glob : Nat → Option (List D)) : (mkCtx tab glob).eqt 60 = [] := rfl
@[simp] theorem ze_60 (glob : Nat → Option (List D)) : (mkCtx tab glob).zero 60 = [.v (.pointer none), .s [], .v (.int .i64 0)] := rfl
@[simp] theorem td_61 (glob : Nat → Option (List D)) : (mkCtx tab glob).td 61 = .strct [(57, 0), (9, 1), (3, 2)] := rfl
@[simp] theorem sz_61 (glob : Nat → Option (List D)) : (mkCtx tab glob).sz 61 = 3 := rfl
@[simp] theorem eq_61 (glob : Nat → Option (List D)) : (mkCtx tab glob).eqt 61 = [] := rfl
@[simp] theorem ze_61 (glob : Nat → Option (List D)) : (mkCtx tab glob).zero 61 = [.v (.pointer none), .s [], .v (.int .i64 0)] := rfl
@[simp] theorem td_62 (glob : Nat → Option (List D)) : (mkCtx tab glob).td 62 = .func := rfl
@[simp] theorem sz_62 (glob : Nat → Option (List D)) : (mkCtx tab glob).sz 62 = 1 := rfl
@[simp] theorem ze_62 (glob : Nat → Option (List D)) : (mkCtx tab glob).zero 62 = [.v .nilFunc] := rfl
@[simp] theorem td_63 (glob : Nat → Option (List D)) : (mkCtx tab glob).td 63 = .map 9 132 := rfl
@[simp] theorem sz_63 (glob : Nat → Option (List D)) : (mkCtx tab glob).sz 63 = 1 := rfl
@[simp] theorem ze_63 (glob : Nat → Option (List D)) : (mkCtx tab glob).zero 63 = [.v (.map none)] := rfl
@[simp] theorem td_64 (glob : Nat → Option (List D)) : (mkCtx tab glob).td 64 = .strct [(63, 0)] := rfl
@[simp] theorem sz_64 (glob : Nat → Option (List D)) : (mkCtx tab glob).sz 64 = 1 := rfl
@[simp] theorem eq_64 (glob : Nat → Option (List D)) : (mkCtx tab glob).eqt 64 = [] := rfl
@[simp] theorem ze_64 (glob : Nat → Option (List D)) : (mkCtx tab glob).zero 64 = [.v (.map none)] := rfl
@[simp] theorem td_65 (glob : Nat → Option (List D)) : (mkCtx tab glob).td 65 = .strct [(63, 0)] := rfl
@[simp] theorem sz_65 (glob : Nat → Option (List D)) : (mkCtx tab glob).sz 65 = 1 := rfl
@[simp] theorem eq_65 (glob : Nat → Option (List D)) : (mkCtx tab glob).eqt 65 = [] := rfl
@[simp] theorem ze_65 (glob : Nat → Option (List D)) : (mkCtx tab glob).zero 65 = [.v (.map none)] := rfl
@[simp] theorem td_67 (glob : Nat → Option (List D)) : (mkCtx tab glob).td 67 = .int .u64 := rfl
@[simp] theorem sz_67 (glob : Nat → Option (List D)) : (mkCtx tab glob).sz 67 = 1 := rfl
@[simp] theorem ze_67 (glob : Nat → Option (List D)) : (mkCtx tab glob).zero 67 = [.v (.int .u64 0)] := rfl
@[simp] theorem td_70 (glob : Nat → Option (List D)) : (mkCtx tab glob).td 70 = .func := rfl
@[simp] theorem sz_70 (glob : Nat → Option (List D)) : (mkCtx tab glob).sz 70 = 1 := rfl
@[simp] theorem ze_70 (glob : Nat → Option (List D)) : (mkCtx tab glob).zero 70 = [.v .nilFunc] := rfl
@[simp] theorem td_71 (glob : Nat → Option (List D)) : (mkCtx tab glob).td 71 = .iface false := rfl
@[simp] theorem sz_71 (glob : Nat → Option (List D)) : (mkCtx tab glob).sz 71 = 1 := rfl
@[simp] theorem ze_71 (glob : Nat → Option (List D)) : (mkCtx tab glob).zero 71 = [.v .nilIface] := rfl
@[simp] theorem td_72 (glob : Nat → Option (List D)) : (mkCtx tab glob).td 72 = .iface false := rfl
@[simp] theorem sz_72 (glob : Nat → Option (List D)) : (mkCtx tab glob).sz 72 = 1 := rfl
@[simp] theorem ze_72 (glob : Nat → Option (List D)) : (mkCtx tab glob).zero 72 = [.v .nilIface] := rfl
@[simp] theorem td_73 (glob : Nat → Option (List D)) : (mkCtx tab glob).td 73 = .func := rfl
@[simp] theorem sz_73 (glob : Nat → Option (List D)) : (mkCtx tab glob).sz 73 = 1 := rfl
@[simp] theorem ze_73 (glob : Nat → Option (List D)) : (mkCtx tab glob).zero 73 = [.v .nilFunc] := rfl
@[simp] theorem td_74 (glob : Nat → Option (List D)) : (mkCtx tab glob).td 74 = .int .u8 := rfl
@[simp] theorem sz_74 (glob : Nat → Option (List D)) : (mkCtx tab glob).sz 74 = 1 := rfl
@[simp] theorem ze_74 (glob : Nat → Option (List D)) : (mkCtx tab glob).zero 74 = [.v (.int .u8 0)] := rfl
@[simp] theorem td_75 (glob : Nat → Option (List D)) : (mkCtx tab glob).td 75 = .func := rfl
@[simp] theorem sz_75 (glob : Nat → Option (List D)) : (mkCtx tab glob).sz 75 = 1 := rfl
@[simp] theorem ze_75 (glob : Nat → Option (List D)) : (mkCtx tab glob).zero 75 = [.v .nilFunc] := rfl
@[simp] theorem td_76 (glob : Nat → Option (List D)) : (mkCtx tab glob).td 76 = .func := rfl
@[simp] theorem sz_76 (glob : Nat → Option (List D)) : (mkCtx tab glob).sz 76 = 1 := rfl
@[simp] theorem ze_76 (glob : Nat → Option (List D)) : (mkCtx tab glob).zero 76 = [.v .nilFunc] := rfl
@[simp] theorem td_77 (glob : Nat → Option (List D)) : (mkCtx tab glob).td 77 = .func := rfl
@[simp] theorem sz_77 (glob : Nat → Option (List D)) : (mkCtx tab glob).sz 77 = 1 := rfl
@[simp] theorem ze_77 (glob : Nat → Option (List D)) : (mkCtx tab glob).zero 77 = [.v .nilFunc] := rfl
@[simp] theorem td_78 (glob : Nat → Option (List D)) : (mkCtx tab glob).td 78 = .func := rfl
@[simp] theorem sz_78 (glob : Nat → Option (List D)) : (mkCtx tab glob).sz 78 = 1 := rfl
@[simp] theorem ze_78 (glob : Nat → Option (List D)) : (mkCtx tab glob).zero 78 = [.v .nilFunc] := rfl
@[simp] theorem td_79 (glob : Nat → Option (List D)) : (mkCtx tab glob).td 79 = .func := rfl
@[simp] theorem sz_79 (glob : Nat → Option (List D)) : (mkCtx tab glob).sz 79 = 1 := rfl
@[simp] theorem ze_79 (glob : Nat → Option (List D)) : (mkCtx tab glob).zero 79 = [.v .nilFunc] := rfl
@[simp] theorem td_80 (glob : Nat → Option (List D)) : (mkCtx tab glob).td 80 = .slice 87 := rfl
@[simp] theorem sz_80 (glob : Nat → Option (List D)) : (mkCtx tab glob).sz 80 = 1 := rfl
@[simp] theorem ze_80 (glob : Nat → Option (List D)) : (mkCtx tab glob).zero 80 = [.sl 10 []] := rfl
@[simp] theorem td_82 (glob : Nat → Option (List D)) : (mkCtx tab glob).td 82 = .func := rfl
@[simp] theorem sz_82 (glob : Nat → Option (List D)) : (mkCtx tab glob).sz 82 = 1 := rfl
@[simp] theorem ze_82 (glob : Nat → Option (List D)) : (mkCtx tab glob).zero 82 = [.v .nilFunc] := rfl
@[simp] theorem td_84 (glob : Nat → Option (List D)) : (mkCtx tab glob).td 84 = .func := rfl
@[simp] theorem sz_84 (glob : Nat → Option (List D)) : (mkCtx tab glob).sz 84 = 1 := rfl
@[simp] theorem ze_84 (glob : Nat → Option (List D)) : (mkCtx tab glob).zero 84 = [.v .nilFunc] := rfl
@[simp] theorem td_85 (glob : Nat → Option (List D)) : (mkCtx tab glob).td 85 = .slice 183 := rfl
@[simp] theorem sz_85 (glob : Nat → Option (List D)) : (mkCtx tab glob).sz 85 = 1 := rfl
@[simp] theorem ze_85 (glob : Nat → Option (List D)) : (mkCtx tab glob).zero 85 = [.sl 1 []] := rfl
@[simp] theorem td_86 (glob : Nat → Option (List D)) : (mkCtx tab glob).td 86 = .strct [(3, 0), (3, 1), (9, 2), (85, 3), (85, 4), (35, 5), (9, 7), (4, 8), (4, 9)] := rfl
@[simp] theorem sz_86 (glob : Nat → Option (List D)) : (mkCtx tab glob).sz 86 = 10 := rfl
@[simp] theorem eq_86 (glob : Nat → Option (List D)) : (mkCtx tab glob).eqt 86 = [] := rfl
@[simp] theorem ze_86 (glob : Nat → Option (List D)) : (mkCtx tab glob).zero 86 = [.v (.int .i64 0), .v (.int .i64 0), .s [], .sl 1 [], .sl 1 [], .v (.int .i64 0), .s [], .s [], .v (.bool false), .v (.bool false)] := rfl
@[simp] theorem td_87 (glob : Nat → Option (List D)) : (mkCtx tab glob).td 87 = .strct [(3, 0), (3, 1), (9, 2), (85, 3), (85, 4), (35, 5), (9, 7), (4, 8), (4, 9)] := rfl
@[simp] theorem sz_87 (glob : Nat → Option (List D)) : (mkCtx tab glob).sz 87 = 10 := rfl
@[simp] theorem eq_87 (glob : Nat → Option (List D)) : (mkCtx tab glob).eqt 87 = [] := rfl
@[simp] theorem ze_87 (glob : Nat → Option (List D)) : (mkCtx tab glob).zero 87 = [.v (.int .i64 0), .v (.int .i64 0), .s [], .sl 1 [], .sl 1 [], .v (.int .i64 0), .s [], .s [], .v (.bool false), .v (.bool false)] := rfl
@[simp] theorem td_88 (glob : Nat → Option (List D)) : (mkCtx tab glob).td 88 = .func := rfl
@[simp] theorem sz_88 (glob : Nat → Option (List D)) : (mkCtx tab glob).sz 88 = 1 := rfl
@[simp] theorem ze_88 (glob : Nat → Option (List D)) : (mkCtx tab glob).zero 88 = [.v .nilFunc] := rfl
@[simp] theorem td_89 (glob : Nat → Option (List D)) : (mkCtx tab glob).td 89 = .func := rfl
@[simp] theorem sz_89 (glob : Nat → Option (List D)) : (mkCtx tab glob).sz 89 = 1 := rfl
@[simp] theorem ze_89 (glob : Nat → Option (List D)) : (mkCtx tab glob).zero 89 = [.v .nilFunc] := rfl
@[simp] theorem td_90 (glob : Nat → Option (List D)) : (mkCtx tab glob).td 90 = .strct [(17, 0)] := rfl
@[simp] theorem sz_90 (glob : Nat → Option (List D)) : (mkCtx tab glob).sz 90 = 1 := rfl
@[simp] theorem eq_90 (glob : Nat → Option (List D)) : (mkCtx tab glob).eqt 90 = [] := rfl
@[simp] theorem ze_90 (glob : Nat → Option (List D)) : (mkCtx tab glob).zero 90 = [.v (.pointer none)] := rfl
@[simp] theorem td_91 (glob : Nat → Option (List D)) : (mkCtx tab glob).td 91 = .strct [(17, 0)] := rfl
@[simp] theorem sz_91 (glob : Nat → Option (List D)) : (mkCtx tab glob).sz 91 = 1 := rfl
@[simp] theorem eq_91 (glob : Nat → Option (List D)) : (mkCtx tab glob).eqt 91 = [] := rfl
@[simp] theorem ze_91 (glob : Nat → Option (List D)) : (mkCtx tab glob).zero 91 = [.v (.pointer none)] := rfl
@[simp] theorem td_92 (glob : Nat → Option (List D)) : (mkCtx tab glob).td 92 = .ptr 250 := rfl
@[simp] theorem sz_92 (glob : Nat → Option (List D)) : (mkCtx tab glob).sz 92 = 1 := rfl
@[simp] theorem ze_92 (glob : Nat → Option (List D)) : (mkCtx tab glob).zero 92 = [.v (.pointer none)] := rfl
@[simp] theorem td_93 (glob : Nat → Option (List D)) : (mkCtx tab glob).td 93 = .func := rfl
@[simp] theorem sz_93 (glob : Nat → Option (List D)) : (mkCtx tab glob).sz 93 = 1 := rfl
@[simp] theorem ze_93 (glob : Nat → Option (List D)) : (mkCtx tab glob).zero 93 = [.v .nilFunc] := rfl
@[simp] theorem td_94 (glob : Nat → Option (List D)) : (mkCtx tab glob).td 94 = .func := rfl
@[simp] theorem sz_94 (glob : Nat → Option (List D)) : (mkCtx tab glob).sz 94 = 1 := rfl
@[simp] theorem ze_94 (glob : Nat → Option (List D)) : (mkCtx tab glob).zero 94 = [.v .nilFunc] := rfl
@[simp] theorem td_95 (glob : Nat → Option (List D)) : (mkCtx tab glob).td 95 = .iface false := rfl
@[simp] theorem sz_95 (glob : Nat → Option (List D)) : (mkCtx tab glob).sz 95 = 1 := rfl
@[simp] theorem ze_95 (glob : Nat → Option (List D)) : (mkCtx tab glob).zero 95 = [.v .nilIface] := rfl
@[simp] theorem td_97 (glob : Nat → Option (List D)) : (mkCtx tab glob).td 97 = .func := rfl
@[simp] theorem sz_97 (glob : Nat → Option (List D)) : (mkCtx tab glob).sz 97 = 1 := rfl
@[simp] theorem ze_97 (glob : Nat → Option (List D)) : (mkCtx tab glob).zero 97 = [.v .nilFunc] := rfl
@[simp] theorem td_98 (glob : Nat → Option (List D)) : (mkCtx tab glob).td 98 = .iface false := rfl
@[simp] theorem sz_98 (glob : Nat → Option (List D)) : (mkCtx tab glob).sz 98 = 1 := rfl
@[simp] theorem ze_98 (glob : Nat → Option (List D)) : (mkCtx tab glob).zero 98 = [.v .nilIface] := rfl
@[simp] theorem td_99 (glob : Nat → Option (List D)) : (mkCtx tab glob).td 99 = .iface false := rfl
@[simp] theorem sz_99 (glob : Nat → Option (List D)) : (mkCtx tab glob).sz 99 = 1 := rfl
@[simp] theorem ze_99 (glob : Nat → Option (List D)) : (mkCtx tab glob).zero 99 = [.v .nilIface] := rfl
@[simp] theorem td_100 (glob : Nat → Option (List D)) : (mkCtx tab glob).td 100 = .func := rfl
@[simp] theorem sz_100 (glob : Nat → Option (List D)) : (mkCtx tab glob).sz 100 = 1 := rfl
@[simp] theorem ze_100 (glob : Nat → Option (List D)) : (mkCtx tab glob).zero 100 = [.v .nilFunc] := rfl
@[simp] theorem td_101 (glob : Nat → Option (List D)) : (mkCtx tab glob).td 101 = .iface false := rfl
@[simp] theorem sz_101 (glob : Nat → Option (List D)) : (mkCtx tab glob).sz 101 = 1 := rfl
@[simp] theorem ze_101 (glob : Nat → Option (List D)) : (mkCtx tab glob).zero 101 = [.v .nilIface] := rfl
@[simp] theorem td_103 (glob : Nat → Option (List D)) : (mkCtx tab glob).td 103 = .func := rfl
@[simp] theorem sz_103 (glob : Nat → Option (List D)) : (mkCtx tab glob).sz 103 = 1 := rfl
@[simp] theorem ze_103 (glob : Nat → Option (List D)) : (mkCtx tab glob).zero 103 = [.v .nilFunc] := rfl
@[simp] theorem td_104 (glob : Nat → Option (List D)) : (mkCtx tab glob).td 104 = .slice 121 := rfl
@[simp] theorem sz_104 (glob : Nat → Option (List D)) : (mkCtx tab glob).sz 104 = 1 := rfl
@[simp] theorem ze_104 (glob : Nat → Option (List D)) : (mkCtx tab glob).zero 104 = [.sl 3 []] := rfl
@[simp] theorem td_106 (glob : Nat → Option (List D)) : (mkCtx tab glob).td 106 = .func := rfl
@[simp] theorem sz_106 (glob : Nat → Option (List D)) : (mkCtx tab glob).sz 106 = 1 := rfl
@[simp] theorem ze_106 (glob : Nat → Option (List D)) : (mkCtx tab glob).zero 106 = [.v .nilFunc] := rfl
@[simp] theorem td_107 (glob : Nat → Option (List D)) : (mkCtx tab glob).td 107 = .func := rfl
@[simp] theorem sz_107 (glob : Nat → Option (List D)) : (mkCtx tab glob).sz 107 = 1 := rfl
@[simp] theorem ze_107 (glob : Nat → Option (List D)) : (mkCtx tab glob).zero 107 = [.v .nilFunc] := rfl
@[simp] theorem td_108 (glob : Nat → Option (List D)) : (mkCtx tab glob).td 108 = .ptr 111 := rfl
@[simp] theorem sz_108 (glob : Nat → Option (List D)) : (mkCtx tab glob).sz 108 = 1 := rfl
@[simp] theorem ze_108 (glob : Nat → Option (List D)) : (mkCtx tab glob).zero 108 = [.v (.pointer none)] := rfl
@[simp] theorem td_109 (glob : Nat → Option (List D)) : (mkCtx tab glob).td 109 = .ptr 108 := rfl
@[simp] theorem sz_109 (glob : Nat → Option (List D)) : (mkCtx tab glob).sz 109 = 1 := rfl
@[simp] theorem ze_109 (glob : Nat → Option (List D)) : (mkCtx tab glob).zero 109 = [.v (.pointer none)] := rfl
@[simp] theorem td_110 (glob : Nat → Option (List D)) : (mkCtx tab glob).td 110 = .strct [(3, 0), (26, 1)] := rfl
@[simp] theorem sz_110 (glob : Nat → Option (List D)) : (mkCtx tab glob).sz 110 = 2 := rfl
@[simp] theorem eq_110 (glob : Nat → Option (List D)) : (mkCtx tab glob).eqt 110 = [] := rfl
@[simp] theorem ze_110 (glob : Nat → Option (List D)) : (mkCtx tab glob).zero 110 = [.v (.int .i64 0), .v .nilIface] := rfl
@[simp] theorem td_111 (glob : Nat → Option (List D)) : (mkCtx tab glob).td 111 = .strct [(3, 0), (26, 1)] := rfl
@[simp] theorem sz_111 (glob : Nat → Option (List D)) : (mkCtx tab glob).sz 111 = 2 := rfl
@[simp] theorem eq_111 (glob : Nat → Option (List D)) : (mkCtx tab glob).eqt 111 = [] := rfl
@[simp] theorem ze_111 (glob : Nat → Option (List D)) : (mkCtx tab glob).zero 111 = [.v (.int .i64 0), .v .nilIface] := rfl
@[simp] theorem td_112 (glob : Nat → Option (List D)) : (mkCtx tab glob).td 112 = .arr 24 5 := rfl
@[simp] theorem sz_112 (glob : Nat → Option (List D)) : (mkCtx tab glob).sz 112 = 24 := rfl
@[simp] theorem ze_112 (glob : Nat → Option (List D)) : (mkCtx tab glob).zero 112 = [.v (.int .u8 0), .v (.int .u8 0), .v (.int .u8 0), .v (.int .u8 0), .v (.int .u8 0), .v (.int .u8 0), .v (.int .u8 0), .v (.int .u8 0), .v (.int .u8 0), .v (.int .u8 0), .v (.int .u8 0), .v (.int .u8 0), .v (.int .u8 0), .v (.int .u8 0), .v (.int .u8 0), .v (.int .u8 0), .v (.int .u8 0), .v (.int .u8 0), .v (.int .u8 0), .v (.int .u8 0), .v (.int .u8 0), .v (.int .u8 0), .v (.int .u8 0), .v (.int .u8 0)] := rfl
@[simp] theorem td_113 (glob : Nat → Option (List D)) : (mkCtx tab glob).td 113 = .int .u64 := rfl
@[simp] theorem sz_113 (glob : Nat → Option (List D)) : (mkCtx tab glob).sz 113 = 1 := rfl
@[simp] theorem ze_113 (glob : Nat → Option (List D)) : (mkCtx tab glob).zero 113 = [.v (.int .u64 0)] := rfl
@[simp] theorem td_114 (glob : Nat → Option (List D)) : (mkCtx tab glob).td 114 = .func := rfl
@[simp] theorem sz_114 (glob : Nat → Option (List D)) : (mkCtx tab glob).sz 114 = 1 := rfl
@[simp] theorem ze_114 (glob : Nat → Option (List D)) : (mkCtx tab glob).zero 114 = [.v .nilFunc] := rfl
@[simp] theorem td_115 (glob : Nat → Option (List D)) : (mkCtx tab glob).td 115 = .func := rfl
@[simp] theorem sz_115 (glob : Nat → Option (List D)) : (mkCtx tab glob).sz 115 = 1 := rfl
@[simp] theorem ze_115 (glob : Nat → Option (List D)) : (mkCtx tab glob).zero 115 = [.v .nilFunc] := rfl
@[simp] theorem td_116 (glob : Nat → Option (List D)) : (mkCtx tab glob).td 116 = .slice 5 := rfl
@[simp] theorem sz_116 (glob : Nat → Option (List D)) : (mkCtx tab glob).sz 116 = 1 := rfl
@[simp] theorem ze_116 (glob : Nat → Option (List D)) : (mkCtx tab glob).zero 116 = [.sl 1 []] := rfl
@[simp] theorem td_118 (glob : Nat → Option (List D)) : (mkCtx tab glob).td 118 = .func := rfl
@[simp] theorem sz_118 (glob : Nat → Option (List D)) : (mkCtx tab glob).sz 118 = 1 := rfl
@[simp] theorem ze_118 (glob : Nat → Option (List D)) : (mkCtx tab glob).zero 118 = [.v .nilFunc] := rfl
@[simp] theorem td_119 (glob : Nat → Option (List D)) : (mkCtx tab glob).td 119 = .func := rfl
@[simp] theorem sz_119 (glob : Nat → Option (List D)) : (mkCtx tab glob).sz 119 = 1 := rfl
@[simp] theorem ze_119 (glob : Nat → Option (List D)) : (mkCtx tab glob).zero 119 = [.v .nilFunc] := rfl
@[simp] theorem td_120 (glob : Nat → Option (List D)) : (mkCtx tab glob).td 120 = .strct [(9, 0), (3, 1), (4, 2)] := rfl
@[simp] theorem sz_120 (glob : Nat → Option (List D)) : (mkCtx tab glob).sz 120 = 3 := rfl
@[simp] theorem eq_120 (glob : Nat → Option (List D)) : (mkCtx tab glob).eqt 120 = [] := rfl
@[simp] theorem ze_120 (glob : Nat → Option (List D)) : (mkCtx tab glob).zero 120 = [.s [], .v (.int .i64 0), .v (.bool false)] := rfl
@[simp] theorem td_121 (glob : Nat → Option (List D)) : (mkCtx tab glob).td 121 = .strct [(9, 0), (3, 1), (4, 2)] := rfl
@[simp] theorem sz_121 (glob : Nat → Option (List D)) : (mkCtx tab glob).sz 121 = 3 := rfl
@[simp] theorem eq_121 (glob : Nat → Option (List D)) : (mkCtx tab glob).eqt 121 = [] := rfl
@[simp] theorem ze_121 (glob : Nat → Option (List D)) : (mkCtx tab glob).zero 121 = [.s [], .v (.int .i64 0), .v (.bool false)] := rfl
@[simp] theorem td_122 (glob : Nat → Option (List D)) : (mkCtx tab glob).td 122 = .func := rfl
@[simp] theorem sz_122 (glob : Nat → Option (List D)) : (mkCtx tab glob).sz 122 = 1 := rfl
@[simp] theorem ze_122 (glob : Nat → Option (List D)) : (mkCtx tab glob).zero 122 = [.v .nilFunc] := rfl
@[simp] theorem td_124 (glob : Nat → Option (List D)) : (mkCtx tab glob).td 124 = .func := rfl
@[simp] theorem sz_124 (glob : Nat → Option (List D)) : (mkCtx tab glob).sz 124 = 1 := rfl
@[simp] theorem ze_124 (glob : Nat → Option (List D)) : (mkCtx tab glob).zero 124 = [.v .nilFunc] := rfl
@[simp] theorem td_125 (glob : Nat → Option (List D)) : (mkCtx tab glob).td 125 = .func := rfl
@[simp] theorem sz_125 (glob : Nat → Option (List D)) : (mkCtx tab glob).sz 125 = 1 := rfl
@[simp] theorem ze_125 (glob : Nat → Option (List D)) : (mkCtx tab glob).zero 125 = [.v .nilFunc] := rfl
@[simp] theorem td_127 (glob : Nat → Option (List D)) : (mkCtx tab glob).td 127 = .func := rfl
@[simp] theorem sz_127 (glob : Nat → Option (List D)) : (mkCtx tab glob).sz 127 = 1 := rfl
@[simp] theorem ze_127 (glob : Nat → Option (List D)) : (mkCtx tab glob).zero 127 = [.v .nilFunc] := rfl
@[simp] theorem td_129 (glob : Nat → Option (List D)) : (mkCtx tab glob).td 129 = .func := rfl
@[simp] theorem sz_129 (glob : Nat → Option (List D)) : (mkCtx tab glob).sz 129 = 1 := rfl
@[simp] theorem ze_129 (glob : Nat → Option (List D)) : (mkCtx tab glob).zero 129 = [.v .nilFunc] := rfl
@[simp] theorem td_130 (glob : Nat → Option (List D)) : (mkCtx tab glob).td 130 = .func := rfl
@[simp] theorem sz_130 (glob : Nat → Option (List D)) : (mkCtx tab glob).sz 130 = 1 := rfl
@[simp] theorem ze_130 (glob : Nat → Option (List D)) : (mkCtx tab glob).zero 130 = [.v .nilFunc] := rfl
@[simp] theorem td_131 (glob : Nat → Option (List D)) : (mkCtx tab glob).td 131 = .strct [(9, 0), (33, 1), (3, 2), (4, 3)] := rfl
@[simp] theorem sz_131 (glob : Nat → Option (List D)) : (mkCtx tab glob).sz 131 = 4 := rfl
@[simp] theorem eq_131 (glob : Nat → Option (List D)) : (mkCtx tab glob).eqt 131 = [] := rfl
@[simp] theorem ze_131 (glob : Nat → Option (List D)) : (mkCtx tab glob).zero 131 = [.s [], .sl 1 [], .v (.int .i64 0), .v (.bool false)] := rfl
@[simp] theorem td_132 (glob : Nat → Option (List D)) : (mkCtx tab glob).td 132 = .strct [(9, 0), (33, 1), (3, 2), (4, 3)] := rfl
@[simp] theorem sz_132 (glob : Nat → Option (List D)) : (mkCtx tab glob).sz 132 = 4 := rfl
@[simp] theorem eq_132 (glob : Nat → Option (List D)) : (mkCtx tab glob).eqt 132 = [] := rfl
@[simp] theorem ze_132 (glob : Nat → Option (List D)) : (mkCtx tab glob).zero 132 = [.s [], .sl 1 [], .v (.int .i64 0), .v (.bool false)] := rfl
@[simp] theorem td_134 (glob : Nat → Option (List D)) : (mkCtx tab glob).td 134 = .func := rfl
@[simp] theorem sz_134 (glob : Nat → Option (List D)) : (mkCtx tab glob).sz 134 = 1 := rfl
@[simp] theorem ze_134 (glob : Nat → Option (List D)) : (mkCtx tab glob).zero 134 = [.v .nilFunc] := rfl
@[simp] theorem td_135 (glob : Nat → Option (List D)) : (mkCtx tab glob).td 135 = .func := rfl
@[simp] theorem sz_135 (glob : Nat → Option (List D)) : (mkCtx tab glob).sz 135 = 1 := rfl
@[simp] theorem ze_135 (glob : Nat → Option (List D)) : (mkCtx tab glob).zero 135 = [.v .nilFunc] := rfl
@[simp] theorem td_136 (glob : Nat → Option (List D)) : (mkCtx tab glob).td 136 = .func := rfl
@[simp] theorem sz_136 (glob : Nat → Option (List D)) : (mkCtx tab glob).sz 136 = 1 := rfl
@[simp] theorem ze_136 (glob : Nat → Option (List D)) : (mkCtx tab glob).zero 136 = [.v .nilFunc] := rfl
@[simp] theorem td_137 (glob : Nat → Option (List D)) : (mkCtx tab glob).td 137 = .func := rfl
@[simp] theorem sz_137 (glob : Nat → Option (List D)) : (mkCtx tab glob).sz 137 = 1 := rfl
@[simp] theorem ze_137 (glob : Nat → Option (List D)) : (mkCtx tab glob).zero 137 = [.v .nilFunc] := rfl
@[simp] theorem td_138 (glob : Nat → Option (List D)) : (mkCtx tab glob).td 138 = .func := rfl
@[simp] theorem sz_138 (glob : Nat → Option (List D)) : (mkCtx tab glob).sz 138 = 1 := rfl
@[simp] theorem ze_138 (glob : Nat → Option (List D)) : (mkCtx tab glob).zero 138 = [.v .nilFunc] := rfl
@[simp] theorem td_139 (glob : Nat → Option (List D)) : (mkCtx tab glob).td 139 = .arr 20 113 := rfl
@[simp] theorem sz_139 (glob : Nat → Option (List D)) : (mkCtx tab glob).sz 139 = 20 := rfl
@[simp] theorem ze_139 (glob : Nat → Option (List D)) : (mkCtx tab glob).zero 139 = [.v (.int .u64 0), .v (.int .u64 0), .v (.int .u64 0), .v (.int .u64 0), .v (.int .u64 0), .v (.int .u64 0), .v (.int .u64 0), .v (.int .u64 0), .v (.int .u64 0), .v (.int .u64 0), .v (.int .u64 0), .v (.int .u64 0), .v (.int .u64 0), .v (.int .u64 0), .v (.int .u64 0), .v (.int .u64 0), .v (.int .u64 0), .v (.int .u64 0), .v (.int .u64 0), .v (.int .u64 0)] := rfl
@[simp] theorem td_140 (glob : Nat → Option (List D)) : (mkCtx tab glob).td 140 = .int .u32 := rfl
@[simp] theorem sz_140 (glob : Nat → Option (List D)) : (mkCtx tab glob).sz 140 = 1 := rfl
@[simp] theorem ze_140 (glob : Nat → Option (List D)) : (mkCtx tab glob).zero 140 = [.v (.int .u32 0)] := rfl
@[simp] theorem td_142 (glob : Nat → Option (List D)) : (mkCtx tab glob).td 142 = .func := rfl
@[simp] theorem sz_142 (glob : Nat → Option (List D)) : (mkCtx tab glob).sz 142 = 1 := rfl
@[simp] theorem ze_142 (glob : Nat → Option (List D)) : (mkCtx tab glob).zero 142 = [.v .nilFunc] := rfl
@[simp] theorem td_143 (glob : Nat → Option (List D)) : (mkCtx tab glob).td 143 = .func := rfl
@[simp] theorem sz_143 (glob : Nat → Option (List D)) : (mkCtx tab glob).sz 143 = 1 := rfl
@[simp] theorem ze_143 (glob : Nat → Option (List D)) : (mkCtx tab glob).zero 143 = [.v .nilFunc] := rfl
@[simp] theorem td_144 (glob : Nat → Option (List D)) : (mkCtx tab glob).td 144 = .func := rfl
@[simp] theorem sz_144 (glob : Nat → Option (List D)) : (mkCtx tab glob).sz 144 = 1 := rfl
@[simp] theorem ze_144 (glob : Nat → Option (List D)) : (mkCtx tab glob).zero 144 = [.v .nilFunc] := rfl
@[simp] theorem td_145 (glob : Nat → Option (List D)) : (mkCtx tab glob).td 145 = .func := rfl
@[simp] theorem sz_145 (glob : Nat → Option (List D)) : (mkCtx tab glob).sz 145 = 1 := rfl
@[simp] theorem ze_145 (glob : Nat → Option (List D)) : (mkCtx tab glob).zero 145 = [.v .nilFunc] := rfl
@[simp] theorem td_146 (glob : Nat → Option (List D)) : (mkCtx tab glob).td 146 = .func := rfl
@[simp] theorem sz_146 (glob : Nat → Option (List D)) : (mkCtx tab glob).sz 146 = 1 := rfl
@[simp] theorem ze_146 (glob : Nat → Option (List D)) : (mkCtx tab glob).zero 146 = [.v .nilFunc] := rfl
@[simp] theorem td_148 (glob : Nat → Option (List D)) : (mkCtx tab glob).td 148 = .func := rfl
@[simp] theorem sz_148 (glob : Nat → Option (List D)) : (mkCtx tab glob).sz 148 = 1 := rfl
@[simp] theorem ze_148 (glob : Nat → Option (List D)) : (mkCtx tab glob).zero 148 = [.v .nilFunc] := rfl
@[simp] theorem td_149 (glob : Nat → Option (List D)) : (mkCtx tab glob).td 149 = .func := rfl
@[simp] theorem sz_149 (glob : Nat → Option (List D)) : (mkCtx tab glob).sz 149 = 1 := rfl
@[simp] theorem ze_149 (glob : Nat → Option (List D)) : (mkCtx tab glob).zero 149 = [.v .nilFunc] := rfl
@[simp] theorem td_150 (glob : Nat → Option (List D)) : (mkCtx tab glob).td 150 = .func := rfl
@[simp] theorem sz_150 (glob : Nat → Option (List D)) : (mkCtx tab glob).sz 150 = 1 := rfl
@[simp] theorem ze_150 (glob : Nat → Option (List D)) : (mkCtx tab glob).zero 150 = [.v .nilFunc] := rfl
@[simp] theorem td_152 (glob : Nat → Option (List D)) : (mkCtx tab glob).td 152 = .func := rfl
@[simp] theorem sz_152 (glob : Nat → Option (List D)) : (mkCtx tab glob).sz 152 = 1 := rfl
@[simp] theorem ze_152 (glob : Nat → Option (List D)) : (mkCtx tab glob).zero 152 = [.v .nilFunc] := rfl
@[simp] theorem td_153 (glob : Nat → Option (List D)) : (mkCtx tab glob).td 153 = .func := rfl
@[simp] theorem sz_153 (glob : Nat → Option (List D)) : (mkCtx tab glob).sz 153 = 1 := rfl
@[simp] theorem ze_153 (glob : Nat → Option (List D)) : (mkCtx tab glob).zero 153 = [.v .nilFunc] := rfl
@[simp] theorem td_154 (glob : Nat → Option (List D)) : (mkCtx tab glob).td 154 = .func := rfl
@[simp] theorem sz_154 (glob : Nat → Option (List D)) : (mkCtx tab glob).sz 154 = 1 := rfl
@[simp] theorem ze_154 (glob : Nat → Option (List D)) : (mkCtx tab glob).zero 154 = [.v .nilFunc] := rfl
@[simp] theorem td_156 (glob : Nat → Option (List D)) : (mkCtx tab glob).td 156 = .func := rfl
@[simp] theorem sz_156 (glob : Nat → Option (List D)) : (mkCtx tab glob).sz 156 = 1 := rfl
@[simp] theorem ze_156 (glob : Nat → Option (List D)) : (mkCtx tab glob).zero 156 = [.v .nilFunc] := rfl
@[simp] theorem td_157 (glob : Nat → Option (List D)) : (mkCtx tab glob).td 157 = .func := rfl
@[simp] theorem sz_157 (glob : Nat → Option (List D)) : (mkCtx tab glob).sz 157 = 1 := rfl
@[simp] theorem ze_157 (glob : Nat → Option (List D)) : (mkCtx tab glob).zero 157 = [.v .nilFunc] := rfl
@[simp] theorem td_158 (glob : Nat → Option (List D)) : (mkCtx tab glob).td 158 = .strct [(9, 0), (9, 1)] := rfl
@[simp] theorem sz_158 (glob : Nat → Option (List D)) : (mkCtx tab glob).sz 158 = 2 := rfl
@[simp] theorem eq_158 (glob : Nat → Option (List D)) : (mkCtx tab glob).eqt 158 = [] := rfl
@[simp] theorem ze_158 (glob : Nat → Option (List D)) : (mkCtx tab glob).zero 158 = [.s [], .s []] := rfl
@[simp] theorem td_159 (glob : Nat → Option (List D)) : (mkCtx tab glob).td 159 = .strct [(9, 0), (9, 1)] := rfl
@[simp] theorem sz_159 (glob : Nat → Option (List D)) : (mkCtx tab glob).sz 159 = 2 := rfl
@[simp] theorem eq_159 (glob : Nat → Option (List D)) : (mkCtx tab glob).eqt 159 = [.s, .s] := rfl
@[simp] theorem ze_159 (glob : Nat → Option (List D)) : (mkCtx tab glob).zero 159 = [.s [], .s []] := rfl
@[simp] theorem td_160 (glob : Nat → Option (List D)) : (mkCtx tab glob).td 160 = .func := rfl
@[simp] theorem sz_160 (glob : Nat → Option (List D)) : (mkCtx tab glob).sz 160 = 1 := rfl
@[simp] theorem ze_160 (glob : Nat → Option (List D)) : (mkCtx tab glob).zero 160 = [.v .nilFunc] := rfl
@[simp] theorem td_161 (glob : Nat → Option (List D)) : (mkCtx tab glob).td 161 = .strct [(9, 0), (9, 1), (3, 2)] := rfl
@[simp] theorem sz_161 (glob : Nat → Option (List D)) : (mkCtx tab glob).sz 161 = 3 := rfl
@[simp] theorem eq_161 (glob : Nat → Option (List D)) : (mkCtx tab glob).eqt 161 = [] := rfl
@[simp] theorem ze_161 (glob : Nat → Option (List D)) : (mkCtx tab glob).zero 161 = [.s [], .s [], .v (.int .i64 0)] := rfl
@[simp] theorem td_162 (glob : Nat → Option (List D)) : (mkCtx tab glob).td 162 = .strct [(9, 0), (9, 1), (3, 2)] := rfl
@[simp] theorem sz_162 (glob : Nat → Option (List D)) : (mkCtx tab glob).sz 162 = 3 := rfl
@[simp] theorem eq_162 (glob : Nat → Option (List D)) : (mkCtx tab glob).eqt 162 = [.s, .s, .i] := rfl
@[simp] theorem ze_162 (glob : Nat → Option (List D)) : (mkCtx tab glob).zero 162 = [.s [], .s [], .v (.int .i64 0)] := rfl
@[simp] theorem td_164 (glob : Nat → Option (List D)) : (mkCtx tab glob).td 164 = .func := rfl
@[simp] theorem sz_164 (glob : Nat → Option (List D)) : (mkCtx tab glob).sz 164 = 1 := rfl
@[simp] theorem ze_164 (glob : Nat → Option (List D)) : (mkCtx tab glob).zero 164 = [.v .nilFunc] := rfl
@[simp] theorem td_165 (glob : Nat → Option (List D)) : (mkCtx tab glob).td 165 = .func := rfl
@[simp] theorem sz_165 (glob : Nat → Option (List D)) : (mkCtx tab glob).sz 165 = 1 := rfl
@[simp] theorem ze_165 (glob : Nat → Option (List D)) : (mkCtx tab glob).zero 165 = [.v .nilFunc] := rfl
@[simp] theorem td_166 (glob : Nat → Option (List D)) : (mkCtx tab glob).td 166 = .func := rfl
@[simp] theorem sz_166 (glob : Nat → Option (List D)) : (mkCtx tab glob).sz 166 = 1 := rfl
@[simp] theorem ze_166 (glob : Nat → Option (List D)) : (mkCtx tab glob).zero 166 = [.v .nilFunc] := rfl
@[simp] theorem td_167 (glob : Nat → Option (List D)) : (mkCtx tab glob).td 167 = .func := rfl
@[simp] theorem sz_167 (glob : Nat → Option (List D)) : (mkCtx tab glob).sz 167 = 1 := rfl
@[simp] theorem ze_167 (glob : Nat → Option (List D)) : (mkCtx tab glob).zero 167 = [.v .nilFunc] := rfl
@[simp] theorem td_168 (glob : Nat → Option (List D)) : (mkCtx tab glob).td 168 = .func := rfl
@[simp] theorem sz_168 (glob : Nat → Option (List D)) : (mkCtx tab glob).sz 168 = 1 := rfl
@[simp] theorem ze_168 (glob : Nat → Option (List D)) : (mkCtx tab glob).zero 168 = [.v .nilFunc] := rfl
@[simp] theorem td_172 (glob : Nat → Option (List D)) : (mkCtx tab glob).td 172 = .func := rfl
@[simp] theorem sz_172 (glob : Nat → Option (List D)) : (mkCtx tab glob).sz 172 = 1 := rfl
@[simp] theorem ze_172 (glob : Nat → Option (List D)) : (mkCtx tab glob).zero 172 = [.v .nilFunc] := rfl
@[simp] theorem td_173 (glob : Nat → Option (List D)) : (mkCtx tab glob).td 173 = .func := rfl
@[simp] theorem sz_173 (glob : Nat → Option (List D)) : (mkCtx tab glob).sz 173 = 1 := rfl
@[simp] theorem ze_173 (glob : Nat → Option (List D)) : (mkCtx tab glob).zero 173 = [.v .nilFunc] := rfl
@[simp] theorem td_174 (glob : Nat → Option (List D)) : (mkCtx tab glob).td 174 = .ptr 170 := rfl
@[simp] theorem sz_174 (glob : Nat → Option (List D)) : (mkCtx tab glob).sz 174 = 1 := rfl
@[simp] theorem ze_174 (glob : Nat → Option (List D)) : (mkCtx tab glob).zero 174 = [.v (.pointer none)] := rfl
@[simp] theorem td_175 (glob : Nat → Option (List D)) : (mkCtx tab glob).td 175 = .ptr 177 := rfl
@[simp] theorem sz_175 (glob : Nat → Option (List D)) : (mkCtx tab glob).sz 175 = 1 := rfl
@[simp] theorem ze_175 (glob : Nat → Option (List D)) : (mkCtx tab glob).zero 175 = [.v (.pointer none)] := rfl
@[simp] theorem td_176 (glob : Nat → Option (List D)) : (mkCtx tab glob).td 176 = .strct [(9, 0), (3, 1), (26, 2)] := rfl
@[simp] theorem sz_176 (glob : Nat → Option (List D)) : (mkCtx tab glob).sz 176 = 3 := rfl
@[simp] theorem eq_176 (glob : Nat → Option (List D)) : (mkCtx tab glob).eqt 176 = [] := rfl
@[simp] theorem ze_176 (glob : Nat → Option (List D)) : (mkCtx tab glob).zero 176 = [.s [], .v (.int .i64 0), .v .nilIface] := rfl
@[simp] theorem td_177 (glob : Nat → Option (List D)) : (mkCtx tab glob).td 177 = .strct [(9, 0), (3, 1), (26, 2)] := rfl
@[simp] theorem sz_177 (glob : Nat → Option (List D)) : (mkCtx tab glob).sz 177 = 3 := rfl
@[simp] theorem eq_177 (glob : Nat → Option (List D)) : (mkCtx tab glob).eqt 177 = [] := rfl
@[simp] theorem ze_177 (glob : Nat → Option (List D)) : (mkCtx tab glob).zero 177 = [.s [], .v (.int .i64 0), .v .nilIface] := rfl
@[simp] theorem td_178 (glob : Nat → Option (List D)) : (mkCtx tab glob).td 178 = .func := rfl
@[simp] theorem sz_178 (glob : Nat → Option (List D)) : (mkCtx tab glob).sz 178 = 1 := rfl
@[simp] theorem ze_178 (glob : Nat → Option (List D)) : (mkCtx tab glob).zero 178 = [.v .nilFunc] := rfl
@[simp] theorem td_179 (glob : Nat → Option (List D)) : (mkCtx tab glob).td 179 = .strct [(3, 0), (9, 1), (9, 2), (9, 3)] := rfl
@[simp] theorem sz_179 (glob : Nat → Option (List D)) : (mkCtx tab glob).sz 179 = 4 := rfl
@[simp] theorem eq_179 (glob : Nat → Option (List D)) : (mkCtx tab glob).eqt 179 = [] := rfl
@[simp] theorem ze_179 (glob : Nat → Option (List D)) : (mkCtx tab glob).zero 179 = [.v (.int .i64 0), .s [], .s [], .s []] := rfl
@[simp] theorem td_180 (glob : Nat → Option (List D)) : (mkCtx tab glob).td 180 = .strct [(3, 0), (9, 1), (9, 2), (9, 3)] := rfl
@[simp] theorem sz_180 (glob : Nat → Option (List D)) : (mkCtx tab glob).sz 180 = 4 := rfl
@[simp] theorem eq_180 (glob : Nat → Option (List D)) : (mkCtx tab glob).eqt 180 = [.i, .s, .s, .s] := rfl
@[simp] theorem ze_180 (glob : Nat → Option (List D)) : (mkCtx tab glob).zero 180 = [.v (.int .i64 0), .s [], .s [], .s []] := rfl
@[simp] theorem td_181 (glob : Nat → Option (List D)) : (mkCtx tab glob).td 181 = .func := rfl
@[simp] theorem sz_181 (glob : Nat → Option (List D)) : (mkCtx tab glob).sz 181 = 1 := rfl
@[simp] theorem ze_181 (glob : Nat → Option (List D)) : (mkCtx tab glob).zero 181 = [.v .nilFunc] := rfl
@[simp] theorem td_182 (glob : Nat → Option (List D)) : (mkCtx tab glob).td 182 = .func := rfl
@[simp] theorem sz_182 (glob : Nat → Option (List D)) : (mkCtx tab glob).sz 182 = 1 := rfl
@[simp] theorem ze_182 (glob : Nat → Option (List D)) : (mkCtx tab glob).zero 182 = [.v .nilFunc] := rfl
@[simp] theorem td_183 (glob : Nat → Option (List D)) : (mkCtx tab glob).td 183 = .slice 180 := rfl
@[simp] theorem sz_183 (glob : Nat → Option (List D)) : (mkCtx tab glob).sz 183 = 1 := rfl
@[simp] theorem ze_183 (glob : Nat → Option (List D)) : (mkCtx tab glob).zero 183 = [.sl 4 []] := rfl
@[simp] theorem td_185 (glob : Nat → Option (List D)) : (mkCtx tab glob).td 185 = .func := rfl
@[simp] theorem sz_185 (glob : Nat → Option (List D)) : (mkCtx tab glob).sz 185 = 1 := rfl
@[simp] theorem ze_185 (glob : Nat → Option (List D)) : (mkCtx tab glob).zero 185 = [.v .nilFunc] := rfl
@[simp] theorem td_187 (glob : Nat → Option (List D)) : (mkCtx tab glob).td 187 = .func := rfl
@[simp] theorem sz_187 (glob : Nat → Option (List D)) : (mkCtx tab glob).sz 187 = 1 := rfl
@[simp] theorem ze_187 (glob : Nat → Option (List D)) : (mkCtx tab glob).zero 187 = [.v .nilFunc] := rfl
@[simp] theorem td_188 (glob : Nat → Option (List D)) : (mkCtx tab glob).td 188 = .func := rfl
@[simp] theorem sz_188 (glob : Nat → Option (List D)) : (mkCtx tab glob).sz 188 = 1 := rfl
@[simp] theorem ze_188 (glob : Nat → Option (List D)) : (mkCtx tab glob).zero 188 = [.v .nilFunc] := rfl
@[simp] theorem td_189 (glob : Nat → Option (List D)) : (mkCtx tab glob).td 189 = .func := rfl
@[simp] theorem sz_189 (glob : Nat → Option (List D)) : (mkCtx tab glob).sz 189 = 1 := rfl
@[simp] theorem ze_189 (glob : Nat → Option (List D)) : (mkCtx tab glob).zero 189 = [.v .nilFunc] := rfl
@[simp] theorem td_190 (glob : Nat → Option (List D)) : (mkCtx tab glob).td 190 = .func := rfl
@[simp] theorem sz_190 (glob : Nat → Option (List D)) : (mkCtx tab glob).sz 190 = 1 := rfl
@[simp] theorem ze_190 (glob : Nat → Option (List D)) : (mkCtx tab glob).zero 190 = [.v .nilFunc] := rfl
@[simp] theorem td_191 (glob : Nat → Option (List D)) : (mkCtx tab glob).td 191 = .map 9 162 := rfl
@[simp] theorem sz_191 (glob : Nat → Option (List D)) : (mkCtx tab glob).sz 191 = 1 := rfl
@[simp] theorem ze_191 (glob : Nat → Option (List D)) : (mkCtx tab glob).zero 191 = [.v (.map none)] := rfl
@[simp] theorem td_192 (glob : Nat → Option (List D)) : (mkCtx tab glob).td 192 = .strct [(191, 0)] := rfl
@[simp] theorem sz_192 (glob : Nat → Option (List D)) : (mkCtx tab glob).sz 192 = 1 := rfl
@[simp] theorem eq_192 (glob : Nat → Option (List D)) : (mkCtx tab glob).eqt 192 = [] := rfl
@[simp] theorem ze_192 (glob : Nat → Option (List D)) : (mkCtx tab glob).zero 192 = [.v (.map none)] := rfl
@[simp] theorem td_193 (glob : Nat → Option (List D)) : (mkCtx tab glob).td 193 = .strct [(191, 0)] := rfl
@[simp] theorem sz_193 (glob : Nat → Option (List D)) : (mkCtx tab glob).sz 193 = 1 := rfl
@[simp] theorem eq_193 (glob : Nat → Option (List D)) : (mkCtx tab glob).eqt 193 = [] := rfl
@[simp] theorem ze_193 (glob : Nat → Option (List D)) : (mkCtx tab glob).zero 193 = [.v (.map none)] := rfl
@[simp] theorem td_194 (glob : Nat → Option (List D)) : (mkCtx tab glob).td 194 = .arr 32 5 := rfl
@[simp] theorem sz_194 (glob : Nat → Option (List D)) : (mkCtx tab glob).sz 194 = 32 := rfl
@[simp] theorem ze_194 (glob : Nat → Option (List D)) : (mkCtx tab glob).zero 194 = [.v (.int .u8 0), .v (.int .u8 0), .v (.int .u8 0), .v (.int .u8 0), .v (.int .u8 0), .v (.int .u8 0), .v (.int .u8 0), .v (.int .u8 0), .v (.int .u8 0), .v (.int .u8 0), .v (.int .u8 0), .v (.int .u8 0), .v (.int .u8 0), .v (.int .u8 0), .v (.int .u8 0), .v (.int .u8 0), .v (.int .u8 0), .v (.int .u8 0), .v (.int .u8 0), .v (.int .u8 0), .v (.int .u8 0), .v (.int .u8 0), .v (.int .u8 0), .v (.int .u8 0), .v (.int .u8 0), .v (.int .u8 0), .v (.int .u8 0), .v (.int .u8 0), .v (.int .u8 0), .v (.int .u8 0), .v (.int .u8 0), .v (.int .u8 0)] := rfl
@[simp] theorem td_196 (glob : Nat → Option (List D)) : (mkCtx tab glob).td 196 = .func := rfl
@[simp] theorem sz_196 (glob : Nat → Option (List D)) : (mkCtx tab glob).sz 196 = 1 := rfl
@[simp] theorem ze_196 (glob : Nat → Option (List D)) : (mkCtx tab glob).zero 196 = [.v .nilFunc] := rfl
@[simp] theorem td_197 (glob : Nat → Option (List D)) : (mkCtx tab glob).td 197 = .func := rfl
@[simp] theorem sz_197 (glob : Nat → Option (List D)) : (mkCtx tab glob).sz 197 = 1 := rfl
@[simp] theorem ze_197 (glob : Nat → Option (List D)) : (mkCtx tab glob).zero 197 = [.v .nilFunc] := rfl
@[simp] theorem td_199 (glob : Nat → Option (List D)) : (mkCtx tab glob).td 199 = .func := rfl
@[simp] theorem sz_199 (glob : Nat → Option (List D)) : (mkCtx tab glob).sz 199 = 1 := rfl
@[simp] theorem ze_199 (glob : Nat → Option (List D)) : (mkCtx tab glob).zero 199 = [.v .nilFunc] := rfl
@[simp] theorem td_200 (glob : Nat → Option (List D)) : (mkCtx tab glob).td 200 = .func := rfl
@[simp] theorem sz_200 (glob : Nat → Option (List D)) : (mkCtx tab glob).sz 200 = 1 := rfl
@[simp] theorem ze_200 (glob : Nat → Option (List D)) : (mkCtx tab glob).zero 200 = [.v .nilFunc] := rfl
@[simp] theorem td_201 (glob : Nat → Option (List D)) : (mkCtx tab glob).td 201 = .func := rfl
@[simp] theorem sz_201 (glob : Nat → Option (List D)) : (mkCtx tab glob).sz 201 = 1 := rfl
@[simp] theorem ze_201 (glob : Nat → Option (List D)) : (mkCtx tab glob).zero 201 = [.v .nilFunc] := rfl
@[simp] theorem td_202 (glob : Nat → Option (List D)) : (mkCtx tab glob).td 202 = .strct [(46, 0), (55, 1)] := rfl
@[simp] theorem sz_202 (glob : Nat → Option (List D)) : (mkCtx tab glob).sz 202 = 2 := rfl
@[simp] theorem eq_202 (glob : Nat → Option (List D)) : (mkCtx tab glob).eqt 202 = [] := rfl
@[simp] theorem ze_202 (glob : Nat → Option (List D)) : (mkCtx tab glob).zero 202 = [.v (.pointer none), .sl 2 []] := rfl
@[simp] theorem td_203 (glob : Nat → Option (List D)) : (mkCtx tab glob).td 203 = .strct [(46, 0), (55, 1)] := rfl
@[simp] theorem sz_203 (glob : Nat → Option (List D)) : (mkCtx tab glob).sz 203 = 2 := rfl
@[simp] theorem eq_203 (glob : Nat → Option (List D)) : (mkCtx tab glob).eqt 203 = [] := rfl
@[simp] theorem ze_203 (glob : Nat → Option (List D)) : (mkCtx tab glob).zero 203 = [.v (.pointer none), .sl 2 []] := rfl
@[simp] theorem td_204 (glob : Nat → Option (List D)) : (mkCtx tab glob).td 204 = .func := rfl
@[simp] theorem sz_204 (glob : Nat → Option (List D)) : (mkCtx tab glob).sz 204 = 1 := rfl
@[simp] theorem ze_204 (glob : Nat → Option (List D)) : (mkCtx tab glob).zero 204 = [.v .nilFunc] := rfl
@[simp] theorem td_205 (glob : Nat → Option (List D)) : (mkCtx tab glob).td 205 = .func := rfl
@[simp] theorem sz_205 (glob : Nat → Option (List D)) : (mkCtx tab glob).sz 205 = 1 := rfl
@[simp] theorem ze_205 (glob : Nat → Option (List D)) : (mkCtx tab glob).zero 205 = [.v .nilFunc] := rfl
@[simp] theorem td_206 (glob : Nat → Option (List D)) : (mkCtx tab glob).td 206 = .func := rfl
@[simp] theorem sz_206 (glob : Nat → Option (List D)) : (mkCtx tab glob).sz 206 = 1 := rfl
@[simp] theorem ze_206 (glob : Nat → Option (List D)) : (mkCtx tab glob).zero 206 = [.v .nilFunc] := rfl
@[simp] theorem td_207 (glob : Nat → Option (List D)) : (mkCtx tab glob).td 207 = .func := rfl
@[simp] theorem sz_207 (glob : Nat → Option (List D)) : (mkCtx tab glob).sz 207 = 1 := rfl
@[simp] theorem ze_207 (glob : Nat → Option (List D)) : (mkCtx tab glob).zero 207 = [.v .nilFunc] := rfl
@[simp] theorem td_208 (glob : Nat → Option (List D)) : (mkCtx tab glob).td 208 = .func := rfl
@[simp] theorem sz_208 (glob : Nat → Option (List D)) : (mkCtx tab glob).sz 208 = 1 := rfl
@[simp] theorem ze_208 (glob : Nat → Option (List D)) : (mkCtx tab glob).zero 208 = [.v .nilFunc] := rfl
@[simp] theorem td_209 (glob : Nat → Option (List D)) : (mkCtx tab glob).td 209 = .func := rfl
@[simp] theorem sz_209 (glob : Nat → Option (List D)) : (mkCtx tab glob).sz 209 = 1 := rfl
@[simp] theorem ze_209 (glob : Nat → Option (List D)) : (mkCtx tab glob).zero 209 = [.v .nilFunc] := rfl
@[simp] theorem td_210 (glob : Nat → Option (List D)) : (mkCtx tab glob).td 210 = .func := rfl
@[simp] theorem sz_210 (glob : Nat → Option (List D)) : (mkCtx tab glob).sz 210 = 1 := rfl
@[simp] theorem ze_210 (glob : Nat → Option (List D)) : (mkCtx tab glob).zero 210 = [.v .nilFunc] := rfl
@[simp] theorem td_211 (glob : Nat → Option (List D)) : (mkCtx tab glob).td 211 = .func := rfl
@[simp] theorem sz_211 (glob : Nat → Option (List D)) : (mkCtx tab glob).sz 211 = 1 := rfl
@[simp] theorem ze_211 (glob : Nat → Option (List D)) : (mkCtx tab glob).zero 211 = [.v .nilFunc] := rfl
@[simp] theorem td_212 (glob : Nat → Option (List D)) : (mkCtx tab glob).td 212 = .func := rfl
@[simp] theorem sz_212 (glob : Nat → Option (List D)) : (mkCtx tab glob).sz 212 = 1 := rfl
@[simp] theorem ze_212 (glob : Nat → Option (List D)) : (mkCtx tab glob).zero 212 = [.v .nilFunc] := rfl
@[simp] theorem td_213 (glob : Nat → Option (List D)) : (mkCtx tab glob).td 213 = .func := rfl
@[simp] theorem sz_213 (glob : Nat → Option (List D)) : (mkCtx tab glob).sz 213 = 1 := rfl
@[simp] theorem ze_213 (glob : Nat → Option (List D)) : (mkCtx tab glob).zero 213 = [.v .nilFunc] := rfl
@[simp] theorem td_215 (glob : Nat → Option (List D)) : (mkCtx tab glob).td 215 = .strct [(5, 0), (5, 1)] := rfl
@[simp] theorem sz_215 (glob : Nat → Option (List D)) : (mkCtx tab glob).sz 215 = 2 := rfl
@[simp] theorem eq_215 (glob : Nat → Option (List D)) : (mkCtx tab glob).eqt 215 = [] := rfl
@[simp] theorem ze_215 (glob : Nat → Option (List D)) : (mkCtx tab glob).zero 215 = [.v (.int .u8 0), .v (.int .u8 0)] := rfl
@[simp] theorem td_216 (glob : Nat → Option (List D)) : (mkCtx tab glob).td 216 = .strct [(5, 0), (5, 1)] := rfl
@[simp] theorem sz_216 (glob : Nat → Option (List D)) : (mkCtx tab glob).sz 216 = 2 := rfl
@[simp] theorem eq_216 (glob : Nat → Option (List D)) : (mkCtx tab glob).eqt 216 = [] := rfl
@[simp] theorem ze_216 (glob : Nat → Option (List D)) : (mkCtx tab glob).zero 216 = [.v (.int .u8 0), .v (.int .u8 0)] := rfl
@[simp] theorem td_217 (glob : Nat → Option (List D)) : (mkCtx tab glob).td 217 = .arr 16 216 := rfl
@[simp] theorem sz_217 (glob : Nat → Option (List D)) : (mkCtx tab glob).sz 217 = 32 := rfl
@[simp] theorem ze_217 (glob : Nat → Option (List D)) : (mkCtx tab glob).zero 217 = [.v (.int .u8 0), .v (.int .u8 0), .v (.int .u8 0), .v (.int .u8 0), .v (.int .u8 0), .v (.int .u8 0), .v (.int .u8 0), .v (.int .u8 0), .v (.int .u8 0), .v (.int .u8 0), .v (.int .u8 0), .v (.int .u8 0), .v (.int .u8 0), .v (.int .u8 0), .v (.int .u8 0), .v (.int .u8 0), .v (.int .u8 0), .v (.int .u8 0), .v (.int .u8 0), .v (.int .u8 0), .v (.int .u8 0), .v (.int .u8 0), .v (.int .u8 0), .v (.int .u8 0), .v (.int .u8 0), .v (.int .u8 0), .v (.int .u8 0), .v (.int .u8 0), .v (.int .u8 0), .v (.int .u8 0), .v (.int .u8 0), .v (.int .u8 0)] := rfl
@[simp] theorem td_218 (glob : Nat → Option (List D)) : (mkCtx tab glob).td 218 = .func := rfl
@[simp] theorem sz_218 (glob : Nat → Option (List D)) : (mkCtx tab glob).sz 218 = 1 := rfl
@[simp] theorem ze_218 (glob : Nat → Option (List D)) : (mkCtx tab glob).zero 218 = [.v .nilFunc] := rfl
@[simp] theorem td_219 (glob : Nat → Option (List D)) : (mkCtx tab glob).td 219 = .func := rfl
@[simp] theorem sz_219 (glob : Nat → Option (List D)) : (mkCtx tab glob).sz 219 = 1 := rfl
@[simp] theorem ze_219 (glob : Nat → Option (List D)) : (mkCtx tab glob).zero 219 = [.v .nilFunc] := rfl
@[simp] theorem td_220 (glob : Nat → Option (List D)) : (mkCtx tab glob).td 220 = .func := rfl
@[simp] theorem sz_220 (glob : Nat → Option (List D)) : (mkCtx tab glob).sz 220 = 1 := rfl
@[simp] theorem ze_220 (glob : Nat → Option (List D)) : (mkCtx tab glob).zero 220 = [.v .nilFunc] := rfl
@[simp] theorem td_222 (glob : Nat → Option (List D)) : (mkCtx tab glob).td 222 = .func := rfl
@[simp] theorem sz_222 (glob : Nat → Option (List D)) : (mkCtx tab glob).sz 222 = 1 := rfl
@[simp] theorem ze_222 (glob : Nat → Option (List D)) : (mkCtx tab glob).zero 222 = [.v .nilFunc] := rfl
@[simp] theorem td_223 (glob : Nat → Option (List D)) : (mkCtx tab glob).td 223 = .ptr 225 := rfl
@[simp] theorem sz_223 (glob : Nat → Option (List D)) : (mkCtx tab glob).sz 223 = 1 := rfl
@[simp] theorem ze_223 (glob : Nat → Option (List D)) : (mkCtx tab glob).zero 223 = [.v (.pointer none)] := rfl
@[simp] theorem td_224 (glob : Nat → Option (List D)) : (mkCtx tab glob).td 224 = .strct [(223, 0), (116, 1)] := rfl
@[simp] theorem sz_224 (glob : Nat → Option (List D)) : (mkCtx tab glob).sz 224 = 2 := rfl
@[simp] theorem eq_224 (glob : Nat → Option (List D)) : (mkCtx tab glob).eqt 224 = [] := rfl
@[simp] theorem ze_224 (glob : Nat → Option (List D)) : (mkCtx tab glob).zero 224 = [.v (.pointer none), .sl 1 []] := rfl
@[simp] theorem td_225 (glob : Nat → Option (List D)) : (mkCtx tab glob).td 225 = .strct [(223, 0), (116, 1)] := rfl
@[simp] theorem sz_225 (glob : Nat → Option (List D)) : (mkCtx tab glob).sz 225 = 2 := rfl
@[simp] theorem eq_225 (glob : Nat → Option (List D)) : (mkCtx tab glob).eqt 225 = [] := rfl
@[simp] theorem ze_225 (glob : Nat → Option (List D)) : (mkCtx tab glob).zero 225 = [.v (.pointer none), .sl 1 []] := rfl
@[simp] theorem td_226 (glob : Nat → Option (List D)) : (mkCtx tab glob).td 226 = .func := rfl
@[simp] theorem sz_226 (glob : Nat → Option (List D)) : (mkCtx tab glob).sz 226 = 1 := rfl
@[simp] theorem ze_226 (glob : Nat → Option (List D)) : (mkCtx tab glob).zero 226 = [.v .nilFunc] := rfl
@[simp] theorem td_228 (glob : Nat → Option (List D)) : (mkCtx tab glob).td 228 = .func := rfl
@[simp] theorem sz_228 (glob : Nat → Option (List D)) : (mkCtx tab glob).sz 228 = 1 := rfl
@[simp] theorem ze_228 (glob : Nat → Option (List D)) : (mkCtx tab glob).zero 228 = [.v .nilFunc] := rfl
@[simp] theorem td_229 (glob : Nat → Option (List D)) : (mkCtx tab glob).td 229 = .ptr 5 := rfl
@[simp] theorem sz_229 (glob : Nat → Option (List D)) : (mkCtx tab glob).sz 229 = 1 := rfl
@[simp] theorem ze_229 (glob : Nat → Option (List D)) : (mkCtx tab glob).zero 229 = [.v (.pointer none)] := rfl
@[simp] theorem td_230 (glob : Nat → Option (List D)) : (mkCtx tab glob).td 230 = .func := rfl
@[simp] theorem sz_230 (glob : Nat → Option (List D)) : (mkCtx tab glob).sz 230 = 1 := rfl
@[simp] theorem ze_230 (glob : Nat → Option (List D)) : (mkCtx tab glob).zero 230 = [.v .nilFunc] := rfl
@[simp] theorem td_231 (glob : Nat → Option (List D)) : (mkCtx tab glob).td 231 = .func := rfl
@[simp] theorem sz_231 (glob : Nat → Option (List D)) : (mkCtx tab glob).sz 231 = 1 := rfl
@[simp] theorem ze_231 (glob : Nat → Option (List D)) : (mkCtx tab glob).zero 231 = [.v .nilFunc] := rfl
@[simp] theorem td_232 (glob : Nat → Option (List D)) : (mkCtx tab glob).td 232 = .func := rfl
@[simp] theorem sz_232 (glob : Nat → Option (List D)) : (mkCtx tab glob).sz 232 = 1 := rfl
@[simp] theorem ze_232 (glob : Nat → Option (List D)) : (mkCtx tab glob).zero 232 = [.v .nilFunc] := rfl
@[simp] theorem td_233 (glob : Nat → Option (List D)) : (mkCtx tab glob).td 233 = .ptr 252 := rfl
@[simp] theorem sz_233 (glob : Nat → Option (List D)) : (mkCtx tab glob).sz 233 = 1 := rfl
@[simp] theorem ze_233 (glob : Nat → Option (List D)) : (mkCtx tab glob).zero 233 = [.v (.pointer none)] := rfl
@[simp] theorem td_234 (glob : Nat → Option (List D)) : (mkCtx tab glob).td 234 = .strct [(17, 0), (17, 1), (17, 2), (9, 3)] := rfl
@[simp] theorem sz_234 (glob : Nat → Option (List D)) : (mkCtx tab glob).sz 234 = 4 := rfl
@[simp] theorem eq_234 (glob : Nat → Option (List D)) : (mkCtx tab glob).eqt 234 = [] := rfl
@[simp] theorem ze_234 (glob : Nat → Option (List D)) : (mkCtx tab glob).zero 234 = [.v (.pointer none), .v (.pointer none), .v (.pointer none), .s []] := rfl
@[simp] theorem td_235 (glob : Nat → Option (List D)) : (mkCtx tab glob).td 235 = .strct [(17, 0), (17, 1), (17, 2), (9, 3)] := rfl
@[simp] theorem sz_235 (glob : Nat → Option (List D)) : (mkCtx tab glob).sz 235 = 4 := rfl
@[simp] theorem eq_235 (glob : Nat → Option (List D)) : (mkCtx tab glob).eqt 235 = [] := rfl
@[simp] theorem ze_235 (glob : Nat → Option (List D)) : (mkCtx tab glob).zero 235 = [.v (.pointer none), .v (.pointer none), .v (.pointer none), .s []] := rfl
@[simp] theorem td_236 (glob : Nat → Option (List D)) : (mkCtx tab glob).td 236 = .arr 0 16 := rfl
@[simp] theorem sz_236 (glob : Nat → Option (List D)) : (mkCtx tab glob).sz 236 = 0 := rfl
@[simp] theorem ze_236 (glob : Nat → Option (List D)) : (mkCtx tab glob).zero 236 = [] := rfl
@[simp] theorem td_239 (glob : Nat → Option (List D)) : (mkCtx tab glob).td 239 = .func := rfl
@[simp] theorem sz_239 (glob : Nat → Option (List D)) : (mkCtx tab glob).sz 239 = 1 := rfl
@[simp] theorem ze_239 (glob : Nat → Option (List D)) : (mkCtx tab glob).zero 239 = [.v .nilFunc] := rfl
@[simp] theorem td_240 (glob : Nat → Option (List D)) : (mkCtx tab glob).td 240 = .func := rfl
@[simp] theorem sz_240 (glob : Nat → Option (List D)) : (mkCtx tab glob).sz 240 = 1 := rfl
@[simp] theorem ze_240 (glob : Nat → Option (List D)) : (mkCtx tab glob).zero 240 = [.v .nilFunc] := rfl
@[simp] theorem td_241 (glob : Nat → Option (List D)) : (mkCtx tab glob).td 241 = .int .u8 := rfl
@[simp] theorem sz_241 (glob : Nat → Option (List D)) : (mkCtx tab glob).sz 241 = 1 := rfl
@[simp] theorem ze_241 (glob : Nat → Option (List D)) : (mkCtx tab glob).zero 241 = [.v (.int .u8 0)] := rfl
@[simp] theorem td_242 (glob : Nat → Option (List D)) : (mkCtx tab glob).td 242 = .func := rfl
@[simp] theorem sz_242 (glob : Nat → Option (List D)) : (mkCtx tab glob).sz 242 = 1 := rfl
@[simp] theorem ze_242 (glob : Nat → Option (List D)) : (mkCtx tab glob).zero 242 = [.v .nilFunc] := rfl
@[simp] theorem td_243 (glob : Nat → Option (List D)) : (mkCtx tab glob).td 243 = .int .i32 := rfl
@[simp] theorem sz_243 (glob : Nat → Option (List D)) : (mkCtx tab glob).sz 243 = 1 := rfl
@[simp] theorem ze_243 (glob : Nat → Option (List D)) : (mkCtx tab glob).zero 243 = [.v (.int .i32 0)] := rfl
@[simp] theorem td_244 (glob : Nat → Option (List D)) : (mkCtx tab glob).td 244 = .int .i32 := rfl
@[simp] theorem sz_244 (glob : Nat → Option (List D)) : (mkCtx tab glob).sz 244 = 1 := rfl
@[simp] theorem ze_244 (glob : Nat → Option (List D)) : (mkCtx tab glob).zero 244 = [.v (.int .i32 0)] := rfl
@[simp] theorem td_245 (glob : Nat → Option (List D)) : (mkCtx tab glob).td 245 = .strct [(12, 0), (12, 1), (140, 2), (241, 3), (5, 4), (5, 5), (74, 6), (242, 7), (229, 8), (243, 9), (244, 10)] := rfl
@[simp] theorem sz_245 (glob : Nat → Option (List D)) : (mkCtx tab glob).sz 245 = 11 := rfl
@[simp] theorem eq_245 (glob : Nat → Option (List D)) : (mkCtx tab glob).eqt 245 = [] := rfl
@[simp] theorem ze_245 (glob : Nat → Option (List D)) : (mkCtx tab glob).zero 245 = [.v (.int .u64 0), .v (.int .u64 0), .v (.int .u32 0), .v (.int .u8 0), .v (.int .u8 0), .v (.int .u8 0), .v (.int .u8 0), .v .nilFunc, .v (.pointer none), .v (.int .i32 0), .v (.int .i32 0)] := rfl
@[simp] theorem td_246 (glob : Nat → Option (List D)) : (mkCtx tab glob).td 246 = .strct [(12, 0), (12, 1), (140, 2), (241, 3), (5, 4), (5, 5), (74, 6), (242, 7), (229, 8), (243, 9), (244, 10)] := rfl
@[simp] theorem sz_246 (glob : Nat → Option (List D)) : (mkCtx tab glob).sz 246 = 11 := rfl
@[simp] theorem eq_246 (glob : Nat → Option (List D)) : (mkCtx tab glob).eqt 246 = [] := rfl
@[simp] theorem ze_246 (glob : Nat → Option (List D)) : (mkCtx tab glob).zero 246 = [.v (.int .u64 0), .v (.int .u64 0), .v (.int .u32 0), .v (.int .u8 0), .v (.int .u8 0), .v (.int .u8 0), .v (.int .u8 0), .v .nilFunc, .v (.pointer none), .v (.int .i32 0), .v (.int .i32 0)] := rfl
@[simp] theorem td_247 (glob : Nat → Option (List D)) : (mkCtx tab glob).td 247 = .func := rfl
@[simp] theorem sz_247 (glob : Nat → Option (List D)) : (mkCtx tab glob).sz 247 = 1 := rfl
@[simp] theorem ze_247 (glob : Nat → Option (List D)) : (mkCtx tab glob).zero 247 = [.v .nilFunc] := rfl
@[simp] theorem td_248 (glob : Nat → Option (List D)) : (mkCtx tab glob).td 248 = .func := rfl
@[simp] theorem sz_248 (glob : Nat → Option (List D)) : (mkCtx tab glob).sz 248 = 1 := rfl
@[simp] theorem ze_248 (glob : Nat → Option (List D)) : (mkCtx tab glob).zero 248 = [.v .nilFunc] := rfl
@[simp] theorem td_249 (glob : Nat → Option (List D)) : (mkCtx tab glob).td 249 = .strct [(9, 0), (74, 1)] := rfl
@[simp] theorem sz_249 (glob : Nat → Option (List D)) : (mkCtx tab glob).sz 249 = 2 := rfl
@[simp] theorem eq_249 (glob : Nat → Option (List D)) : (mkCtx tab glob).eqt 249 = [] := rfl
@[simp] theorem ze_249 (glob : Nat → Option (List D)) : (mkCtx tab glob).zero 249 = [.s [], .v (.int .u8 0)] := rfl
@[simp] theorem td_250 (glob : Nat → Option (List D)) : (mkCtx tab glob).td 250 = .strct [(9, 0), (74, 1)] := rfl
@[simp] theorem sz_250 (glob : Nat → Option (List D)) : (mkCtx tab glob).sz 250 = 2 := rfl
@[simp] theorem eq_250 (glob : Nat → Option (List D)) : (mkCtx tab glob).eqt 250 = [] := rfl
@[simp] theorem ze_250 (glob : Nat → Option (List D)) : (mkCtx tab glob).zero 250 = [.s [], .v (.int .u8 0)] := rfl
@[simp] theorem td_251 (glob : Nat → Option (List D)) : (mkCtx tab glob).td 251 = .strct [(9, 0)] := rfl
@[simp] theorem sz_251 (glob : Nat → Option (List D)) : (mkCtx tab glob).sz 251 = 1 := rfl
@[simp] theorem eq_251 (glob : Nat → Option (List D)) : (mkCtx tab glob).eqt 251 = [] := rfl
@[simp] theorem ze_251 (glob : Nat → Option (List D)) : (mkCtx tab glob).zero 251 = [.s []] := rfl
@[simp] theorem td_252 (glob : Nat → Option (List D)) : (mkCtx tab glob).td 252 = .strct [(9, 0)] := rfl
@[simp] theorem sz_252 (glob : Nat → Option (List D)) : (mkCtx tab glob).sz 252 = 1 := rfl
@[simp] theorem eq_252 (glob : Nat → Option (List D)) : (mkCtx tab glob).eqt 252 = [] := rfl
@[simp] theorem ze_252 (glob : Nat → Option (List D)) : (mkCtx tab glob).zero 252 = [.s []] := rfl
@[simp] theorem td_253 (glob : Nat → Option (List D)) : (mkCtx tab glob).td 253 = .ptr 257 := rfl
@[simp] theorem sz_253 (glob : Nat → Option (List D)) : (mkCtx tab glob).sz 253 = 1 := rfl
@[simp] theorem ze_253 (glob : Nat → Option (List D)) : (mkCtx tab glob).zero 253 = [.v (.pointer none)] := rfl
@[simp] theorem td_254 (glob : Nat → Option (List D)) : (mkCtx tab glob).td 254 = .func := rfl
@[simp] theorem sz_254 (glob : Nat → Option (List D)) : (mkCtx tab glob).sz 254 = 1 := rfl
@[simp] theorem ze_254 (glob : Nat → Option (List D)) : (mkCtx tab glob).zero 254 = [.v .nilFunc] := rfl
@[simp] theorem td_255 (glob : Nat → Option (List D)) : (mkCtx tab glob).td 255 = .int .u16 := rfl
@[simp] theorem sz_255 (glob : Nat → Option (List D)) : (mkCtx tab glob).sz 255 = 1 := rfl
@[simp] theorem ze_255 (glob : Nat → Option (List D)) : (mkCtx tab glob).zero 255 = [.v (.int .u16 0)] := rfl
@[simp] theorem td_256 (glob : Nat → Option (List D)) : (mkCtx tab glob).td 256 = .strct [(243, 0), (255, 1), (255, 2), (140, 3), (140, 4)] := rfl
@[simp] theorem sz_256 (glob : Nat → Option (List D)) : (mkCtx tab glob).sz 256 = 5 := rfl
@[simp] theorem eq_256 (glob : Nat → Option (List D)) : (mkCtx tab glob).eqt 256 = [] := rfl
@[simp] theorem ze_256 (glob : Nat → Option (List D)) : (mkCtx tab glob).zero 256 = [.v (.int .i32 0), .v (.int .u16 0), .v (.int .u16 0), .v (.int .u32 0), .v (.int .u32 0)] := rfl
@[simp] theorem td_257 (glob : Nat → Option (List D)) : (mkCtx tab glob).td 257 = .strct [(243, 0), (255, 1), (255, 2), (140, 3), (140, 4)] := rfl
@[simp] theorem sz_257 (glob : Nat → Option (List D)) : (mkCtx tab glob).sz 257 = 5 := rfl
@[simp] theorem eq_257 (glob : Nat → Option (List D)) : (mkCtx tab glob).eqt 257 = [] := rfl
@[simp] theorem ze_257 (glob : Nat → Option (List D)) : (mkCtx tab glob).zero 257 = [.v (.int .i32 0), .v (.int .u16 0), .v (.int .u16 0), .v (.int .u32 0), .v (.int .u32 0)] := rfl
@[simp] theorem td_258 (glob : Nat → Option (List D)) : (mkCtx tab glob).td 258 = .slice 261 := rfl
@[simp] theorem sz_258 (glob : Nat → Option (List D)) : (mkCtx tab glob).sz 258 = 1 := rfl
@[simp] theorem ze_258 (glob : Nat → Option (List D)) : (mkCtx tab glob).zero 258 = [.sl 4 []] := rfl
@[simp] theorem td_259 (glob : Nat → Option (List D)) : (mkCtx tab glob).td 259 = .int .i32 := rfl
@[simp] theorem sz_259 (glob : Nat → Option (List D)) : (mkCtx tab glob).sz 259 = 1 := rfl
@[simp] theorem ze_259 (glob : Nat → Option (List D)) : (mkCtx tab glob).zero 259 = [.v (.int .i32 0)] := rfl
@[simp] theorem td_260 (glob : Nat → Option (List D)) : (mkCtx tab glob).td 260 = .strct [(243, 0), (244, 1), (259, 2), (259, 3)] := rfl
@[simp] theorem sz_260 (glob : Nat → Option (List D)) : (mkCtx tab glob).sz 260 = 4 := rfl
@[simp] theorem eq_260 (glob : Nat → Option (List D)) : (mkCtx tab glob).eqt 260 = [] := rfl
@[simp] theorem ze_260 (glob : Nat → Option (List D)) : (mkCtx tab glob).zero 260 = [.v (.int .i32 0), .v (.int .i32 0), .v (.int .i32 0), .v (.int .i32 0)] := rfl
@[simp] theorem td_261 (glob : Nat → Option (List D)) : (mkCtx tab glob).td 261 = .strct [(243, 0), (244, 1), (259, 2), (259, 3)] := rfl
@[simp] theorem sz_261 (glob : Nat → Option (List D)) : (mkCtx tab glob).sz 261 = 4 := rfl
@[simp] theorem eq_261 (glob : Nat → Option (List D)) : (mkCtx tab glob).eqt 261 = [] := rfl
@[simp] theorem ze_261 (glob : Nat → Option (List D)) : (mkCtx tab glob).zero 261 = [.v (.int .i32 0), .v (.int .i32 0), .v (.int .i32 0), .v (.int .i32 0)] := rfl
@[simp] theorem td_262 (glob : Nat → Option (List D)) : (mkCtx tab glob).td 262 = .ptr 26 := rfl
@[simp] theorem sz_262 (glob : Nat → Option (List D)) : (mkCtx tab glob).sz 262 = 1 := rfl
@[simp] theorem ze_262 (glob : Nat → Option (List D)) : (mkCtx tab glob).zero 262 = [.v (.pointer none)] := rfl
@[simp] theorem cm_24 (glob : Nat → Option (List D)) : (mkCtx tab glob).cmp 24 = false := rfl
@[simp] theorem ha_24_101 (glob : Nat → Option (List D)) : (mkCtx tab glob).has 24 101 = some false := rfl
@[simp] theorem ha_24_98 (glob : Nat → Option (List D)) : (mkCtx tab glob).has 24 98 = some true := rfl
@[simp] theorem me_24_Unwrap (glob : Nat → Option (List D)) : (mkCtx tab glob).meth 24 "Unwrap" = some 11 := by kernel_rfl
@[simp] theorem cm_108 (glob : Nat → Option (List D)) : (mkCtx tab glob).cmp 108 = false := rfl
@[simp] theorem ha_108_101 (glob : Nat → Option (List D)) : (mkCtx tab glob).has 108 101 = some false := rfl
@[simp] theorem ha_108_98 (glob : Nat → Option (List D)) : (mkCtx tab glob).has 108 98 = some true := rfl
@[simp] theorem me_108_Unwrap (glob : Nat → Option (List D)) : (mkCtx tab glob).meth 108 "Unwrap" = some 199 := by kernel_rfl
@[simp] theorem cm_233 (glob : Nat → Option (List D)) : (mkCtx tab glob).cmp 233 = true := rfl
@[simp] theorem ha_233_101 (glob : Nat → Option (List D)) : (mkCtx tab glob).has 233 101 = some false := rfl
@[simp] theorem ha_233_98 (glob : Nat → Option (List D)) : (mkCtx tab glob).has 233 98 = some false := rfl
@[simp] theorem ha_233_99 (glob : Nat → Option (List D)) : (mkCtx tab glob).has 233 99 = some false := rfl
@[simp] theorem gl_any (glob : Nat → Option (List D)) (g : Nat) : (mkCtx tab glob).glob g = glob g := rfl

end Go.Ab
