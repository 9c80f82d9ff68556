/- One text of a proof that a law of this seat says true for every input: an evaluator of code over data, and that it tells the truth. It holds of the given program under the conditions that the row prints. -/
import Derived.Test.YtmnidmkahpfaaaaGreatDoorAbC
import Derived.Test.YtmnidmkahpfaaaaGreatDoorProg
set_option linter.unusedSimpArgs false
set_option linter.unusedVariables false
set_option linter.unusedSectionVars false
namespace Go.Ab
open Go.Proofs

/-- The types of the program, as far as the evaluator asks. -/
def tab : List TI := [
  ⟨.other, 0, [], [], false, [], []⟩,
  ⟨.func, 1, [.v .nilFunc], [], false, [], []⟩,
  ⟨.int .i64, 1, [.v (.int .i64 0)], [], false, [], []⟩,
  ⟨.int .i64, 1, [.v (.int .i64 0)], [], false, [], []⟩,
  ⟨.bool, 1, [.v (.bool false)], [], false, [], []⟩,
  ⟨.int .u8, 1, [.v (.int .u8 0)], [], false, [], []⟩,
  ⟨.int .u8, 1, [.v (.int .u8 0)], [], false, [], []⟩,
  ⟨.strct [(2, 0), (3, 1), (4, 2), (6, 3)], 4, [.v (.int .i64 0), .v (.int .i64 0), .v (.bool false), .v (.int .u8 0)], [], false, [], []⟩,
  ⟨.strct [(2, 0), (3, 1), (4, 2), (6, 3)], 4, [.v (.int .i64 0), .v (.int .i64 0), .v (.bool false), .v (.int .u8 0)], [], false, [], []⟩,
  ⟨.str, 1, [.s []], [], false, [], []⟩,
  ⟨.str, 1, [.s []], [], false, [], []⟩,
  ⟨.str, 1, [.s []], [], false, [], []⟩,
  ⟨.int .u64, 1, [.v (.int .u64 0)], [], false, [], []⟩,
  ⟨.strct [(9, 0), (12, 1)], 2, [.s [], .v (.int .u64 0)], [], false, [], []⟩,
  ⟨.strct [(9, 0), (12, 1)], 2, [.s [], .v (.int .u64 0)], [], false, [], []⟩,
  ⟨.ptr 183, 1, [.v (.pointer none)], [], false, [], []⟩,
  ⟨.ptr 186, 1, [.v (.pointer none)], [], false, [], []⟩,
  ⟨.ptr 194, 1, [.v (.pointer none)], [], false, [], []⟩,
  ⟨.strct [(17, 0)], 1, [.v (.pointer none)], [], false, [], []⟩,
  ⟨.strct [(17, 0)], 1, [.v (.pointer none)], [], false, [], []⟩,
  ⟨.iface true, 1, [.v .nilIface], [], false, [], []⟩,
  ⟨.int .i32, 1, [.v (.int .i32 0)], [], false, [], []⟩,
  ⟨.slice 9, 1, [.sl 1 []], [], false, [], []⟩,
  ⟨.slice 60, 1, [.sl 4 []], [], false, [], []⟩,
  ⟨.strct [(4, 0), (4, 1), (4, 2), (4, 3), (4, 4), (4, 5), (22, 6), (22, 7), (9, 8), (3, 9), (23, 10)], 11, [.v (.bool false), .v (.bool false), .v (.bool false), .v (.bool false), .v (.bool false), .v (.bool false), .sl 1 [], .sl 1 [], .s [], .v (.int .i64 0), .sl 4 []], [], false, [], []⟩,
  ⟨.strct [(4, 0), (4, 1), (4, 2), (4, 3), (4, 4), (4, 5), (22, 6), (22, 7), (9, 8), (3, 9), (23, 10)], 11, [.v (.bool false), .v (.bool false), .v (.bool false), .v (.bool false), .v (.bool false), .v (.bool false), .sl 1 [], .sl 1 [], .s [], .v (.int .i64 0), .sl 4 []], [], false, [], []⟩,
  ⟨.func, 1, [.v .nilFunc], [], false, [], []⟩,
  ⟨.func, 1, [.v .nilFunc], [], false, [], []⟩,
  ⟨.slice 74, 1, [.sl 4 []], [], false, [], []⟩,
  ⟨.strct [(4, 0), (22, 1), (28, 2)], 3, [.v (.bool false), .sl 1 [], .sl 4 []], [], false, [], []⟩,
  ⟨.strct [(4, 0), (22, 1), (28, 2)], 3, [.v (.bool false), .sl 1 [], .sl 4 []], [], false, [], []⟩,
  ⟨.strct [(3, 0), (4, 1), (4, 2), (4, 3), (4, 4), (30, 5)], 8, [.v (.int .i64 0), .v (.bool false), .v (.bool false), .v (.bool false), .v (.bool false), .v (.bool false), .sl 1 [], .sl 4 []], [], false, [], []⟩,
  ⟨.strct [(3, 0), (4, 1), (4, 2), (4, 3), (4, 4), (30, 5)], 8, [.v (.int .i64 0), .v (.bool false), .v (.bool false), .v (.bool false), .v (.bool false), .v (.bool false), .sl 1 [], .sl 4 []], [], false, [], []⟩,
  ⟨.func, 1, [.v .nilFunc], [], false, [], []⟩,
  ⟨.slice 75, 1, [.sl 4 []], [], false, [], []⟩,
  ⟨.strct [(4, 0), (22, 1), (34, 2)], 3, [.v (.bool false), .sl 1 [], .sl 4 []], [], false, [], []⟩,
  ⟨.strct [(4, 0), (22, 1), (34, 2)], 3, [.v (.bool false), .sl 1 [], .sl 4 []], [], false, [], []⟩,
  ⟨.strct [(3, 0), (4, 1), (4, 2), (4, 3), (4, 4), (36, 5)], 8, [.v (.int .i64 0), .v (.bool false), .v (.bool false), .v (.bool false), .v (.bool false), .v (.bool false), .sl 1 [], .sl 4 []], [], false, [], []⟩,
  ⟨.strct [(3, 0), (4, 1), (4, 2), (4, 3), (4, 4), (36, 5)], 8, [.v (.int .i64 0), .v (.bool false), .v (.bool false), .v (.bool false), .v (.bool false), .v (.bool false), .sl 1 [], .sl 4 []], [], false, [], []⟩,
  ⟨.func, 1, [.v .nilFunc], [], false, [], []⟩,
  ⟨.func, 1, [.v .nilFunc], [], false, [], []⟩,
  ⟨.func, 1, [.v .nilFunc], [], false, [], []⟩,
  ⟨.slice 80, 1, [.sl 3 []], [], false, [], []⟩,
  ⟨.slice 196, 1, [.sl 2 []], [], false, [], []⟩,
  ⟨.slice 125, 1, [.sl 3 []], [], false, [], []⟩,
  ⟨.strct [(42, 0), (23, 1), (43, 2), (44, 3), (28, 4)], 5, [.sl 3 [], .sl 4 [], .sl 2 [], .sl 3 [], .sl 4 []], [], false, [], []⟩,
  ⟨.strct [(42, 0), (23, 1), (43, 2), (44, 3), (28, 4)], 5, [.sl 3 [], .sl 4 [], .sl 2 [], .sl 3 [], .sl 4 []], [], false, [], []⟩,
  ⟨.slice 113, 1, [.sl 6 []], [], false, [], []⟩,
  ⟨.slice 101, 1, [.sl 9 []], [], false, [], []⟩,
  ⟨.strct [(22, 0), (47, 1), (48, 2), (22, 3)], 4, [.sl 1 [], .sl 6 [], .sl 9 [], .sl 1 []], [], false, [], []⟩,
  ⟨.strct [(22, 0), (47, 1), (48, 2), (22, 3)], 4, [.sl 1 [], .sl 6 [], .sl 9 [], .sl 1 []], [], false, [], []⟩,
  ⟨.slice 57, 1, [.sl 6 []], [], false, [], []⟩,
  ⟨.slice 3, 1, [.sl 1 []], [], false, [], []⟩,
  ⟨.strct [(50, 0), (51, 4), (42, 5), (52, 6), (25, 7), (3, 18)], 19, [.sl 1 [], .sl 6 [], .sl 9 [], .sl 1 [], .sl 6 [], .sl 3 [], .sl 1 [], .v (.bool false), .v (.bool false), .v (.bool false), .v (.bool false), .v (.bool false), .v (.bool false), .sl 1 [], .sl 1 [], .s [], .v (.int .i64 0), .sl 4 [], .v (.int .i64 0)], [], false, [], []⟩,
  ⟨.strct [(50, 0), (51, 4), (42, 5), (52, 6), (25, 7), (3, 18)], 19, [.sl 1 [], .sl 6 [], .sl 9 [], .sl 1 [], .sl 6 [], .sl 3 [], .sl 1 [], .v (.bool false), .v (.bool false), .v (.bool false), .v (.bool false), .v (.bool false), .v (.bool false), .sl 1 [], .sl 1 [], .s [], .v (.int .i64 0), .sl 4 [], .v (.int .i64 0)], [], false, [], []⟩,
  ⟨.func, 1, [.v .nilFunc], [], false, [], []⟩,
  ⟨.strct [(3, 0), (3, 1), (3, 2), (3, 3), (3, 4), (3, 5)], 6, [.v (.int .i64 0), .v (.int .i64 0), .v (.int .i64 0), .v (.int .i64 0), .v (.int .i64 0), .v (.int .i64 0)], [], false, [], []⟩,
  ⟨.strct [(3, 0), (3, 1), (3, 2), (3, 3), (3, 4), (3, 5)], 6, [.v (.int .i64 0), .v (.int .i64 0), .v (.int .i64 0), .v (.int .i64 0), .v (.int .i64 0), .v (.int .i64 0)], [.i, .i, .i, .i, .i, .i], false, [], []⟩,
  ⟨.slice 62, 1, [.sl 5 []], [], false, [], []⟩,
  ⟨.strct [(9, 0), (22, 1), (3, 2), (4, 3)], 4, [.s [], .sl 1 [], .v (.int .i64 0), .v (.bool false)], [], false, [], []⟩,
  ⟨.strct [(9, 0), (22, 1), (3, 2), (4, 3)], 4, [.s [], .sl 1 [], .v (.int .i64 0), .v (.bool false)], [], false, [], []⟩,
  ⟨.strct [(3, 0), (60, 1)], 5, [.v (.int .i64 0), .s [], .sl 1 [], .v (.int .i64 0), .v (.bool false)], [], false, [], []⟩,
  ⟨.strct [(3, 0), (60, 1)], 5, [.v (.int .i64 0), .s [], .sl 1 [], .v (.int .i64 0), .v (.bool false)], [], false, [], []⟩,
  ⟨.func, 1, [.v .nilFunc], [], false, [], []⟩,
  ⟨.func, 1, [.v .nilFunc], [], false, [], []⟩,
  ⟨.func, 1, [.v .nilFunc], [], false, [], []⟩,
  ⟨.func, 1, [.v .nilFunc], [], false, [], []⟩,
  ⟨.iface false, 1, [.v .nilIface], [], false, [], []⟩,
  ⟨.iface false, 1, [.v .nilIface], [], false, [], []⟩,
  ⟨.other, 0, [], [], false, [], []⟩,
  ⟨.func, 1, [.v .nilFunc], [], false, [], []⟩,
  ⟨.func, 1, [.v .nilFunc], [], false, [], []⟩,
  ⟨.func, 1, [.v .nilFunc], [], false, [], []⟩,
  ⟨.strct [(9, 0), (9, 1), (9, 2), (4, 3)], 4, [.s [], .s [], .s [], .v (.bool false)], [], false, [], []⟩,
  ⟨.strct [(9, 0), (9, 1), (9, 2), (4, 3)], 4, [.s [], .s [], .s [], .v (.bool false)], [], false, [], []⟩,
  ⟨.strct [(9, 0), (9, 1), (9, 2), (4, 3)], 4, [.s [], .s [], .s [], .v (.bool false)], [], false, [], []⟩,
  ⟨.func, 1, [.v .nilFunc], [], false, [], []⟩,
  ⟨.func, 1, [.v .nilFunc], [], false, [], []⟩,
  ⟨.func, 1, [.v .nilFunc], [], false, [], []⟩,
  ⟨.strct [(9, 0), (9, 1), (3, 2)], 3, [.s [], .s [], .v (.int .i64 0)], [], false, [], []⟩,
  ⟨.strct [(9, 0), (9, 1), (3, 2)], 3, [.s [], .s [], .v (.int .i64 0)], [.s, .s, .i], false, [], []⟩,
  ⟨.func, 1, [.v .nilFunc], [], false, [], []⟩,
  ⟨.func, 1, [.v .nilFunc], [], false, [], []⟩,
  ⟨.func, 1, [.v .nilFunc], [], false, [], []⟩,
  ⟨.func, 1, [.v .nilFunc], [], false, [], []⟩,
  ⟨.ptr 89, 1, [.v (.pointer none)], [], false, [], []⟩,
  ⟨.map 3 57, 1, [.v (.map none)], [], false, [], []⟩,
  ⟨.map 3 3, 1, [.v (.map none)], [], false, [], []⟩,
  ⟨.strct [(50, 0), (32, 4), (86, 12), (87, 13), (57, 14), (3, 20), (4, 21)], 22, [.sl 1 [], .sl 6 [], .sl 9 [], .sl 1 [], .v (.int .i64 0), .v (.bool false), .v (.bool false), .v (.bool false), .v (.bool false), .v (.bool false), .sl 1 [], .sl 4 [], .v (.map none), .v (.map none), .v (.int .i64 0), .v (.int .i64 0), .v (.int .i64 0), .v (.int .i64 0), .v (.int .i64 0), .v (.int .i64 0), .v (.int .i64 0), .v (.bool false)], [], false, [], []⟩,
  ⟨.strct [(50, 0), (32, 4), (86, 12), (87, 13), (57, 14), (3, 20), (4, 21)], 22, [.sl 1 [], .sl 6 [], .sl 9 [], .sl 1 [], .v (.int .i64 0), .v (.bool false), .v (.bool false), .v (.bool false), .v (.bool false), .v (.bool false), .sl 1 [], .sl 4 [], .v (.map none), .v (.map none), .v (.int .i64 0), .v (.int .i64 0), .v (.int .i64 0), .v (.int .i64 0), .v (.int .i64 0), .v (.int .i64 0), .v (.int .i64 0), .v (.bool false)], [], false, [], []⟩,
  ⟨.func, 1, [.v .nilFunc], [], false, [], []⟩,
  ⟨.func, 1, [.v .nilFunc], [], false, [], []⟩,
  ⟨.func, 1, [.v .nilFunc], [], false, [], []⟩,
  ⟨.func, 1, [.v .nilFunc], [], false, [], []⟩,
  ⟨.func, 1, [.v .nilFunc], [], false, [], []⟩,
  ⟨.func, 1, [.v .nilFunc], [], false, [], []⟩,
  ⟨.func, 1, [.v .nilFunc], [], false, [], []⟩,
  ⟨.func, 1, [.v .nilFunc], [], false, [], []⟩,
  ⟨.strct [(3, 0), (9, 1)], 2, [.v (.int .i64 0), .s []], [], false, [], []⟩,
  ⟨.strct [(3, 0), (9, 1)], 2, [.v (.int .i64 0), .s []], [.i, .s], false, [], []⟩,
  ⟨.strct [(3, 0), (22, 1), (22, 2), (22, 3), (9, 4), (9, 5), (22, 6), (99, 7)], 9, [.v (.int .i64 0), .sl 1 [], .sl 1 [], .sl 1 [], .s [], .s [], .sl 1 [], .v (.int .i64 0), .s []], [], false, [], []⟩,
  ⟨.strct [(3, 0), (22, 1), (22, 2), (22, 3), (9, 4), (9, 5), (22, 6), (99, 7)], 9, [.v (.int .i64 0), .sl 1 [], .sl 1 [], .sl 1 [], .s [], .s [], .sl 1 [], .v (.int .i64 0), .s []], [], false, [], []⟩,
  ⟨.func, 1, [.v .nilFunc], [], false, [], []⟩,
  ⟨.func, 1, [.v .nilFunc], [], false, [], []⟩,
  ⟨.other, 0, [], [], false, [], []⟩,
  ⟨.func, 1, [.v .nilFunc], [], false, [], []⟩,
  ⟨.func, 1, [.v .nilFunc], [], false, [], []⟩,
  ⟨.func, 1, [.v .nilFunc], [], false, [], []⟩,
  ⟨.func, 1, [.v .nilFunc], [], false, [], []⟩,
  ⟨.func, 1, [.v .nilFunc], [], false, [], []⟩,
  ⟨.func, 1, [.v .nilFunc], [], false, [], []⟩,
  ⟨.func, 1, [.v .nilFunc], [], false, [], []⟩,
  ⟨.strct [(9, 0), (22, 1), (4, 2), (4, 3), (9, 4), (3, 5)], 6, [.s [], .sl 1 [], .v (.bool false), .v (.bool false), .s [], .v (.int .i64 0)], [], false, [], []⟩,
  ⟨.strct [(9, 0), (22, 1), (4, 2), (4, 3), (9, 4), (3, 5)], 6, [.s [], .sl 1 [], .v (.bool false), .v (.bool false), .s [], .v (.int .i64 0)], [], false, [], []⟩,
  ⟨.other, 0, [], [], false, [], []⟩,
  ⟨.func, 1, [.v .nilFunc], [], false, [], []⟩,
  ⟨.func, 1, [.v .nilFunc], [], false, [], []⟩,
  ⟨.func, 1, [.v .nilFunc], [], false, [], []⟩,
  ⟨.func, 1, [.v .nilFunc], [], false, [], []⟩,
  ⟨.func, 1, [.v .nilFunc], [], false, [], []⟩,
  ⟨.slice 22, 1, [.sl 1 []], [], false, [], []⟩,
  ⟨.func, 1, [.v .nilFunc], [], false, [], []⟩,
  ⟨.func, 1, [.v .nilFunc], [], false, [], []⟩,
  ⟨.slice 128, 1, [.sl 3 []], [], false, [], []⟩,
  ⟨.strct [(9, 0), (3, 1), (123, 2)], 3, [.s [], .v (.int .i64 0), .sl 3 []], [], false, [], []⟩,
  ⟨.strct [(9, 0), (3, 1), (123, 2)], 3, [.s [], .v (.int .i64 0), .sl 3 []], [], false, [], []⟩,
  ⟨.func, 1, [.v .nilFunc], [], false, [], []⟩,
  ⟨.strct [(3, 0), (9, 1), (9, 2)], 3, [.v (.int .i64 0), .s [], .s []], [], false, [], []⟩,
  ⟨.strct [(3, 0), (9, 1), (9, 2)], 3, [.v (.int .i64 0), .s [], .s []], [], false, [], []⟩,
  ⟨.other, 0, [], [], false, [], []⟩,
  ⟨.func, 1, [.v .nilFunc], [], false, [], []⟩,
  ⟨.func, 1, [.v .nilFunc], [], false, [], []⟩,
  ⟨.func, 1, [.v .nilFunc], [], false, [], []⟩,
  ⟨.func, 1, [.v .nilFunc], [], false, [], []⟩,
  ⟨.func, 1, [.v .nilFunc], [], false, [], []⟩,
  ⟨.func, 1, [.v .nilFunc], [], false, [], []⟩,
  ⟨.func, 1, [.v .nilFunc], [], false, [], []⟩,
  ⟨.func, 1, [.v .nilFunc], [], false, [], []⟩,
  ⟨.other, 0, [], [], false, [], []⟩,
  ⟨.func, 1, [.v .nilFunc], [], false, [], []⟩,
  ⟨.func, 1, [.v .nilFunc], [], false, [], []⟩,
  ⟨.int .u64, 1, [.v (.int .u64 0)], [], false, [], []⟩,
  ⟨.func, 1, [.v .nilFunc], [], false, [], []⟩,
  ⟨.func, 1, [.v .nilFunc], [], false, [], []⟩,
  ⟨.func, 1, [.v .nilFunc], [], false, [], []⟩,
  ⟨.func, 1, [.v .nilFunc], [], false, [], []⟩,
  ⟨.func, 1, [.v .nilFunc], [], false, [], []⟩,
  ⟨.int .i64, 1, [.v (.int .i64 0)], [], false, [], []⟩,
  ⟨.other, 0, [], [], false, [], []⟩,
  ⟨.func, 1, [.v .nilFunc], [], false, [], []⟩,
  ⟨.func, 1, [.v .nilFunc], [], false, [], []⟩,
  ⟨.func, 1, [.v .nilFunc], [], false, [], []⟩,
  ⟨.func, 1, [.v .nilFunc], [], false, [], []⟩,
  ⟨.other, 0, [], [], false, [], []⟩,
  ⟨.func, 1, [.v .nilFunc], [], false, [], []⟩,
  ⟨.func, 1, [.v .nilFunc], [], false, [], []⟩,
  ⟨.int .u32, 1, [.v (.int .u32 0)], [], false, [], []⟩,
  ⟨.func, 1, [.v .nilFunc], [], false, [], []⟩,
  ⟨.int .u64, 1, [.v (.int .u64 0)], [], false, [], []⟩,
  ⟨.func, 1, [.v .nilFunc], [], false, [], []⟩,
  ⟨.func, 1, [.v .nilFunc], [], false, [], []⟩,
  ⟨.func, 1, [.v .nilFunc], [], false, [], []⟩,
  ⟨.func, 1, [.v .nilFunc], [], false, [], []⟩,
  ⟨.func, 1, [.v .nilFunc], [], false, [], []⟩,
  ⟨.int .u64, 1, [.v (.int .u64 0)], [], false, [], []⟩,
  ⟨.func, 1, [.v .nilFunc], [], false, [], []⟩,
  ⟨.func, 1, [.v .nilFunc], [], false, [], []⟩,
  ⟨.func, 1, [.v .nilFunc], [], false, [], []⟩,
  ⟨.ptr 3, 1, [.v (.pointer none)], [], false, [], []⟩,
  ⟨.func, 1, [.v .nilFunc], [], false, [], []⟩,
  ⟨.func, 1, [.v .nilFunc], [], false, [], []⟩,
  ⟨.func, 1, [.v .nilFunc], [], false, [], []⟩,
  ⟨.func, 1, [.v .nilFunc], [], false, [], []⟩,
  ⟨.func, 1, [.v .nilFunc], [], false, [], []⟩,
  ⟨.ptr 164, 1, [.v (.pointer none)], [], false, [], []⟩,
  ⟨.other, 0, [], [], false, [], []⟩,
  ⟨.func, 1, [.v .nilFunc], [], false, [], []⟩,
  ⟨.other, 0, [], [], false, [], []⟩,
  ⟨.func, 1, [.v .nilFunc], [], false, [], []⟩,
  ⟨.func, 1, [.v .nilFunc], [], false, [], []⟩,
  ⟨.ptr 200, 1, [.v (.pointer none)], [], true, [], []⟩,
  ⟨.func, 1, [.v .nilFunc], [], false, [], []⟩,
  ⟨.strct [(17, 0), (17, 1), (17, 2), (9, 3)], 4, [.v (.pointer none), .v (.pointer none), .v (.pointer none), .s []], [], false, [], []⟩,
  ⟨.strct [(17, 0), (17, 1), (17, 2), (9, 3)], 4, [.v (.pointer none), .v (.pointer none), .v (.pointer none), .s []], [], false, [], []⟩,
  ⟨.arr 0 16, 0, [], [], false, [], []⟩,
  ⟨.other, 0, [], [], false, [], []⟩,
  ⟨.other, 0, [], [], false, [], []⟩,
  ⟨.int .u8, 1, [.v (.int .u8 0)], [], false, [], []⟩,
  ⟨.int .u8, 1, [.v (.int .u8 0)], [], false, [], []⟩,
  ⟨.func, 1, [.v .nilFunc], [], false, [], []⟩,
  ⟨.ptr 5, 1, [.v (.pointer none)], [], false, [], []⟩,
  ⟨.int .i32, 1, [.v (.int .i32 0)], [], false, [], []⟩,
  ⟨.int .i32, 1, [.v (.int .i32 0)], [], false, [], []⟩,
  ⟨.strct [(12, 0), (12, 1), (156, 2), (187, 3), (5, 4), (5, 5), (188, 6), (189, 7), (190, 8), (191, 9), (192, 10)], 11, [.v (.int .u64 0), .v (.int .u64 0), .v (.int .u32 0), .v (.int .u8 0), .v (.int .u8 0), .v (.int .u8 0), .v (.int .u8 0), .v .nilFunc, .v (.pointer none), .v (.int .i32 0), .v (.int .i32 0)], [], false, [], []⟩,
  ⟨.strct [(12, 0), (12, 1), (156, 2), (187, 3), (5, 4), (5, 5), (188, 6), (189, 7), (190, 8), (191, 9), (192, 10)], 11, [.v (.int .u64 0), .v (.int .u64 0), .v (.int .u32 0), .v (.int .u8 0), .v (.int .u8 0), .v (.int .u8 0), .v (.int .u8 0), .v .nilFunc, .v (.pointer none), .v (.int .i32 0), .v (.int .i32 0)], [], false, [], []⟩,
  ⟨.strct [(9, 0), (9, 1)], 2, [.s [], .s []], [], false, [], []⟩,
  ⟨.strct [(9, 0), (9, 1)], 2, [.s [], .s []], [.s, .s], false, [], []⟩,
  ⟨.func, 1, [.v .nilFunc], [], false, [], []⟩,
  ⟨.func, 1, [.v .nilFunc], [], false, [], []⟩,
  ⟨.strct [(9, 0)], 1, [.s []], [], false, [], []⟩,
  ⟨.strct [(9, 0)], 1, [.s []], [], false, [], []⟩,
  ⟨.other, 0, [], [], false, [], []⟩,
  ⟨.func, 1, [.v .nilFunc], [], false, [], []⟩]
theorem tab_ok : tabB Tryz.prog tab 0 tab = true := by kernel_rfl
theorem mixed_ok : Tryz.prog.follows .mixedOrders = true := by kernel_rfl
theorem eqs_ok : eqsB Tryz.prog 0 tab = true := by kernel_rfl
theorem dyns_ok : dynB Tryz.prog 0 tab = true := by kernel_rfl
def methL : List (TypeId × String × FuncId) := []
theorem meths_in : methIn methL 0 tab = true := by kernel_rfl
theorem meths_run : ∀ z ∈ methL, ∀ (v : Value) (w : World), (Go.method (Tryz.prog.types.size + Made.depth) z.1 v z.2.1).run Tryz.prog w = .ok (z.2.2, v) w := by
  exact fun z hz => by simp [methL] at hz
theorem T_ok (glob : Nat → Option (List D)) : TOk Tryz.prog (mkCtx tab glob) := mk_ok glob tab_ok mixed_ok eqs_ok dyns_ok (meths_of meths_in meths_run)
@[simp] theorem td_1 (glob : Nat → Option (List D)) : (mkCtx tab glob).td 1 = .func := rfl
@[simp] theorem sz_1 (glob : Nat → Option (List D)) : (mkCtx tab glob).sz 1 = 1 := rfl
@[simp] theorem ze_1 (glob : Nat → Option (List D)) : (mkCtx tab glob).zero 1 = [.v .nilFunc] := rfl
@[simp] theorem td_2 (glob : Nat → Option (List D)) : (mkCtx tab glob).td 2 = .int .i64 := rfl
@[simp] theorem sz_2 (glob : Nat → Option (List D)) : (mkCtx tab glob).sz 2 = 1 := rfl
@[simp] theorem ze_2 (glob : Nat → Option (List D)) : (mkCtx tab glob).zero 2 = [.v (.int .i64 0)] := rfl
@[simp] theorem td_3 (glob : Nat → Option (List D)) : (mkCtx tab glob).td 3 = .int .i64 := rfl
@[simp] theorem sz_3 (glob : Nat → Option (List D)) : (mkCtx tab glob).sz 3 = 1 := rfl
@[simp] theorem ze_3 (glob : Nat → Option (List D)) : (mkCtx tab glob).zero 3 = [.v (.int .i64 0)] := rfl
@[simp] theorem td_4 (glob : Nat → Option (List D)) : (mkCtx tab glob).td 4 = .bool := rfl
@[simp] theorem sz_4 (glob : Nat → Option (List D)) : (mkCtx tab glob).sz 4 = 1 := rfl
@[simp] theorem ze_4 (glob : Nat → Option (List D)) : (mkCtx tab glob).zero 4 = [.v (.bool false)] := rfl
@[simp] theorem td_5 (glob : Nat → Option (List D)) : (mkCtx tab glob).td 5 = .int .u8 := rfl
@[simp] theorem sz_5 (glob : Nat → Option (List D)) : (mkCtx tab glob).sz 5 = 1 := rfl
@[simp] theorem ze_5 (glob : Nat → Option (List D)) : (mkCtx tab glob).zero 5 = [.v (.int .u8 0)] := rfl
@[simp] theorem td_6 (glob : Nat → Option (List D)) : (mkCtx tab glob).td 6 = .int .u8 := rfl
@[simp] theorem sz_6 (glob : Nat → Option (List D)) : (mkCtx tab glob).sz 6 = 1 := rfl
@[simp] theorem ze_6 (glob : Nat → Option (List D)) : (mkCtx tab glob).zero 6 = [.v (.int .u8 0)] := rfl
@[simp] theorem td_7 (glob : Nat → Option (List D)) : (mkCtx tab glob).td 7 = .strct [(2, 0), (3, 1), (4, 2), (6, 3)] := rfl
@[simp] theorem sz_7 (glob : Nat → Option (List D)) : (mkCtx tab glob).sz 7 = 4 := rfl
@[simp] theorem eq_7 (glob : Nat → Option (List D)) : (mkCtx tab glob).eqt 7 = [] := rfl
@[simp] theorem ze_7 (glob : Nat → Option (List D)) : (mkCtx tab glob).zero 7 = [.v (.int .i64 0), .v (.int .i64 0), .v (.bool false), .v (.int .u8 0)] := rfl
@[simp] theorem td_8 (glob : Nat → Option (List D)) : (mkCtx tab glob).td 8 = .strct [(2, 0), (3, 1), (4, 2), (6, 3)] := rfl
@[simp] theorem sz_8 (glob : Nat → Option (List D)) : (mkCtx tab glob).sz 8 = 4 := rfl
@[simp] theorem eq_8 (glob : Nat → Option (List D)) : (mkCtx tab glob).eqt 8 = [] := rfl
@[simp] theorem ze_8 (glob : Nat → Option (List D)) : (mkCtx tab glob).zero 8 = [.v (.int .i64 0), .v (.int .i64 0), .v (.bool false), .v (.int .u8 0)] := rfl
@[simp] theorem td_9 (glob : Nat → Option (List D)) : (mkCtx tab glob).td 9 = .str := rfl
@[simp] theorem sz_9 (glob : Nat → Option (List D)) : (mkCtx tab glob).sz 9 = 1 := rfl
@[simp] theorem ze_9 (glob : Nat → Option (List D)) : (mkCtx tab glob).zero 9 = [.s []] := rfl
@[simp] theorem td_10 (glob : Nat → Option (List D)) : (mkCtx tab glob).td 10 = .str := rfl
@[simp] theorem sz_10 (glob : Nat → Option (List D)) : (mkCtx tab glob).sz 10 = 1 := rfl
@[simp] theorem ze_10 (glob : Nat → Option (List D)) : (mkCtx tab glob).zero 10 = [.s []] := rfl
@[simp] theorem td_11 (glob : Nat → Option (List D)) : (mkCtx tab glob).td 11 = .str := rfl
@[simp] theorem sz_11 (glob : Nat → Option (List D)) : (mkCtx tab glob).sz 11 = 1 := rfl
@[simp] theorem ze_11 (glob : Nat → Option (List D)) : (mkCtx tab glob).zero 11 = [.s []] := rfl
@[simp] theorem td_12 (glob : Nat → Option (List D)) : (mkCtx tab glob).td 12 = .int .u64 := rfl
@[simp] theorem sz_12 (glob : Nat → Option (List D)) : (mkCtx tab glob).sz 12 = 1 := rfl
@[simp] theorem ze_12 (glob : Nat → Option (List D)) : (mkCtx tab glob).zero 12 = [.v (.int .u64 0)] := rfl
@[simp] theorem td_13 (glob : Nat → Option (List D)) : (mkCtx tab glob).td 13 = .strct [(9, 0), (12, 1)] := rfl
@[simp] theorem sz_13 (glob : Nat → Option (List D)) : (mkCtx tab glob).sz 13 = 2 := rfl
@[simp] theorem eq_13 (glob : Nat → Option (List D)) : (mkCtx tab glob).eqt 13 = [] := rfl
@[simp] theorem ze_13 (glob : Nat → Option (List D)) : (mkCtx tab glob).zero 13 = [.s [], .v (.int .u64 0)] := rfl
@[simp] theorem td_14 (glob : Nat → Option (List D)) : (mkCtx tab glob).td 14 = .strct [(9, 0), (12, 1)] := rfl
@[simp] theorem sz_14 (glob : Nat → Option (List D)) : (mkCtx tab glob).sz 14 = 2 := rfl
@[simp] theorem eq_14 (glob : Nat → Option (List D)) : (mkCtx tab glob).eqt 14 = [] := rfl
@[simp] theorem ze_14 (glob : Nat → Option (List D)) : (mkCtx tab glob).zero 14 = [.s [], .v (.int .u64 0)] := rfl
@[simp] theorem td_15 (glob : Nat → Option (List D)) : (mkCtx tab glob).td 15 = .ptr 183 := rfl
@[simp] theorem sz_15 (glob : Nat → Option (List D)) : (mkCtx tab glob).sz 15 = 1 := rfl
@[simp] theorem ze_15 (glob : Nat → Option (List D)) : (mkCtx tab glob).zero 15 = [.v (.pointer none)] := rfl
@[simp] theorem td_16 (glob : Nat → Option (List D)) : (mkCtx tab glob).td 16 = .ptr 186 := rfl
@[simp] theorem sz_16 (glob : Nat → Option (List D)) : (mkCtx tab glob).sz 16 = 1 := rfl
@[simp] theorem ze_16 (glob : Nat → Option (List D)) : (mkCtx tab glob).zero 16 = [.v (.pointer none)] := rfl
@[simp] theorem td_17 (glob : Nat → Option (List D)) : (mkCtx tab glob).td 17 = .ptr 194 := rfl
@[simp] theorem sz_17 (glob : Nat → Option (List D)) : (mkCtx tab glob).sz 17 = 1 := rfl
@[simp] theorem ze_17 (glob : Nat → Option (List D)) : (mkCtx tab glob).zero 17 = [.v (.pointer none)] := rfl
@[simp] theorem td_18 (glob : Nat → Option (List D)) : (mkCtx tab glob).td 18 = .strct [(17, 0)] := rfl
@[simp] theorem sz_18 (glob : Nat → Option (List D)) : (mkCtx tab glob).sz 18 = 1 := rfl
@[simp] theorem eq_18 (glob : Nat → Option (List D)) : (mkCtx tab glob).eqt 18 = [] := rfl
@[simp] theorem ze_18 (glob : Nat → Option (List D)) : (mkCtx tab glob).zero 18 = [.v (.pointer none)] := rfl
@[simp] theorem td_19 (glob : Nat → Option (List D)) : (mkCtx tab glob).td 19 = .strct [(17, 0)] := rfl
@[simp] theorem sz_19 (glob : Nat → Option (List D)) : (mkCtx tab glob).sz 19 = 1 := rfl
@[simp] theorem eq_19 (glob : Nat → Option (List D)) : (mkCtx tab glob).eqt 19 = [] := rfl
@[simp] theorem ze_19 (glob : Nat → Option (List D)) : (mkCtx tab glob).zero 19 = [.v (.pointer none)] := rfl
@[simp] theorem td_20 (glob : Nat → Option (List D)) : (mkCtx tab glob).td 20 = .iface true := rfl
@[simp] theorem sz_20 (glob : Nat → Option (List D)) : (mkCtx tab glob).sz 20 = 1 := rfl
@[simp] theorem ze_20 (glob : Nat → Option (List D)) : (mkCtx tab glob).zero 20 = [.v .nilIface] := rfl
@[simp] theorem td_21 (glob : Nat → Option (List D)) : (mkCtx tab glob).td 21 = .int .i32 := rfl
@[simp] theorem sz_21 (glob : Nat → Option (List D)) : (mkCtx tab glob).sz 21 = 1 := rfl
@[simp] theorem ze_21 (glob : Nat → Option (List D)) : (mkCtx tab glob).zero 21 = [.v (.int .i32 0)] := rfl
@[simp] theorem td_22 (glob : Nat → Option (List D)) : (mkCtx tab glob).td 22 = .slice 9 := rfl
@[simp] theorem sz_22 (glob : Nat → Option (List D)) : (mkCtx tab glob).sz 22 = 1 := rfl
@[simp] theorem ze_22 (glob : Nat → Option (List D)) : (mkCtx tab glob).zero 22 = [.sl 1 []] := rfl
@[simp] theorem td_23 (glob : Nat → Option (List D)) : (mkCtx tab glob).td 23 = .slice 60 := rfl
@[simp] theorem sz_23 (glob : Nat → Option (List D)) : (mkCtx tab glob).sz 23 = 1 := rfl
@[simp] theorem ze_23 (glob : Nat → Option (List D)) : (mkCtx tab glob).zero 23 = [.sl 4 []] := rfl
@[simp] theorem td_24 (glob : Nat → Option (List D)) : (mkCtx tab glob).td 24 = .strct [(4, 0), (4, 1), (4, 2), (4, 3), (4, 4), (4, 5), (22, 6), (22, 7), (9, 8), (3, 9), (23, 10)] := rfl
@[simp] theorem sz_24 (glob : Nat → Option (List D)) : (mkCtx tab glob).sz 24 = 11 := rfl
@[simp] theorem eq_24 (glob : Nat → Option (List D)) : (mkCtx tab glob).eqt 24 = [] := rfl
@[simp] theorem ze_24 (glob : Nat → Option (List D)) : (mkCtx tab glob).zero 24 = [.v (.bool false), .v (.bool false), .v (.bool false), .v (.bool false), .v (.bool false), .v (.bool false), .sl 1 [], .sl 1 [], .s [], .v (.int .i64 0), .sl 4 []] := rfl
@[simp] theorem td_25 (glob : Nat → Option (List D)) : (mkCtx tab glob).td 25 = .strct [(4, 0), (4, 1), (4, 2), (4, 3), (4, 4), (4, 5), (22, 6), (22, 7), (9, 8), (3, 9), (23, 10)] := rfl
@[simp] theorem sz_25 (glob : Nat → Option (List D)) : (mkCtx tab glob).sz 25 = 11 := rfl
@[simp] theorem eq_25 (glob : Nat → Option (List D)) : (mkCtx tab glob).eqt 25 = [] := rfl
@[simp] theorem ze_25 (glob : Nat → Option (List D)) : (mkCtx tab glob).zero 25 = [.v (.bool false), .v (.bool false), .v (.bool false), .v (.bool false), .v (.bool false), .v (.bool false), .sl 1 [], .sl 1 [], .s [], .v (.int .i64 0), .sl 4 []] := rfl
@[simp] theorem td_26 (glob : Nat → Option (List D)) : (mkCtx tab glob).td 26 = .func := rfl
@[simp] theorem sz_26 (glob : Nat → Option (List D)) : (mkCtx tab glob).sz 26 = 1 := rfl
@[simp] theorem ze_26 (glob : Nat → Option (List D)) : (mkCtx tab glob).zero 26 = [.v .nilFunc] := rfl
@[simp] theorem td_27 (glob : Nat → Option (List D)) : (mkCtx tab glob).td 27 = .func := rfl
@[simp] theorem sz_27 (glob : Nat → Option (List D)) : (mkCtx tab glob).sz 27 = 1 := rfl
@[simp] theorem ze_27 (glob : Nat → Option (List D)) : (mkCtx tab glob).zero 27 = [.v .nilFunc] := rfl
@[simp] theorem td_28 (glob : Nat → Option (List D)) : (mkCtx tab glob).td 28 = .slice 74 := rfl
@[simp] theorem sz_28 (glob : Nat → Option (List D)) : (mkCtx tab glob).sz 28 = 1 := rfl
@[simp] theorem ze_28 (glob : Nat → Option (List D)) : (mkCtx tab glob).zero 28 = [.sl 4 []] := rfl
@[simp] theorem td_29 (glob : Nat → Option (List D)) : (mkCtx tab glob).td 29 = .strct [(4, 0), (22, 1), (28, 2)] := rfl
@[simp] theorem sz_29 (glob : Nat → Option (List D)) : (mkCtx tab glob).sz 29 = 3 := rfl
@[simp] theorem eq_29 (glob : Nat → Option (List D)) : (mkCtx tab glob).eqt 29 = [] := rfl
@[simp] theorem ze_29 (glob : Nat → Option (List D)) : (mkCtx tab glob).zero 29 = [.v (.bool false), .sl 1 [], .sl 4 []] := rfl
@[simp] theorem td_30 (glob : Nat → Option (List D)) : (mkCtx tab glob).td 30 = .strct [(4, 0), (22, 1), (28, 2)] := rfl
@[simp] theorem sz_30 (glob : Nat → Option (List D)) : (mkCtx tab glob).sz 30 = 3 := rfl
@[simp] theorem eq_30 (glob : Nat → Option (List D)) : (mkCtx tab glob).eqt 30 = [] := rfl
@[simp] theorem ze_30 (glob : Nat → Option (List D)) : (mkCtx tab glob).zero 30 = [.v (.bool false), .sl 1 [], .sl 4 []] := rfl
@[simp] theorem td_31 (glob : Nat → Option (List D)) : (mkCtx tab glob).td 31 = .strct [(3, 0), (4, 1), (4, 2), (4, 3), (4, 4), (30, 5)] := rfl
@[simp] theorem sz_31 (glob : Nat → Option (List D)) : (mkCtx tab glob).sz 31 = 8 := rfl
@[simp] theorem eq_31 (glob : Nat → Option (List D)) : (mkCtx tab glob).eqt 31 = [] := rfl
@[simp] theorem ze_31 (glob : Nat → Option (List D)) : (mkCtx tab glob).zero 31 = [.v (.int .i64 0), .v (.bool false), .v (.bool false), .v (.bool false), .v (.bool false), .v (.bool false), .sl 1 [], .sl 4 []] := rfl
@[simp] theorem td_32 (glob : Nat → Option (List D)) : (mkCtx tab glob).td 32 = .strct [(3, 0), (4, 1), (4, 2), (4, 3), (4, 4), (30, 5)] := rfl
@[simp] theorem sz_32 (glob : Nat → Option (List D)) : (mkCtx tab glob).sz 32 = 8 := rfl
@[simp] theorem eq_32 (glob : Nat → Option (List D)) : (mkCtx tab glob).eqt 32 = [] := rfl
@[simp] theorem ze_32 (glob : Nat → Option (List D)) : (mkCtx tab glob).zero 32 = [.v (.int .i64 0), .v (.bool false), .v (.bool false), .v (.bool false), .v (.bool false), .v (.bool false), .sl 1 [], .sl 4 []] := rfl
@[simp] theorem td_33 (glob : Nat → Option (List D)) : (mkCtx tab glob).td 33 = .func := rfl
@[simp] theorem sz_33 (glob : Nat → Option (List D)) : (mkCtx tab glob).sz 33 = 1 := rfl
@[simp] theorem ze_33 (glob : Nat → Option (List D)) : (mkCtx tab glob).zero 33 = [.v .nilFunc] := rfl
@[simp] theorem td_34 (glob : Nat → Option (List D)) : (mkCtx tab glob).td 34 = .slice 75 := rfl
@[simp] theorem sz_34 (glob : Nat → Option (List D)) : (mkCtx tab glob).sz 34 = 1 := rfl
@[simp] theorem ze_34 (glob : Nat → Option (List D)) : (mkCtx tab glob).zero 34 = [.sl 4 []] := rfl
@[simp] theorem td_35 (glob : Nat → Option (List D)) : (mkCtx tab glob).td 35 = .strct [(4, 0), (22, 1), (34, 2)] := rfl
@[simp] theorem sz_35 (glob : Nat → Option (List D)) : (mkCtx tab glob).sz 35 = 3 := rfl
@[simp] theorem eq_35 (glob : Nat → Option (List D)) : (mkCtx tab glob).eqt 35 = [] := rfl
@[simp] theorem ze_35 (glob : Nat → Option (List D)) : (mkCtx tab glob).zero 35 = [.v (.bool false), .sl 1 [], .sl 4 []] := rfl
@[simp] theorem td_36 (glob : Nat → Option (List D)) : (mkCtx tab glob).td 36 = .strct [(4, 0), (22, 1), (34, 2)] := rfl
@[simp] theorem sz_36 (glob : Nat → Option (List D)) : (mkCtx tab glob).sz 36 = 3 := rfl
@[simp] theorem eq_36 (glob : Nat → Option (List D)) : (mkCtx tab glob).eqt 36 = [] := rfl
@[simp] theorem ze_36 (glob : Nat → Option (List D)) : (mkCtx tab glob).zero 36 = [.v (.bool false), .sl 1 [], .sl 4 []] := rfl
@[simp] theorem td_37 (glob : Nat → Option (List D)) : (mkCtx tab glob).td 37 = .strct [(3, 0), (4, 1), (4, 2), (4, 3), (4, 4), (36, 5)] := rfl
@[simp] theorem sz_37 (glob : Nat → Option (List D)) : (mkCtx tab glob).sz 37 = 8 := rfl
@[simp] theorem eq_37 (glob : Nat → Option (List D)) : (mkCtx tab glob).eqt 37 = [] := rfl
@[simp] theorem ze_37 (glob : Nat → Option (List D)) : (mkCtx tab glob).zero 37 = [.v (.int .i64 0), .v (.bool false), .v (.bool false), .v (.bool false), .v (.bool false), .v (.bool false), .sl 1 [], .sl 4 []] := rfl
@[simp] theorem td_38 (glob : Nat → Option (List D)) : (mkCtx tab glob).td 38 = .strct [(3, 0), (4, 1), (4, 2), (4, 3), (4, 4), (36, 5)] := rfl
@[simp] theorem sz_38 (glob : Nat → Option (List D)) : (mkCtx tab glob).sz 38 = 8 := rfl
@[simp] theorem eq_38 (glob : Nat → Option (List D)) : (mkCtx tab glob).eqt 38 = [] := rfl
@[simp] theorem ze_38 (glob : Nat → Option (List D)) : (mkCtx tab glob).zero 38 = [.v (.int .i64 0), .v (.bool false), .v (.bool false), .v (.bool false), .v (.bool false), .v (.bool false), .sl 1 [], .sl 4 []] := rfl
@[simp] theorem td_39 (glob : Nat → Option (List D)) : (mkCtx tab glob).td 39 = .func := rfl
@[simp] theorem sz_39 (glob : Nat → Option (List D)) : (mkCtx tab glob).sz 39 = 1 := rfl
@[simp] theorem ze_39 (glob : Nat → Option (List D)) : (mkCtx tab glob).zero 39 = [.v .nilFunc] := rfl
@[simp] theorem td_40 (glob : Nat → Option (List D)) : (mkCtx tab glob).td 40 = .func := rfl
@[simp] theorem sz_40 (glob : Nat → Option (List D)) : (mkCtx tab glob).sz 40 = 1 := rfl
@[simp] theorem ze_40 (glob : Nat → Option (List D)) : (mkCtx tab glob).zero 40 = [.v .nilFunc] := rfl
@[simp] theorem td_41 (glob : Nat → Option (List D)) : (mkCtx tab glob).td 41 = .func := rfl
@[simp] theorem sz_41 (glob : Nat → Option (List D)) : (mkCtx tab glob).sz 41 = 1 := rfl
@[simp] theorem ze_41 (glob : Nat → Option (List D)) : (mkCtx tab glob).zero 41 = [.v .nilFunc] := rfl
@[simp] theorem td_42 (glob : Nat → Option (List D)) : (mkCtx tab glob).td 42 = .slice 80 := rfl
@[simp] theorem sz_42 (glob : Nat → Option (List D)) : (mkCtx tab glob).sz 42 = 1 := rfl
@[simp] theorem ze_42 (glob : Nat → Option (List D)) : (mkCtx tab glob).zero 42 = [.sl 3 []] := rfl
@[simp] theorem td_43 (glob : Nat → Option (List D)) : (mkCtx tab glob).td 43 = .slice 196 := rfl
@[simp] theorem sz_43 (glob : Nat → Option (List D)) : (mkCtx tab glob).sz 43 = 1 := rfl
@[simp] theorem ze_43 (glob : Nat → Option (List D)) : (mkCtx tab glob).zero 43 = [.sl 2 []] := rfl
@[simp] theorem td_44 (glob : Nat → Option (List D)) : (mkCtx tab glob).td 44 = .slice 125 := rfl
@[simp] theorem sz_44 (glob : Nat → Option (List D)) : (mkCtx tab glob).sz 44 = 1 := rfl
@[simp] theorem ze_44 (glob : Nat → Option (List D)) : (mkCtx tab glob).zero 44 = [.sl 3 []] := rfl
@[simp] theorem td_45 (glob : Nat → Option (List D)) : (mkCtx tab glob).td 45 = .strct [(42, 0), (23, 1), (43, 2), (44, 3), (28, 4)] := rfl
@[simp] theorem sz_45 (glob : Nat → Option (List D)) : (mkCtx tab glob).sz 45 = 5 := rfl
@[simp] theorem eq_45 (glob : Nat → Option (List D)) : (mkCtx tab glob).eqt 45 = [] := rfl
@[simp] theorem ze_45 (glob : Nat → Option (List D)) : (mkCtx tab glob).zero 45 = [.sl 3 [], .sl 4 [], .sl 2 [], .sl 3 [], .sl 4 []] := rfl
@[simp] theorem td_46 (glob : Nat → Option (List D)) : (mkCtx tab glob).td 46 = .strct [(42, 0), (23, 1), (43, 2), (44, 3), (28, 4)] := rfl
@[simp] theorem sz_46 (glob : Nat → Option (List D)) : (mkCtx tab glob).sz 46 = 5 := rfl
@[simp] theorem eq_46 (glob : Nat → Option (List D)) : (mkCtx tab glob).eqt 46 = [] := rfl
@[simp] theorem ze_46 (glob : Nat → Option (List D)) : (mkCtx tab glob).zero 46 = [.sl 3 [], .sl 4 [], .sl 2 [], .sl 3 [], .sl 4 []] := rfl
@[simp] theorem td_47 (glob : Nat → Option (List D)) : (mkCtx tab glob).td 47 = .slice 113 := rfl
@[simp] theorem sz_47 (glob : Nat → Option (List D)) : (mkCtx tab glob).sz 47 = 1 := rfl
@[simp] theorem ze_47 (glob : Nat → Option (List D)) : (mkCtx tab glob).zero 47 = [.sl 6 []] := rfl
@[simp] theorem td_48 (glob : Nat → Option (List D)) : (mkCtx tab glob).td 48 = .slice 101 := rfl
@[simp] theorem sz_48 (glob : Nat → Option (List D)) : (mkCtx tab glob).sz 48 = 1 := rfl
@[simp] theorem ze_48 (glob : Nat → Option (List D)) : (mkCtx tab glob).zero 48 = [.sl 9 []] := rfl
@[simp] theorem td_49 (glob : Nat → Option (List D)) : (mkCtx tab glob).td 49 = .strct [(22, 0), (47, 1), (48, 2), (22, 3)] := rfl
@[simp] theorem sz_49 (glob : Nat → Option (List D)) : (mkCtx tab glob).sz 49 = 4 := rfl
@[simp] theorem eq_49 (glob : Nat → Option (List D)) : (mkCtx tab glob).eqt 49 = [] := rfl
@[simp] theorem ze_49 (glob : Nat → Option (List D)) : (mkCtx tab glob).zero 49 = [.sl 1 [], .sl 6 [], .sl 9 [], .sl 1 []] := rfl
@[simp] theorem td_50 (glob : Nat → Option (List D)) : (mkCtx tab glob).td 50 = .strct [(22, 0), (47, 1), (48, 2), (22, 3)] := rfl
@[simp] theorem sz_50 (glob : Nat → Option (List D)) : (mkCtx tab glob).sz 50 = 4 := rfl
@[simp] theorem eq_50 (glob : Nat → Option (List D)) : (mkCtx tab glob).eqt 50 = [] := rfl
@[simp] theorem ze_50 (glob : Nat → Option (List D)) : (mkCtx tab glob).zero 50 = [.sl 1 [], .sl 6 [], .sl 9 [], .sl 1 []] := rfl
@[simp] theorem td_51 (glob : Nat → Option (List D)) : (mkCtx tab glob).td 51 = .slice 57 := rfl
@[simp] theorem sz_51 (glob : Nat → Option (List D)) : (mkCtx tab glob).sz 51 = 1 := rfl
@[simp] theorem ze_51 (glob : Nat → Option (List D)) : (mkCtx tab glob).zero 51 = [.sl 6 []] := rfl
@[simp] theorem td_52 (glob : Nat → Option (List D)) : (mkCtx tab glob).td 52 = .slice 3 := rfl
@[simp] theorem sz_52 (glob : Nat → Option (List D)) : (mkCtx tab glob).sz 52 = 1 := rfl
@[simp] theorem ze_52 (glob : Nat → Option (List D)) : (mkCtx tab glob).zero 52 = [.sl 1 []] := rfl
@[simp] theorem td_53 (glob : Nat → Option (List D)) : (mkCtx tab glob).td 53 = .strct [(50, 0), (51, 4), (42, 5), (52, 6), (25, 7), (3, 18)] := rfl
@[simp] theorem sz_53 (glob : Nat → Option (List D)) : (mkCtx tab glob).sz 53 = 19 := rfl
@[simp] theorem eq_53 (glob : Nat → Option (List D)) : (mkCtx tab glob).eqt 53 = [] := rfl
@[simp] theorem ze_53 (glob : Nat → Option (List D)) : (mkCtx tab glob).zero 53 = [.sl 1 [], .sl 6 [], .sl 9 [], .sl 1 [], .sl 6 [], .sl 3 [], .sl 1 [], .v (.bool false), .v (.bool false), .v (.bool false), .v (.bool false), .v (.bool false), .v (.bool false), .sl 1 [], .sl 1 [], .s [], .v (.int .i64 0), .sl 4 [], .v (.int .i64 0)] := rfl
@[simp] theorem td_54 (glob : Nat → Option (List D)) : (mkCtx tab glob).td 54 = .strct [(50, 0), (51, 4), (42, 5), (52, 6), (25, 7), (3, 18)] := rfl
@[simp] theorem sz_54 (glob : Nat → Option (List D)) : (mkCtx tab glob).sz 54 = 19 := rfl
@[simp] theorem eq_54 (glob : Nat → Option (List D)) : (mkCtx tab glob).eqt 54 = [] := rfl
@[simp] theorem ze_54 (glob : Nat → Option (List D)) : (mkCtx tab glob).zero 54 = [.sl 1 [], .sl 6 [], .sl 9 [], .sl 1 [], .sl 6 [], .sl 3 [], .sl 1 [], .v (.bool false), .v (.bool false), .v (.bool false), .v (.bool false), .v (.bool false), .v (.bool false), .sl 1 [], .sl 1 [], .s [], .v (.int .i64 0), .sl 4 [], .v (.int .i64 0)] := rfl
@[simp] theorem td_55 (glob : Nat → Option (List D)) : (mkCtx tab glob).td 55 = .func := rfl
@[simp] theorem sz_55 (glob : Nat → Option (List D)) : (mkCtx tab glob).sz 55 = 1 := rfl
@[simp] theorem ze_55 (glob : Nat → Option (List D)) : (mkCtx tab glob).zero 55 = [.v .nilFunc] := rfl
@[simp] theorem td_56 (glob : Nat → Option (List D)) : (mkCtx tab glob).td 56 = .strct [(3, 0), (3, 1), (3, 2), (3, 3), (3, 4), (3, 5)] := rfl
@[simp] theorem sz_56 (glob : Nat → Option (List D)) : (mkCtx tab glob).sz 56 = 6 := rfl
@[simp] theorem eq_56 (glob : Nat → Option (List D)) : (mkCtx tab glob).eqt 56 = [] := rfl
@[simp] theorem ze_56 (glob : Nat → Option (List D)) : (mkCtx tab glob).zero 56 = [.v (.int .i64 0), .v (.int .i64 0), .v (.int .i64 0), .v (.int .i64 0), .v (.int .i64 0), .v (.int .i64 0)] := rfl
@[simp] theorem td_57 (glob : Nat → Option (List D)) : (mkCtx tab glob).td 57 = .strct [(3, 0), (3, 1), (3, 2), (3, 3), (3, 4), (3, 5)] := rfl
@[simp] theorem sz_57 (glob : Nat → Option (List D)) : (mkCtx tab glob).sz 57 = 6 := rfl
@[simp] theorem eq_57 (glob : Nat → Option (List D)) : (mkCtx tab glob).eqt 57 = [.i, .i, .i, .i, .i, .i] := rfl
@[simp] theorem ze_57 (glob : Nat → Option (List D)) : (mkCtx tab glob).zero 57 = [.v (.int .i64 0), .v (.int .i64 0), .v (.int .i64 0), .v (.int .i64 0), .v (.int .i64 0), .v (.int .i64 0)] := rfl
@[simp] theorem td_58 (glob : Nat → Option (List D)) : (mkCtx tab glob).td 58 = .slice 62 := rfl
@[simp] theorem sz_58 (glob : Nat → Option (List D)) : (mkCtx tab glob).sz 58 = 1 := rfl
@[simp] theorem ze_58 (glob : Nat → Option (List D)) : (mkCtx tab glob).zero 58 = [.sl 5 []] := rfl
@[simp] theorem td_59 (glob : Nat → Option (List D)) : (mkCtx tab glob).td 59 = .strct [(9, 0), (22, 1), (3, 2), (4, 3)] := rfl
@[simp] theorem sz_59 (glob : Nat → Option (List D)) : (mkCtx tab glob).sz 59 = 4 := rfl
@[simp] theorem eq_59 (glob : Nat → Option (List D)) : (mkCtx tab glob).eqt 59 = [] := rfl
@[simp] theorem ze_59 (glob : Nat → Option (List D)) : (mkCtx tab glob).zero 59 = [.s [], .sl 1 [], .v (.int .i64 0), .v (.bool false)] := rfl
@[simp] theorem td_60 (glob : Nat → Option (List D)) : (mkCtx tab glob).td 60 = .strct [(9, 0), (22, 1), (3, 2), (4, 3)] := rfl
@[simp] theorem sz_60 (glob : Nat → Option (List D)) : (mkCtx tab glob).sz 60 = 4 := rfl
@[simp] theorem eq_60 (glob : Nat → Option (List D)) : (mkCtx tab glob).eqt 60 = [] := rfl
@[simp] theorem ze_60 (glob : Nat → Option (List D)) : (mkCtx tab glob).zero 60 = [.s [], .sl 1 [], .v (.int .i64 0), .v (.bool false)] := rfl
@[simp] theorem td_61 (glob : Nat → Option (List D)) : (mkCtx tab glob).td 61 = .strct [(3, 0), (60, 1)] := rfl
@[simp] theorem sz_61 (glob : Nat → Option (List D)) : (mkCtx tab glob).sz 61 = 5 := rfl
@[simp] theorem eq_61 (glob : Nat → Option (List D)) : (mkCtx tab glob).eqt 61 = [] := rfl
@[simp] theorem ze_61 (glob : Nat → Option (List D)) : (mkCtx tab glob).zero 61 = [.v (.int .i64 0), .s [], .sl 1 [], .v (.int .i64 0), .v (.bool false)] := rfl
@[simp] theorem td_62 (glob : Nat → Option (List D)) : (mkCtx tab glob).td 62 = .strct [(3, 0), (60, 1)] := rfl
@[simp] theorem sz_62 (glob : Nat → Option (List D)) : (mkCtx tab glob).sz 62 = 5 := rfl
@[simp] theorem eq_62 (glob : Nat → Option (List D)) : (mkCtx tab glob).eqt 62 = [] := rfl
@[simp] theorem ze_62 (glob : Nat → Option (List D)) : (mkCtx tab glob).zero 62 = [.v (.int .i64 0), .s [], .sl 1 [], .v (.int .i64 0), .v (.bool false)] := rfl
@[simp] theorem td_63 (glob : Nat → Option (List D)) : (mkCtx tab glob).td 63 = .func := rfl
@[simp] theorem sz_63 (glob : Nat → Option (List D)) : (mkCtx tab glob).sz 63 = 1 := rfl
@[simp] theorem ze_63 (glob : Nat → Option (List D)) : (mkCtx tab glob).zero 63 = [.v .nilFunc] := rfl
@[simp] theorem td_64 (glob : Nat → Option (List D)) : (mkCtx tab glob).td 64 = .func := rfl
@[simp] theorem sz_64 (glob : Nat → Option (List D)) : (mkCtx tab glob).sz 64 = 1 := rfl
@[simp] theorem ze_64 (glob : Nat → Option (List D)) : (mkCtx tab glob).zero 64 = [.v .nilFunc] := rfl
@[simp] theorem td_65 (glob : Nat → Option (List D)) : (mkCtx tab glob).td 65 = .func := rfl
@[simp] theorem sz_65 (glob : Nat → Option (List D)) : (mkCtx tab glob).sz 65 = 1 := rfl
@[simp] theorem ze_65 (glob : Nat → Option (List D)) : (mkCtx tab glob).zero 65 = [.v .nilFunc] := rfl
@[simp] theorem td_66 (glob : Nat → Option (List D)) : (mkCtx tab glob).td 66 = .func := rfl
@[simp] theorem sz_66 (glob : Nat → Option (List D)) : (mkCtx tab glob).sz 66 = 1 := rfl
@[simp] theorem ze_66 (glob : Nat → Option (List D)) : (mkCtx tab glob).zero 66 = [.v .nilFunc] := rfl
@[simp] theorem td_67 (glob : Nat → Option (List D)) : (mkCtx tab glob).td 67 = .iface false := rfl
@[simp] theorem sz_67 (glob : Nat → Option (List D)) : (mkCtx tab glob).sz 67 = 1 := rfl
@[simp] theorem ze_67 (glob : Nat → Option (List D)) : (mkCtx tab glob).zero 67 = [.v .nilIface] := rfl
@[simp] theorem td_68 (glob : Nat → Option (List D)) : (mkCtx tab glob).td 68 = .iface false := rfl
@[simp] theorem sz_68 (glob : Nat → Option (List D)) : (mkCtx tab glob).sz 68 = 1 := rfl
@[simp] theorem ze_68 (glob : Nat → Option (List D)) : (mkCtx tab glob).zero 68 = [.v .nilIface] := rfl
@[simp] theorem td_70 (glob : Nat → Option (List D)) : (mkCtx tab glob).td 70 = .func := rfl
@[simp] theorem sz_70 (glob : Nat → Option (List D)) : (mkCtx tab glob).sz 70 = 1 := rfl
@[simp] theorem ze_70 (glob : Nat → Option (List D)) : (mkCtx tab glob).zero 70 = [.v .nilFunc] := rfl
@[simp] theorem td_71 (glob : Nat → Option (List D)) : (mkCtx tab glob).td 71 = .func := rfl
@[simp] theorem sz_71 (glob : Nat → Option (List D)) : (mkCtx tab glob).sz 71 = 1 := rfl
@[simp] theorem ze_71 (glob : Nat → Option (List D)) : (mkCtx tab glob).zero 71 = [.v .nilFunc] := rfl
@[simp] theorem td_72 (glob : Nat → Option (List D)) : (mkCtx tab glob).td 72 = .func := rfl
@[simp] theorem sz_72 (glob : Nat → Option (List D)) : (mkCtx tab glob).sz 72 = 1 := rfl
@[simp] theorem ze_72 (glob : Nat → Option (List D)) : (mkCtx tab glob).zero 72 = [.v .nilFunc] := rfl
@[simp] theorem td_73 (glob : Nat → Option (List D)) : (mkCtx tab glob).td 73 = .strct [(9, 0), (9, 1), (9, 2), (4, 3)] := rfl
@[simp] theorem sz_73 (glob : Nat → Option (List D)) : (mkCtx tab glob).sz 73 = 4 := rfl
@[simp] theorem eq_73 (glob : Nat → Option (List D)) : (mkCtx tab glob).eqt 73 = [] := rfl
@[simp] theorem ze_73 (glob : Nat → Option (List D)) : (mkCtx tab glob).zero 73 = [.s [], .s [], .s [], .v (.bool false)] := rfl
@[simp] theorem td_74 (glob : Nat → Option (List D)) : (mkCtx tab glob).td 74 = .strct [(9, 0), (9, 1), (9, 2), (4, 3)] := rfl
@[simp] theorem sz_74 (glob : Nat → Option (List D)) : (mkCtx tab glob).sz 74 = 4 := rfl
@[simp] theorem eq_74 (glob : Nat → Option (List D)) : (mkCtx tab glob).eqt 74 = [] := rfl
@[simp] theorem ze_74 (glob : Nat → Option (List D)) : (mkCtx tab glob).zero 74 = [.s [], .s [], .s [], .v (.bool false)] := rfl
@[simp] theorem td_75 (glob : Nat → Option (List D)) : (mkCtx tab glob).td 75 = .strct [(9, 0), (9, 1), (9, 2), (4, 3)] := rfl
@[simp] theorem sz_75 (glob : Nat → Option (List D)) : (mkCtx tab glob).sz 75 = 4 := rfl
@[simp] theorem eq_75 (glob : Nat → Option (List D)) : (mkCtx tab glob).eqt 75 = [] := rfl
@[simp] theorem ze_75 (glob : Nat → Option (List D)) : (mkCtx tab glob).zero 75 = [.s [], .s [], .s [], .v (.bool false)] := rfl
@[simp] theorem td_76 (glob : Nat → Option (List D)) : (mkCtx tab glob).td 76 = .func := rfl
@[simp] theorem sz_76 (glob : Nat → Option (List D)) : (mkCtx tab glob).sz 76 = 1 := rfl
@[simp] theorem ze_76 (glob : Nat → Option (List D)) : (mkCtx tab glob).zero 76 = [.v .nilFunc] := rfl
@[simp] theorem td_77 (glob : Nat → Option (List D)) : (mkCtx tab glob).td 77 = .func := rfl
@[simp] theorem sz_77 (glob : Nat → Option (List D)) : (mkCtx tab glob).sz 77 = 1 := rfl
@[simp] theorem ze_77 (glob : Nat → Option (List D)) : (mkCtx tab glob).zero 77 = [.v .nilFunc] := rfl
@[simp] theorem td_78 (glob : Nat → Option (List D)) : (mkCtx tab glob).td 78 = .func := rfl
@[simp] theorem sz_78 (glob : Nat → Option (List D)) : (mkCtx tab glob).sz 78 = 1 := rfl
@[simp] theorem ze_78 (glob : Nat → Option (List D)) : (mkCtx tab glob).zero 78 = [.v .nilFunc] := rfl
@[simp] theorem td_79 (glob : Nat → Option (List D)) : (mkCtx tab glob).td 79 = .strct [(9, 0), (9, 1), (3, 2)] := rfl
@[simp] theorem sz_79 (glob : Nat → Option (List D)) : (mkCtx tab glob).sz 79 = 3 := rfl
@[simp] theorem eq_79 (glob : Nat → Option (List D)) : (mkCtx tab glob).eqt 79 = [] := rfl
@[simp] theorem ze_79 (glob : Nat → Option (List D)) : (mkCtx tab glob).zero 79 = [.s [], .s [], .v (.int .i64 0)] := rfl
@[simp] theorem td_80 (glob : Nat → Option (List D)) : (mkCtx tab glob).td 80 = .strct [(9, 0), (9, 1), (3, 2)] := rfl
@[simp] theorem sz_80 (glob : Nat → Option (List D)) : (mkCtx tab glob).sz 80 = 3 := rfl
@[simp] theorem eq_80 (glob : Nat → Option (List D)) : (mkCtx tab glob).eqt 80 = [.s, .s, .i] := rfl
@[simp] theorem ze_80 (glob : Nat → Option (List D)) : (mkCtx tab glob).zero 80 = [.s [], .s [], .v (.int .i64 0)] := rfl
@[simp] theorem td_81 (glob : Nat → Option (List D)) : (mkCtx tab glob).td 81 = .func := rfl
@[simp] theorem sz_81 (glob : Nat → Option (List D)) : (mkCtx tab glob).sz 81 = 1 := rfl
@[simp] theorem ze_81 (glob : Nat → Option (List D)) : (mkCtx tab glob).zero 81 = [.v .nilFunc] := rfl
@[simp] theorem td_82 (glob : Nat → Option (List D)) : (mkCtx tab glob).td 82 = .func := rfl
@[simp] theorem sz_82 (glob : Nat → Option (List D)) : (mkCtx tab glob).sz 82 = 1 := rfl
@[simp] theorem ze_82 (glob : Nat → Option (List D)) : (mkCtx tab glob).zero 82 = [.v .nilFunc] := rfl
@[simp] theorem td_83 (glob : Nat → Option (List D)) : (mkCtx tab glob).td 83 = .func := rfl
@[simp] theorem sz_83 (glob : Nat → Option (List D)) : (mkCtx tab glob).sz 83 = 1 := rfl
@[simp] theorem ze_83 (glob : Nat → Option (List D)) : (mkCtx tab glob).zero 83 = [.v .nilFunc] := rfl
@[simp] theorem td_84 (glob : Nat → Option (List D)) : (mkCtx tab glob).td 84 = .func := rfl
@[simp] theorem sz_84 (glob : Nat → Option (List D)) : (mkCtx tab glob).sz 84 = 1 := rfl
@[simp] theorem ze_84 (glob : Nat → Option (List D)) : (mkCtx tab glob).zero 84 = [.v .nilFunc] := rfl
@[simp] theorem td_85 (glob : Nat → Option (List D)) : (mkCtx tab glob).td 85 = .ptr 89 := rfl
@[simp] theorem sz_85 (glob : Nat → Option (List D)) : (mkCtx tab glob).sz 85 = 1 := rfl
@[simp] theorem ze_85 (glob : Nat → Option (List D)) : (mkCtx tab glob).zero 85 = [.v (.pointer none)] := rfl
@[simp] theorem td_86 (glob : Nat → Option (List D)) : (mkCtx tab glob).td 86 = .map 3 57 := rfl
@[simp] theorem sz_86 (glob : Nat → Option (List D)) : (mkCtx tab glob).sz 86 = 1 := rfl
@[simp] theorem ze_86 (glob : Nat → Option (List D)) : (mkCtx tab glob).zero 86 = [.v (.map none)] := rfl
@[simp] theorem td_87 (glob : Nat → Option (List D)) : (mkCtx tab glob).td 87 = .map 3 3 := rfl
@[simp] theorem sz_87 (glob : Nat → Option (List D)) : (mkCtx tab glob).sz 87 = 1 := rfl
@[simp] theorem ze_87 (glob : Nat → Option (List D)) : (mkCtx tab glob).zero 87 = [.v (.map none)] := rfl
@[simp] theorem td_88 (glob : Nat → Option (List D)) : (mkCtx tab glob).td 88 = .strct [(50, 0), (32, 4), (86, 12), (87, 13), (57, 14), (3, 20), (4, 21)] := rfl
@[simp] theorem sz_88 (glob : Nat → Option (List D)) : (mkCtx tab glob).sz 88 = 22 := rfl
@[simp] theorem eq_88 (glob : Nat → Option (List D)) : (mkCtx tab glob).eqt 88 = [] := rfl
@[simp] theorem ze_88 (glob : Nat → Option (List D)) : (mkCtx tab glob).zero 88 = [.sl 1 [], .sl 6 [], .sl 9 [], .sl 1 [], .v (.int .i64 0), .v (.bool false), .v (.bool false), .v (.bool false), .v (.bool false), .v (.bool false), .sl 1 [], .sl 4 [], .v (.map none), .v (.map none), .v (.int .i64 0), .v (.int .i64 0), .v (.int .i64 0), .v (.int .i64 0), .v (.int .i64 0), .v (.int .i64 0), .v (.int .i64 0), .v (.bool false)] := rfl
@[simp] theorem td_89 (glob : Nat → Option (List D)) : (mkCtx tab glob).td 89 = .strct [(50, 0), (32, 4), (86, 12), (87, 13), (57, 14), (3, 20), (4, 21)] := rfl
@[simp] theorem sz_89 (glob : Nat → Option (List D)) : (mkCtx tab glob).sz 89 = 22 := rfl
@[simp] theorem eq_89 (glob : Nat → Option (List D)) : (mkCtx tab glob).eqt 89 = [] := rfl
@[simp] theorem ze_89 (glob : Nat → Option (List D)) : (mkCtx tab glob).zero 89 = [.sl 1 [], .sl 6 [], .sl 9 [], .sl 1 [], .v (.int .i64 0), .v (.bool false), .v (.bool false), .v (.bool false), .v (.bool false), .v (.bool false), .sl 1 [], .sl 4 [], .v (.map none), .v (.map none), .v (.int .i64 0), .v (.int .i64 0), .v (.int .i64 0), .v (.int .i64 0), .v (.int .i64 0), .v (.int .i64 0), .v (.int .i64 0), .v (.bool false)] := rfl
@[simp] theorem td_90 (glob : Nat → Option (List D)) : (mkCtx tab glob).td 90 = .func := rfl
@[simp] theorem sz_90 (glob : Nat → Option (List D)) : (mkCtx tab glob).sz 90 = 1 := rfl
@[simp] theorem ze_90 (glob : Nat → Option (List D)) : (mkCtx tab glob).zero 90 = [.v .nilFunc] := rfl
@[simp] theorem td_91 (glob : Nat → Option (List D)) : (mkCtx tab glob).td 91 = .func := rfl
@[simp] theorem sz_91 (glob : Nat → Option (List D)) : (mkCtx tab glob).sz 91 = 1 := rfl
@[simp] theorem ze_91 (glob : Nat → Option (List D)) : (mkCtx tab glob).zero 91 = [.v .nilFunc] := rfl
@[simp] theorem td_92 (glob : Nat → Option (List D)) : (mkCtx tab glob).td 92 = .func := rfl
@[simp] theorem sz_92 (glob : Nat → Option (List D)) : (mkCtx tab glob).sz 92 = 1 := rfl
@[simp] theorem ze_92 (glob : Nat → Option (List D)) : (mkCtx tab glob).zero 92 = [.v .nilFunc] := rfl
@[simp] theorem td_93 (glob : Nat → Option (List D)) : (mkCtx tab glob).td 93 = .func := rfl
@[simp] theorem sz_93 (glob : Nat → Option (List D)) : (mkCtx tab glob).sz 93 = 1 := rfl
@[simp] theorem ze_93 (glob : Nat → Option (List D)) : (mkCtx tab glob).zero 93 = [.v .nilFunc] := rfl
@[simp] theorem td_94 (glob : Nat → Option (List D)) : (mkCtx tab glob).td 94 = .func := rfl
@[simp] theorem sz_94 (glob : Nat → Option (List D)) : (mkCtx tab glob).sz 94 = 1 := rfl
@[simp] theorem ze_94 (glob : Nat → Option (List D)) : (mkCtx tab glob).zero 94 = [.v .nilFunc] := rfl
@[simp] theorem td_95 (glob : Nat → Option (List D)) : (mkCtx tab glob).td 95 = .func := rfl
@[simp] theorem sz_95 (glob : Nat → Option (List D)) : (mkCtx tab glob).sz 95 = 1 := rfl
@[simp] theorem ze_95 (glob : Nat → Option (List D)) : (mkCtx tab glob).zero 95 = [.v .nilFunc] := rfl
@[simp] theorem td_96 (glob : Nat → Option (List D)) : (mkCtx tab glob).td 96 = .func := rfl
@[simp] theorem sz_96 (glob : Nat → Option (List D)) : (mkCtx tab glob).sz 96 = 1 := rfl
@[simp] theorem ze_96 (glob : Nat → Option (List D)) : (mkCtx tab glob).zero 96 = [.v .nilFunc] := rfl
@[simp] theorem td_97 (glob : Nat → Option (List D)) : (mkCtx tab glob).td 97 = .func := rfl
@[simp] theorem sz_97 (glob : Nat → Option (List D)) : (mkCtx tab glob).sz 97 = 1 := rfl
@[simp] theorem ze_97 (glob : Nat → Option (List D)) : (mkCtx tab glob).zero 97 = [.v .nilFunc] := rfl
@[simp] theorem td_98 (glob : Nat → Option (List D)) : (mkCtx tab glob).td 98 = .strct [(3, 0), (9, 1)] := rfl
@[simp] theorem sz_98 (glob : Nat → Option (List D)) : (mkCtx tab glob).sz 98 = 2 := rfl
@[simp] theorem eq_98 (glob : Nat → Option (List D)) : (mkCtx tab glob).eqt 98 = [] := rfl
@[simp] theorem ze_98 (glob : Nat → Option (List D)) : (mkCtx tab glob).zero 98 = [.v (.int .i64 0), .s []] := rfl
@[simp] theorem td_99 (glob : Nat → Option (List D)) : (mkCtx tab glob).td 99 = .strct [(3, 0), (9, 1)] := rfl
@[simp] theorem sz_99 (glob : Nat → Option (List D)) : (mkCtx tab glob).sz 99 = 2 := rfl
@[simp] theorem eq_99 (glob : Nat → Option (List D)) : (mkCtx tab glob).eqt 99 = [.i, .s] := rfl
@[simp] theorem ze_99 (glob : Nat → Option (List D)) : (mkCtx tab glob).zero 99 = [.v (.int .i64 0), .s []] := rfl
@[simp] theorem td_100 (glob : Nat → Option (List D)) : (mkCtx tab glob).td 100 = .strct [(3, 0), (22, 1), (22, 2), (22, 3), (9, 4), (9, 5), (22, 6), (99, 7)] := rfl
@[simp] theorem sz_100 (glob : Nat → Option (List D)) : (mkCtx tab glob).sz 100 = 9 := rfl
@[simp] theorem eq_100 (glob : Nat → Option (List D)) : (mkCtx tab glob).eqt 100 = [] := rfl
@[simp] theorem ze_100 (glob : Nat → Option (List D)) : (mkCtx tab glob).zero 100 = [.v (.int .i64 0), .sl 1 [], .sl 1 [], .sl 1 [], .s [], .s [], .sl 1 [], .v (.int .i64 0), .s []] := rfl
@[simp] theorem td_101 (glob : Nat → Option (List D)) : (mkCtx tab glob).td 101 = .strct [(3, 0), (22, 1), (22, 2), (22, 3), (9, 4), (9, 5), (22, 6), (99, 7)] := rfl
@[simp] theorem sz_101 (glob : Nat → Option (List D)) : (mkCtx tab glob).sz 101 = 9 := rfl
@[simp] theorem eq_101 (glob : Nat → Option (List D)) : (mkCtx tab glob).eqt 101 = [] := rfl
@[simp] theorem ze_101 (glob : Nat → Option (List D)) : (mkCtx tab glob).zero 101 = [.v (.int .i64 0), .sl 1 [], .sl 1 [], .sl 1 [], .s [], .s [], .sl 1 [], .v (.int .i64 0), .s []] := rfl
@[simp] theorem td_102 (glob : Nat → Option (List D)) : (mkCtx tab glob).td 102 = .func := rfl
@[simp] theorem sz_102 (glob : Nat → Option (List D)) : (mkCtx tab glob).sz 102 = 1 := rfl
@[simp] theorem ze_102 (glob : Nat → Option (List D)) : (mkCtx tab glob).zero 102 = [.v .nilFunc] := rfl
@[simp] theorem td_103 (glob : Nat → Option (List D)) : (mkCtx tab glob).td 103 = .func := rfl
@[simp] theorem sz_103 (glob : Nat → Option (List D)) : (mkCtx tab glob).sz 103 = 1 := rfl
@[simp] theorem ze_103 (glob : Nat → Option (List D)) : (mkCtx tab glob).zero 103 = [.v .nilFunc] := rfl
@[simp] theorem td_105 (glob : Nat → Option (List D)) : (mkCtx tab glob).td 105 = .func := rfl
@[simp] theorem sz_105 (glob : Nat → Option (List D)) : (mkCtx tab glob).sz 105 = 1 := rfl
@[simp] theorem ze_105 (glob : Nat → Option (List D)) : (mkCtx tab glob).zero 105 = [.v .nilFunc] := rfl
@[simp] theorem td_106 (glob : Nat → Option (List D)) : (mkCtx tab glob).td 106 = .func := rfl
@[simp] theorem sz_106 (glob : Nat → Option (List D)) : (mkCtx tab glob).sz 106 = 1 := rfl
@[simp] theorem ze_106 (glob : Nat → Option (List D)) : (mkCtx tab glob).zero 106 = [.v .nilFunc] := rfl
@[simp] theorem td_107 (glob : Nat → Option (List D)) : (mkCtx tab glob).td 107 = .func := rfl
@[simp] theorem sz_107 (glob : Nat → Option (List D)) : (mkCtx tab glob).sz 107 = 1 := rfl
@[simp] theorem ze_107 (glob : Nat → Option (List D)) : (mkCtx tab glob).zero 107 = [.v .nilFunc] := rfl
@[simp] theorem td_108 (glob : Nat → Option (List D)) : (mkCtx tab glob).td 108 = .func := rfl
@[simp] theorem sz_108 (glob : Nat → Option (List D)) : (mkCtx tab glob).sz 108 = 1 := rfl
@[simp] theorem ze_108 (glob : Nat → Option (List D)) : (mkCtx tab glob).zero 108 = [.v .nilFunc] := rfl
@[simp] theorem td_109 (glob : Nat → Option (List D)) : (mkCtx tab glob).td 109 = .func := rfl
@[simp] theorem sz_109 (glob : Nat → Option (List D)) : (mkCtx tab glob).sz 109 = 1 := rfl
@[simp] theorem ze_109 (glob : Nat → Option (List D)) : (mkCtx tab glob).zero 109 = [.v .nilFunc] := rfl
@[simp] theorem td_110 (glob : Nat → Option (List D)) : (mkCtx tab glob).td 110 = .func := rfl
@[simp] theorem sz_110 (glob : Nat → Option (List D)) : (mkCtx tab glob).sz 110 = 1 := rfl
@[simp] theorem ze_110 (glob : Nat → Option (List D)) : (mkCtx tab glob).zero 110 = [.v .nilFunc] := rfl
@[simp] theorem td_111 (glob : Nat → Option (List D)) : (mkCtx tab glob).td 111 = .func := rfl
@[simp] theorem sz_111 (glob : Nat → Option (List D)) : (mkCtx tab glob).sz 111 = 1 := rfl
@[simp] theorem ze_111 (glob : Nat → Option (List D)) : (mkCtx tab glob).zero 111 = [.v .nilFunc] := rfl
@[simp] theorem td_112 (glob : Nat → Option (List D)) : (mkCtx tab glob).td 112 = .strct [(9, 0), (22, 1), (4, 2), (4, 3), (9, 4), (3, 5)] := rfl
@[simp] theorem sz_112 (glob : Nat → Option (List D)) : (mkCtx tab glob).sz 112 = 6 := rfl
@[simp] theorem eq_112 (glob : Nat → Option (List D)) : (mkCtx tab glob).eqt 112 = [] := rfl
@[simp] theorem ze_112 (glob : Nat → Option (List D)) : (mkCtx tab glob).zero 112 = [.s [], .sl 1 [], .v (.bool false), .v (.bool false), .s [], .v (.int .i64 0)] := rfl
@[simp] theorem td_113 (glob : Nat → Option (List D)) : (mkCtx tab glob).td 113 = .strct [(9, 0), (22, 1), (4, 2), (4, 3), (9, 4), (3, 5)] := rfl
@[simp] theorem sz_113 (glob : Nat → Option (List D)) : (mkCtx tab glob).sz 113 = 6 := rfl
@[simp] theorem eq_113 (glob : Nat → Option (List D)) : (mkCtx tab glob).eqt 113 = [] := rfl
@[simp] theorem ze_113 (glob : Nat → Option (List D)) : (mkCtx tab glob).zero 113 = [.s [], .sl 1 [], .v (.bool false), .v (.bool false), .s [], .v (.int .i64 0)] := rfl
@[simp] theorem td_115 (glob : Nat → Option (List D)) : (mkCtx tab glob).td 115 = .func := rfl
@[simp] theorem sz_115 (glob : Nat → Option (List D)) : (mkCtx tab glob).sz 115 = 1 := rfl
@[simp] theorem ze_115 (glob : Nat → Option (List D)) : (mkCtx tab glob).zero 115 = [.v .nilFunc] := rfl
@[simp] theorem td_116 (glob : Nat → Option (List D)) : (mkCtx tab glob).td 116 = .func := rfl
@[simp] theorem sz_116 (glob : Nat → Option (List D)) : (mkCtx tab glob).sz 116 = 1 := rfl
@[simp] theorem ze_116 (glob : Nat → Option (List D)) : (mkCtx tab glob).zero 116 = [.v .nilFunc] := rfl
@[simp] theorem td_117 (glob : Nat → Option (List D)) : (mkCtx tab glob).td 117 = .func := rfl
@[simp] theorem sz_117 (glob : Nat → Option (List D)) : (mkCtx tab glob).sz 117 = 1 := rfl
@[simp] theorem ze_117 (glob : Nat → Option (List D)) : (mkCtx tab glob).zero 117 = [.v .nilFunc] := rfl
@[simp] theorem td_118 (glob : Nat → Option (List D)) : (mkCtx tab glob).td 118 = .func := rfl
@[simp] theorem sz_118 (glob : Nat → Option (List D)) : (mkCtx tab glob).sz 118 = 1 := rfl
@[simp] theorem ze_118 (glob : Nat → Option (List D)) : (mkCtx tab glob).zero 118 = [.v .nilFunc] := rfl
@[simp] theorem td_119 (glob : Nat → Option (List D)) : (mkCtx tab glob).td 119 = .func := rfl
@[simp] theorem sz_119 (glob : Nat → Option (List D)) : (mkCtx tab glob).sz 119 = 1 := rfl
@[simp] theorem ze_119 (glob : Nat → Option (List D)) : (mkCtx tab glob).zero 119 = [.v .nilFunc] := rfl
@[simp] theorem td_120 (glob : Nat → Option (List D)) : (mkCtx tab glob).td 120 = .slice 22 := rfl
@[simp] theorem sz_120 (glob : Nat → Option (List D)) : (mkCtx tab glob).sz 120 = 1 := rfl
@[simp] theorem ze_120 (glob : Nat → Option (List D)) : (mkCtx tab glob).zero 120 = [.sl 1 []] := rfl
@[simp] theorem td_121 (glob : Nat → Option (List D)) : (mkCtx tab glob).td 121 = .func := rfl
@[simp] theorem sz_121 (glob : Nat → Option (List D)) : (mkCtx tab glob).sz 121 = 1 := rfl
@[simp] theorem ze_121 (glob : Nat → Option (List D)) : (mkCtx tab glob).zero 121 = [.v .nilFunc] := rfl
@[simp] theorem td_122 (glob : Nat → Option (List D)) : (mkCtx tab glob).td 122 = .func := rfl
@[simp] theorem sz_122 (glob : Nat → Option (List D)) : (mkCtx tab glob).sz 122 = 1 := rfl
@[simp] theorem ze_122 (glob : Nat → Option (List D)) : (mkCtx tab glob).zero 122 = [.v .nilFunc] := rfl
@[simp] theorem td_123 (glob : Nat → Option (List D)) : (mkCtx tab glob).td 123 = .slice 128 := rfl
@[simp] theorem sz_123 (glob : Nat → Option (List D)) : (mkCtx tab glob).sz 123 = 1 := rfl
@[simp] theorem ze_123 (glob : Nat → Option (List D)) : (mkCtx tab glob).zero 123 = [.sl 3 []] := rfl
@[simp] theorem td_124 (glob : Nat → Option (List D)) : (mkCtx tab glob).td 124 = .strct [(9, 0), (3, 1), (123, 2)] := rfl
@[simp] theorem sz_124 (glob : Nat → Option (List D)) : (mkCtx tab glob).sz 124 = 3 := rfl
@[simp] theorem eq_124 (glob : Nat → Option (List D)) : (mkCtx tab glob).eqt 124 = [] := rfl
@[simp] theorem ze_124 (glob : Nat → Option (List D)) : (mkCtx tab glob).zero 124 = [.s [], .v (.int .i64 0), .sl 3 []] := rfl
@[simp] theorem td_125 (glob : Nat → Option (List D)) : (mkCtx tab glob).td 125 = .strct [(9, 0), (3, 1), (123, 2)] := rfl
@[simp] theorem sz_125 (glob : Nat → Option (List D)) : (mkCtx tab glob).sz 125 = 3 := rfl
@[simp] theorem eq_125 (glob : Nat → Option (List D)) : (mkCtx tab glob).eqt 125 = [] := rfl
@[simp] theorem ze_125 (glob : Nat → Option (List D)) : (mkCtx tab glob).zero 125 = [.s [], .v (.int .i64 0), .sl 3 []] := rfl
@[simp] theorem td_126 (glob : Nat → Option (List D)) : (mkCtx tab glob).td 126 = .func := rfl
@[simp] theorem sz_126 (glob : Nat → Option (List D)) : (mkCtx tab glob).sz 126 = 1 := rfl
@[simp] theorem ze_126 (glob : Nat → Option (List D)) : (mkCtx tab glob).zero 126 = [.v .nilFunc] := rfl
@[simp] theorem td_127 (glob : Nat → Option (List D)) : (mkCtx tab glob).td 127 = .strct [(3, 0), (9, 1), (9, 2)] := rfl
@[simp] theorem sz_127 (glob : Nat → Option (List D)) : (mkCtx tab glob).sz 127 = 3 := rfl
@[simp] theorem eq_127 (glob : Nat → Option (List D)) : (mkCtx tab glob).eqt 127 = [] := rfl
@[simp] theorem ze_127 (glob : Nat → Option (List D)) : (mkCtx tab glob).zero 127 = [.v (.int .i64 0), .s [], .s []] := rfl
@[simp] theorem td_128 (glob : Nat → Option (List D)) : (mkCtx tab glob).td 128 = .strct [(3, 0), (9, 1), (9, 2)] := rfl
@[simp] theorem sz_128 (glob : Nat → Option (List D)) : (mkCtx tab glob).sz 128 = 3 := rfl
@[simp] theorem eq_128 (glob : Nat → Option (List D)) : (mkCtx tab glob).eqt 128 = [] := rfl
@[simp] theorem ze_128 (glob : Nat → Option (List D)) : (mkCtx tab glob).zero 128 = [.v (.int .i64 0), .s [], .s []] := rfl
@[simp] theorem td_130 (glob : Nat → Option (List D)) : (mkCtx tab glob).td 130 = .func := rfl
@[simp] theorem sz_130 (glob : Nat → Option (List D)) : (mkCtx tab glob).sz 130 = 1 := rfl
@[simp] theorem ze_130 (glob : Nat → Option (List D)) : (mkCtx tab glob).zero 130 = [.v .nilFunc] := rfl
@[simp] theorem td_131 (glob : Nat → Option (List D)) : (mkCtx tab glob).td 131 = .func := rfl
@[simp] theorem sz_131 (glob : Nat → Option (List D)) : (mkCtx tab glob).sz 131 = 1 := rfl
@[simp] theorem ze_131 (glob : Nat → Option (List D)) : (mkCtx tab glob).zero 131 = [.v .nilFunc] := rfl
@[simp] theorem td_132 (glob : Nat → Option (List D)) : (mkCtx tab glob).td 132 = .func := rfl
@[simp] theorem sz_132 (glob : Nat → Option (List D)) : (mkCtx tab glob).sz 132 = 1 := rfl
@[simp] theorem ze_132 (glob : Nat → Option (List D)) : (mkCtx tab glob).zero 132 = [.v .nilFunc] := rfl
@[simp] theorem td_133 (glob : Nat → Option (List D)) : (mkCtx tab glob).td 133 = .func := rfl
@[simp] theorem sz_133 (glob : Nat → Option (List D)) : (mkCtx tab glob).sz 133 = 1 := rfl
@[simp] theorem ze_133 (glob : Nat → Option (List D)) : (mkCtx tab glob).zero 133 = [.v .nilFunc] := rfl
@[simp] theorem td_134 (glob : Nat → Option (List D)) : (mkCtx tab glob).td 134 = .func := rfl
@[simp] theorem sz_134 (glob : Nat → Option (List D)) : (mkCtx tab glob).sz 134 = 1 := rfl
@[simp] theorem ze_134 (glob : Nat → Option (List D)) : (mkCtx tab glob).zero 134 = [.v .nilFunc] := rfl
@[simp] theorem td_135 (glob : Nat → Option (List D)) : (mkCtx tab glob).td 135 = .func := rfl
@[simp] theorem sz_135 (glob : Nat → Option (List D)) : (mkCtx tab glob).sz 135 = 1 := rfl
@[simp] theorem ze_135 (glob : Nat → Option (List D)) : (mkCtx tab glob).zero 135 = [.v .nilFunc] := rfl
@[simp] theorem td_136 (glob : Nat → Option (List D)) : (mkCtx tab glob).td 136 = .func := rfl
@[simp] theorem sz_136 (glob : Nat → Option (List D)) : (mkCtx tab glob).sz 136 = 1 := rfl
@[simp] theorem ze_136 (glob : Nat → Option (List D)) : (mkCtx tab glob).zero 136 = [.v .nilFunc] := rfl
@[simp] theorem td_137 (glob : Nat → Option (List D)) : (mkCtx tab glob).td 137 = .func := rfl
@[simp] theorem sz_137 (glob : Nat → Option (List D)) : (mkCtx tab glob).sz 137 = 1 := rfl
@[simp] theorem ze_137 (glob : Nat → Option (List D)) : (mkCtx tab glob).zero 137 = [.v .nilFunc] := rfl
@[simp] theorem td_139 (glob : Nat → Option (List D)) : (mkCtx tab glob).td 139 = .func := rfl
@[simp] theorem sz_139 (glob : Nat → Option (List D)) : (mkCtx tab glob).sz 139 = 1 := rfl
@[simp] theorem ze_139 (glob : Nat → Option (List D)) : (mkCtx tab glob).zero 139 = [.v .nilFunc] := rfl
@[simp] theorem td_140 (glob : Nat → Option (List D)) : (mkCtx tab glob).td 140 = .func := rfl
@[simp] theorem sz_140 (glob : Nat → Option (List D)) : (mkCtx tab glob).sz 140 = 1 := rfl
@[simp] theorem ze_140 (glob : Nat → Option (List D)) : (mkCtx tab glob).zero 140 = [.v .nilFunc] := rfl
@[simp] theorem td_141 (glob : Nat → Option (List D)) : (mkCtx tab glob).td 141 = .int .u64 := rfl
@[simp] theorem sz_141 (glob : Nat → Option (List D)) : (mkCtx tab glob).sz 141 = 1 := rfl
@[simp] theorem ze_141 (glob : Nat → Option (List D)) : (mkCtx tab glob).zero 141 = [.v (.int .u64 0)] := rfl
@[simp] theorem td_142 (glob : Nat → Option (List D)) : (mkCtx tab glob).td 142 = .func := rfl
@[simp] theorem sz_142 (glob : Nat → Option (List D)) : (mkCtx tab glob).sz 142 = 1 := rfl
@[simp] theorem ze_142 (glob : Nat → Option (List D)) : (mkCtx tab glob).zero 142 = [.v .nilFunc] := rfl
@[simp] theorem td_143 (glob : Nat → Option (List D)) : (mkCtx tab glob).td 143 = .func := rfl
@[simp] theorem sz_143 (glob : Nat → Option (List D)) : (mkCtx tab glob).sz 143 = 1 := rfl
@[simp] theorem ze_143 (glob : Nat → Option (List D)) : (mkCtx tab glob).zero 143 = [.v .nilFunc] := rfl
@[simp] theorem td_144 (glob : Nat → Option (List D)) : (mkCtx tab glob).td 144 = .func := rfl
@[simp] theorem sz_144 (glob : Nat → Option (List D)) : (mkCtx tab glob).sz 144 = 1 := rfl
@[simp] theorem ze_144 (glob : Nat → Option (List D)) : (mkCtx tab glob).zero 144 = [.v .nilFunc] := rfl
@[simp] theorem td_145 (glob : Nat → Option (List D)) : (mkCtx tab glob).td 145 = .func := rfl
@[simp] theorem sz_145 (glob : Nat → Option (List D)) : (mkCtx tab glob).sz 145 = 1 := rfl
@[simp] theorem ze_145 (glob : Nat → Option (List D)) : (mkCtx tab glob).zero 145 = [.v .nilFunc] := rfl
@[simp] theorem td_146 (glob : Nat → Option (List D)) : (mkCtx tab glob).td 146 = .func := rfl
@[simp] theorem sz_146 (glob : Nat → Option (List D)) : (mkCtx tab glob).sz 146 = 1 := rfl
@[simp] theorem ze_146 (glob : Nat → Option (List D)) : (mkCtx tab glob).zero 146 = [.v .nilFunc] := rfl
@[simp] theorem td_147 (glob : Nat → Option (List D)) : (mkCtx tab glob).td 147 = .int .i64 := rfl
@[simp] theorem sz_147 (glob : Nat → Option (List D)) : (mkCtx tab glob).sz 147 = 1 := rfl
@[simp] theorem ze_147 (glob : Nat → Option (List D)) : (mkCtx tab glob).zero 147 = [.v (.int .i64 0)] := rfl
@[simp] theorem td_149 (glob : Nat → Option (List D)) : (mkCtx tab glob).td 149 = .func := rfl
@[simp] theorem sz_149 (glob : Nat → Option (List D)) : (mkCtx tab glob).sz 149 = 1 := rfl
@[simp] theorem ze_149 (glob : Nat → Option (List D)) : (mkCtx tab glob).zero 149 = [.v .nilFunc] := rfl
@[simp] theorem td_150 (glob : Nat → Option (List D)) : (mkCtx tab glob).td 150 = .func := rfl
@[simp] theorem sz_150 (glob : Nat → Option (List D)) : (mkCtx tab glob).sz 150 = 1 := rfl
@[simp] theorem ze_150 (glob : Nat → Option (List D)) : (mkCtx tab glob).zero 150 = [.v .nilFunc] := rfl
@[simp] theorem td_151 (glob : Nat → Option (List D)) : (mkCtx tab glob).td 151 = .func := rfl
@[simp] theorem sz_151 (glob : Nat → Option (List D)) : (mkCtx tab glob).sz 151 = 1 := rfl
@[simp] theorem ze_151 (glob : Nat → Option (List D)) : (mkCtx tab glob).zero 151 = [.v .nilFunc] := rfl
@[simp] theorem td_152 (glob : Nat → Option (List D)) : (mkCtx tab glob).td 152 = .func := rfl
@[simp] theorem sz_152 (glob : Nat → Option (List D)) : (mkCtx tab glob).sz 152 = 1 := rfl
@[simp] theorem ze_152 (glob : Nat → Option (List D)) : (mkCtx tab glob).zero 152 = [.v .nilFunc] := rfl
@[simp] theorem td_154 (glob : Nat → Option (List D)) : (mkCtx tab glob).td 154 = .func := rfl
@[simp] theorem sz_154 (glob : Nat → Option (List D)) : (mkCtx tab glob).sz 154 = 1 := rfl
@[simp] theorem ze_154 (glob : Nat → Option (List D)) : (mkCtx tab glob).zero 154 = [.v .nilFunc] := rfl
@[simp] theorem td_155 (glob : Nat → Option (List D)) : (mkCtx tab glob).td 155 = .func := rfl
@[simp] theorem sz_155 (glob : Nat → Option (List D)) : (mkCtx tab glob).sz 155 = 1 := rfl
@[simp] theorem ze_155 (glob : Nat → Option (List D)) : (mkCtx tab glob).zero 155 = [.v .nilFunc] := rfl
@[simp] theorem td_156 (glob : Nat → Option (List D)) : (mkCtx tab glob).td 156 = .int .u32 := rfl
@[simp] theorem sz_156 (glob : Nat → Option (List D)) : (mkCtx tab glob).sz 156 = 1 := rfl
@[simp] theorem ze_156 (glob : Nat → Option (List D)) : (mkCtx tab glob).zero 156 = [.v (.int .u32 0)] := rfl
@[simp] theorem td_157 (glob : Nat → Option (List D)) : (mkCtx tab glob).td 157 = .func := rfl
@[simp] theorem sz_157 (glob : Nat → Option (List D)) : (mkCtx tab glob).sz 157 = 1 := rfl
@[simp] theorem ze_157 (glob : Nat → Option (List D)) : (mkCtx tab glob).zero 157 = [.v .nilFunc] := rfl
@[simp] theorem td_158 (glob : Nat → Option (List D)) : (mkCtx tab glob).td 158 = .int .u64 := rfl
@[simp] theorem sz_158 (glob : Nat → Option (List D)) : (mkCtx tab glob).sz 158 = 1 := rfl
@[simp] theorem ze_158 (glob : Nat → Option (List D)) : (mkCtx tab glob).zero 158 = [.v (.int .u64 0)] := rfl
@[simp] theorem td_159 (glob : Nat → Option (List D)) : (mkCtx tab glob).td 159 = .func := rfl
@[simp] theorem sz_159 (glob : Nat → Option (List D)) : (mkCtx tab glob).sz 159 = 1 := rfl
@[simp] theorem ze_159 (glob : Nat → Option (List D)) : (mkCtx tab glob).zero 159 = [.v .nilFunc] := rfl
@[simp] theorem td_160 (glob : Nat → Option (List D)) : (mkCtx tab glob).td 160 = .func := rfl
@[simp] theorem sz_160 (glob : Nat → Option (List D)) : (mkCtx tab glob).sz 160 = 1 := rfl
@[simp] theorem ze_160 (glob : Nat → Option (List D)) : (mkCtx tab glob).zero 160 = [.v .nilFunc] := rfl
@[simp] theorem td_161 (glob : Nat → Option (List D)) : (mkCtx tab glob).td 161 = .func := rfl
@[simp] theorem sz_161 (glob : Nat → Option (List D)) : (mkCtx tab glob).sz 161 = 1 := rfl
@[simp] theorem ze_161 (glob : Nat → Option (List D)) : (mkCtx tab glob).zero 161 = [.v .nilFunc] := rfl
@[simp] theorem td_162 (glob : Nat → Option (List D)) : (mkCtx tab glob).td 162 = .func := rfl
@[simp] theorem sz_162 (glob : Nat → Option (List D)) : (mkCtx tab glob).sz 162 = 1 := rfl
@[simp] theorem ze_162 (glob : Nat → Option (List D)) : (mkCtx tab glob).zero 162 = [.v .nilFunc] := rfl
@[simp] theorem td_163 (glob : Nat → Option (List D)) : (mkCtx tab glob).td 163 = .func := rfl
@[simp] theorem sz_163 (glob : Nat → Option (List D)) : (mkCtx tab glob).sz 163 = 1 := rfl
@[simp] theorem ze_163 (glob : Nat → Option (List D)) : (mkCtx tab glob).zero 163 = [.v .nilFunc] := rfl
@[simp] theorem td_164 (glob : Nat → Option (List D)) : (mkCtx tab glob).td 164 = .int .u64 := rfl
@[simp] theorem sz_164 (glob : Nat → Option (List D)) : (mkCtx tab glob).sz 164 = 1 := rfl
@[simp] theorem ze_164 (glob : Nat → Option (List D)) : (mkCtx tab glob).zero 164 = [.v (.int .u64 0)] := rfl
@[simp] theorem td_165 (glob : Nat → Option (List D)) : (mkCtx tab glob).td 165 = .func := rfl
@[simp] theorem sz_165 (glob : Nat → Option (List D)) : (mkCtx tab glob).sz 165 = 1 := rfl
@[simp] theorem ze_165 (glob : Nat → Option (List D)) : (mkCtx tab glob).zero 165 = [.v .nilFunc] := rfl
@[simp] theorem td_166 (glob : Nat → Option (List D)) : (mkCtx tab glob).td 166 = .func := rfl
@[simp] theorem sz_166 (glob : Nat → Option (List D)) : (mkCtx tab glob).sz 166 = 1 := rfl
@[simp] theorem ze_166 (glob : Nat → Option (List D)) : (mkCtx tab glob).zero 166 = [.v .nilFunc] := rfl
@[simp] theorem td_167 (glob : Nat → Option (List D)) : (mkCtx tab glob).td 167 = .func := rfl
@[simp] theorem sz_167 (glob : Nat → Option (List D)) : (mkCtx tab glob).sz 167 = 1 := rfl
@[simp] theorem ze_167 (glob : Nat → Option (List D)) : (mkCtx tab glob).zero 167 = [.v .nilFunc] := rfl
@[simp] theorem td_168 (glob : Nat → Option (List D)) : (mkCtx tab glob).td 168 = .ptr 3 := rfl
@[simp] theorem sz_168 (glob : Nat → Option (List D)) : (mkCtx tab glob).sz 168 = 1 := rfl
@[simp] theorem ze_168 (glob : Nat → Option (List D)) : (mkCtx tab glob).zero 168 = [.v (.pointer none)] := rfl
@[simp] theorem td_169 (glob : Nat → Option (List D)) : (mkCtx tab glob).td 169 = .func := rfl
@[simp] theorem sz_169 (glob : Nat → Option (List D)) : (mkCtx tab glob).sz 169 = 1 := rfl
@[simp] theorem ze_169 (glob : Nat → Option (List D)) : (mkCtx tab glob).zero 169 = [.v .nilFunc] := rfl
@[simp] theorem td_170 (glob : Nat → Option (List D)) : (mkCtx tab glob).td 170 = .func := rfl
@[simp] theorem sz_170 (glob : Nat → Option (List D)) : (mkCtx tab glob).sz 170 = 1 := rfl
@[simp] theorem ze_170 (glob : Nat → Option (List D)) : (mkCtx tab glob).zero 170 = [.v .nilFunc] := rfl
@[simp] theorem td_171 (glob : Nat → Option (List D)) : (mkCtx tab glob).td 171 = .func := rfl
@[simp] theorem sz_171 (glob : Nat → Option (List D)) : (mkCtx tab glob).sz 171 = 1 := rfl
@[simp] theorem ze_171 (glob : Nat → Option (List D)) : (mkCtx tab glob).zero 171 = [.v .nilFunc] := rfl
@[simp] theorem td_172 (glob : Nat → Option (List D)) : (mkCtx tab glob).td 172 = .func := rfl
@[simp] theorem sz_172 (glob : Nat → Option (List D)) : (mkCtx tab glob).sz 172 = 1 := rfl
@[simp] theorem ze_172 (glob : Nat → Option (List D)) : (mkCtx tab glob).zero 172 = [.v .nilFunc] := rfl
@[simp] theorem td_173 (glob : Nat → Option (List D)) : (mkCtx tab glob).td 173 = .func := rfl
@[simp] theorem sz_173 (glob : Nat → Option (List D)) : (mkCtx tab glob).sz 173 = 1 := rfl
@[simp] theorem ze_173 (glob : Nat → Option (List D)) : (mkCtx tab glob).zero 173 = [.v .nilFunc] := rfl
@[simp] theorem td_174 (glob : Nat → Option (List D)) : (mkCtx tab glob).td 174 = .ptr 164 := rfl
@[simp] theorem sz_174 (glob : Nat → Option (List D)) : (mkCtx tab glob).sz 174 = 1 := rfl
@[simp] theorem ze_174 (glob : Nat → Option (List D)) : (mkCtx tab glob).zero 174 = [.v (.pointer none)] := rfl
@[simp] theorem td_176 (glob : Nat → Option (List D)) : (mkCtx tab glob).td 176 = .func := rfl
@[simp] theorem sz_176 (glob : Nat → Option (List D)) : (mkCtx tab glob).sz 176 = 1 := rfl
@[simp] theorem ze_176 (glob : Nat → Option (List D)) : (mkCtx tab glob).zero 176 = [.v .nilFunc] := rfl
@[simp] theorem td_178 (glob : Nat → Option (List D)) : (mkCtx tab glob).td 178 = .func := rfl
@[simp] theorem sz_178 (glob : Nat → Option (List D)) : (mkCtx tab glob).sz 178 = 1 := rfl
@[simp] theorem ze_178 (glob : Nat → Option (List D)) : (mkCtx tab glob).zero 178 = [.v .nilFunc] := rfl
@[simp] theorem td_179 (glob : Nat → Option (List D)) : (mkCtx tab glob).td 179 = .func := rfl
@[simp] theorem sz_179 (glob : Nat → Option (List D)) : (mkCtx tab glob).sz 179 = 1 := rfl
@[simp] theorem ze_179 (glob : Nat → Option (List D)) : (mkCtx tab glob).zero 179 = [.v .nilFunc] := rfl
@[simp] theorem td_180 (glob : Nat → Option (List D)) : (mkCtx tab glob).td 180 = .ptr 200 := rfl
@[simp] theorem sz_180 (glob : Nat → Option (List D)) : (mkCtx tab glob).sz 180 = 1 := rfl
@[simp] theorem ze_180 (glob : Nat → Option (List D)) : (mkCtx tab glob).zero 180 = [.v (.pointer none)] := rfl
@[simp] theorem td_181 (glob : Nat → Option (List D)) : (mkCtx tab glob).td 181 = .func := rfl
@[simp] theorem sz_181 (glob : Nat → Option (List D)) : (mkCtx tab glob).sz 181 = 1 := rfl
@[simp] theorem ze_181 (glob : Nat → Option (List D)) : (mkCtx tab glob).zero 181 = [.v .nilFunc] := rfl
@[simp] theorem td_182 (glob : Nat → Option (List D)) : (mkCtx tab glob).td 182 = .strct [(17, 0), (17, 1), (17, 2), (9, 3)] := rfl
@[simp] theorem sz_182 (glob : Nat → Option (List D)) : (mkCtx tab glob).sz 182 = 4 := rfl
@[simp] theorem eq_182 (glob : Nat → Option (List D)) : (mkCtx tab glob).eqt 182 = [] := rfl
@[simp] theorem ze_182 (glob : Nat → Option (List D)) : (mkCtx tab glob).zero 182 = [.v (.pointer none), .v (.pointer none), .v (.pointer none), .s []] := rfl
@[simp] theorem td_183 (glob : Nat → Option (List D)) : (mkCtx tab glob).td 183 = .strct [(17, 0), (17, 1), (17, 2), (9, 3)] := rfl
@[simp] theorem sz_183 (glob : Nat → Option (List D)) : (mkCtx tab glob).sz 183 = 4 := rfl
@[simp] theorem eq_183 (glob : Nat → Option (List D)) : (mkCtx tab glob).eqt 183 = [] := rfl
@[simp] theorem ze_183 (glob : Nat → Option (List D)) : (mkCtx tab glob).zero 183 = [.v (.pointer none), .v (.pointer none), .v (.pointer none), .s []] := rfl
@[simp] theorem td_184 (glob : Nat → Option (List D)) : (mkCtx tab glob).td 184 = .arr 0 16 := rfl
@[simp] theorem sz_184 (glob : Nat → Option (List D)) : (mkCtx tab glob).sz 184 = 0 := rfl
@[simp] theorem ze_184 (glob : Nat → Option (List D)) : (mkCtx tab glob).zero 184 = [] := rfl
@[simp] theorem td_187 (glob : Nat → Option (List D)) : (mkCtx tab glob).td 187 = .int .u8 := rfl
@[simp] theorem sz_187 (glob : Nat → Option (List D)) : (mkCtx tab glob).sz 187 = 1 := rfl
@[simp] theorem ze_187 (glob : Nat → Option (List D)) : (mkCtx tab glob).zero 187 = [.v (.int .u8 0)] := rfl
@[simp] theorem td_188 (glob : Nat → Option (List D)) : (mkCtx tab glob).td 188 = .int .u8 := rfl
@[simp] theorem sz_188 (glob : Nat → Option (List D)) : (mkCtx tab glob).sz 188 = 1 := rfl
@[simp] theorem ze_188 (glob : Nat → Option (List D)) : (mkCtx tab glob).zero 188 = [.v (.int .u8 0)] := rfl
@[simp] theorem td_189 (glob : Nat → Option (List D)) : (mkCtx tab glob).td 189 = .func := rfl
@[simp] theorem sz_189 (glob : Nat → Option (List D)) : (mkCtx tab glob).sz 189 = 1 := rfl
@[simp] theorem ze_189 (glob : Nat → Option (List D)) : (mkCtx tab glob).zero 189 = [.v .nilFunc] := rfl
@[simp] theorem td_190 (glob : Nat → Option (List D)) : (mkCtx tab glob).td 190 = .ptr 5 := rfl
@[simp] theorem sz_190 (glob : Nat → Option (List D)) : (mkCtx tab glob).sz 190 = 1 := rfl
@[simp] theorem ze_190 (glob : Nat → Option (List D)) : (mkCtx tab glob).zero 190 = [.v (.pointer none)] := rfl
@[simp] theorem td_191 (glob : Nat → Option (List D)) : (mkCtx tab glob).td 191 = .int .i32 := rfl
@[simp] theorem sz_191 (glob : Nat → Option (List D)) : (mkCtx tab glob).sz 191 = 1 := rfl
@[simp] theorem ze_191 (glob : Nat → Option (List D)) : (mkCtx tab glob).zero 191 = [.v (.int .i32 0)] := rfl
@[simp] theorem td_192 (glob : Nat → Option (List D)) : (mkCtx tab glob).td 192 = .int .i32 := rfl
@[simp] theorem sz_192 (glob : Nat → Option (List D)) : (mkCtx tab glob).sz 192 = 1 := rfl
@[simp] theorem ze_192 (glob : Nat → Option (List D)) : (mkCtx tab glob).zero 192 = [.v (.int .i32 0)] := rfl
@[simp] theorem td_193 (glob : Nat → Option (List D)) : (mkCtx tab glob).td 193 = .strct [(12, 0), (12, 1), (156, 2), (187, 3), (5, 4), (5, 5), (188, 6), (189, 7), (190, 8), (191, 9), (192, 10)] := rfl
@[simp] theorem sz_193 (glob : Nat → Option (List D)) : (mkCtx tab glob).sz 193 = 11 := rfl
@[simp] theorem eq_193 (glob : Nat → Option (List D)) : (mkCtx tab glob).eqt 193 = [] := rfl
@[simp] theorem ze_193 (glob : Nat → Option (List D)) : (mkCtx tab glob).zero 193 = [.v (.int .u64 0), .v (.int .u64 0), .v (.int .u32 0), .v (.int .u8 0), .v (.int .u8 0), .v (.int .u8 0), .v (.int .u8 0), .v .nilFunc, .v (.pointer none), .v (.int .i32 0), .v (.int .i32 0)] := rfl
@[simp] theorem td_194 (glob : Nat → Option (List D)) : (mkCtx tab glob).td 194 = .strct [(12, 0), (12, 1), (156, 2), (187, 3), (5, 4), (5, 5), (188, 6), (189, 7), (190, 8), (191, 9), (192, 10)] := rfl
@[simp] theorem sz_194 (glob : Nat → Option (List D)) : (mkCtx tab glob).sz 194 = 11 := rfl
@[simp] theorem eq_194 (glob : Nat → Option (List D)) : (mkCtx tab glob).eqt 194 = [] := rfl
@[simp] theorem ze_194 (glob : Nat → Option (List D)) : (mkCtx tab glob).zero 194 = [.v (.int .u64 0), .v (.int .u64 0), .v (.int .u32 0), .v (.int .u8 0), .v (.int .u8 0), .v (.int .u8 0), .v (.int .u8 0), .v .nilFunc, .v (.pointer none), .v (.int .i32 0), .v (.int .i32 0)] := rfl
@[simp] theorem td_195 (glob : Nat → Option (List D)) : (mkCtx tab glob).td 195 = .strct [(9, 0), (9, 1)] := rfl
@[simp] theorem sz_195 (glob : Nat → Option (List D)) : (mkCtx tab glob).sz 195 = 2 := rfl
@[simp] theorem eq_195 (glob : Nat → Option (List D)) : (mkCtx tab glob).eqt 195 = [] := rfl
@[simp] theorem ze_195 (glob : Nat → Option (List D)) : (mkCtx tab glob).zero 195 = [.s [], .s []] := rfl
@[simp] theorem td_196 (glob : Nat → Option (List D)) : (mkCtx tab glob).td 196 = .strct [(9, 0), (9, 1)] := rfl
@[simp] theorem sz_196 (glob : Nat → Option (List D)) : (mkCtx tab glob).sz 196 = 2 := rfl
@[simp] theorem eq_196 (glob : Nat → Option (List D)) : (mkCtx tab glob).eqt 196 = [.s, .s] := rfl
@[simp] theorem ze_196 (glob : Nat → Option (List D)) : (mkCtx tab glob).zero 196 = [.s [], .s []] := rfl
@[simp] theorem td_197 (glob : Nat → Option (List D)) : (mkCtx tab glob).td 197 = .func := rfl
@[simp] theorem sz_197 (glob : Nat → Option (List D)) : (mkCtx tab glob).sz 197 = 1 := rfl
@[simp] theorem ze_197 (glob : Nat → Option (List D)) : (mkCtx tab glob).zero 197 = [.v .nilFunc] := rfl
@[simp] theorem td_198 (glob : Nat → Option (List D)) : (mkCtx tab glob).td 198 = .func := rfl
@[simp] theorem sz_198 (glob : Nat → Option (List D)) : (mkCtx tab glob).sz 198 = 1 := rfl
@[simp] theorem ze_198 (glob : Nat → Option (List D)) : (mkCtx tab glob).zero 198 = [.v .nilFunc] := rfl
@[simp] theorem td_199 (glob : Nat → Option (List D)) : (mkCtx tab glob).td 199 = .strct [(9, 0)] := rfl
@[simp] theorem sz_199 (glob : Nat → Option (List D)) : (mkCtx tab glob).sz 199 = 1 := rfl
@[simp] theorem eq_199 (glob : Nat → Option (List D)) : (mkCtx tab glob).eqt 199 = [] := rfl
@[simp] theorem ze_199 (glob : Nat → Option (List D)) : (mkCtx tab glob).zero 199 = [.s []] := rfl
@[simp] theorem td_200 (glob : Nat → Option (List D)) : (mkCtx tab glob).td 200 = .strct [(9, 0)] := rfl
@[simp] theorem sz_200 (glob : Nat → Option (List D)) : (mkCtx tab glob).sz 200 = 1 := rfl
@[simp] theorem eq_200 (glob : Nat → Option (List D)) : (mkCtx tab glob).eqt 200 = [] := rfl
@[simp] theorem ze_200 (glob : Nat → Option (List D)) : (mkCtx tab glob).zero 200 = [.s []] := rfl
@[simp] theorem td_202 (glob : Nat → Option (List D)) : (mkCtx tab glob).td 202 = .func := rfl
@[simp] theorem sz_202 (glob : Nat → Option (List D)) : (mkCtx tab glob).sz 202 = 1 := rfl
@[simp] theorem ze_202 (glob : Nat → Option (List D)) : (mkCtx tab glob).zero 202 = [.v .nilFunc] := rfl
@[simp] theorem cm_180 (glob : Nat → Option (List D)) : (mkCtx tab glob).cmp 180 = true := rfl
@[simp] theorem gl_any (glob : Nat → Option (List D)) (g : Nat) : (mkCtx tab glob).glob g = glob g := rfl

end Go.Ab
