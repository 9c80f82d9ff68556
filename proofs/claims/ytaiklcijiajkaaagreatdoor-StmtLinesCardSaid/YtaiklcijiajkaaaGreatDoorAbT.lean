/- One text of a proof that a law of this seat says true for every input: an evaluator of code over data, and that it tells the truth. It holds of the given program under the conditions that the row prints. -/
import Derived.Test.YtaiklcijiajkaaaGreatDoorAbC
import Derived.Test.YtaiklcijiajkaaaGreatDoorProg
set_option linter.unusedVariables false
namespace Go.Ab
open Go.Proofs

/-- The types of the program, as far as the evaluator asks. -/
def tab : List TI := [
  ⟨.other, 0, [], [], false, [], []⟩,
  ⟨.func, 1, [.v .nilFunc], [], false, [], []⟩,
  ⟨.int .i64, 1, [.v (.int .i64 0)], [], false, [], []⟩,
  ⟨.int .i64, 1, [.v (.int .i64 0)], [], false, [], []⟩,
  ⟨.bool, 1, [.v (.bool false)], [], false, [], []⟩,
  ⟨.int .u8, 1, [.v (.int .u8 0)], [], false, [], []⟩,
  ⟨.int .u8, 1, [.v (.int .u8 0)], [], false, [], []⟩,
  ⟨.strct [(2, 0), (3, 1), (4, 2), (6, 3)], 4, [.v (.int .i64 0), .v (.int .i64 0), .v (.bool false), .v (.int .u8 0)], [], false, [], []⟩,
  ⟨.strct [(2, 0), (3, 1), (4, 2), (6, 3)], 4, [.v (.int .i64 0), .v (.int .i64 0), .v (.bool false), .v (.int .u8 0)], [], false, [], []⟩,
  ⟨.str, 1, [.s []], [], false, [], []⟩,
  ⟨.str, 1, [.s []], [], false, [], []⟩,
  ⟨.str, 1, [.s []], [], false, [], []⟩,
  ⟨.int .u64, 1, [.v (.int .u64 0)], [], false, [], []⟩,
  ⟨.strct [(9, 0), (12, 1)], 2, [.s [], .v (.int .u64 0)], [], false, [], []⟩,
  ⟨.strct [(9, 0), (12, 1)], 2, [.s [], .v (.int .u64 0)], [], false, [], []⟩,
  ⟨.ptr 190, 1, [.v (.pointer none)], [], false, [], []⟩,
  ⟨.ptr 193, 1, [.v (.pointer none)], [], false, [], []⟩,
  ⟨.ptr 201, 1, [.v (.pointer none)], [], false, [], []⟩,
  ⟨.strct [(17, 0)], 1, [.v (.pointer none)], [], false, [], []⟩,
  ⟨.strct [(17, 0)], 1, [.v (.pointer none)], [], false, [], []⟩,
  ⟨.iface true, 1, [.v .nilIface], [], false, [], []⟩,
  ⟨.int .i32, 1, [.v (.int .i32 0)], [], false, [], []⟩,
  ⟨.func, 1, [.v .nilFunc], [], false, [], []⟩,
  ⟨.slice 46, 1, [.sl 10 []], [], false, [], []⟩,
  ⟨.iface false, 1, [.v .nilIface], [], false, [], []⟩,
  ⟨.iface false, 1, [.v .nilIface], [], false, [], []⟩,
  ⟨.other, 0, [], [], false, [], []⟩,
  ⟨.func, 1, [.v .nilFunc], [], false, [], []⟩,
  ⟨.slice 52, 1, [.sl 10 []], [], false, [], []⟩,
  ⟨.other, 0, [], [], false, [], []⟩,
  ⟨.func, 1, [.v .nilFunc], [], false, [], []⟩,
  ⟨.func, 1, [.v .nilFunc], [], false, [], []⟩,
  ⟨.func, 1, [.v .nilFunc], [], false, [], []⟩,
  ⟨.slice 36, 1, [.sl 3 []], [], false, [], []⟩,
  ⟨.slice 37, 1, [.sl 3 []], [], false, [], []⟩,
  ⟨.strct [(9, 0), (3, 1), (4, 2)], 3, [.s [], .v (.int .i64 0), .v (.bool false)], [], false, [], []⟩,
  ⟨.strct [(9, 0), (3, 1), (4, 2)], 3, [.s [], .v (.int .i64 0), .v (.bool false)], [], false, [], []⟩,
  ⟨.strct [(9, 0), (3, 1), (4, 2)], 3, [.s [], .v (.int .i64 0), .v (.bool false)], [], false, [], []⟩,
  ⟨.func, 1, [.v .nilFunc], [], false, [], []⟩,
  ⟨.func, 1, [.v .nilFunc], [], false, [], []⟩,
  ⟨.slice 9, 1, [.sl 1 []], [], false, [], []⟩,
  ⟨.func, 1, [.v .nilFunc], [], false, [], []⟩,
  ⟨.slice 95, 1, [.sl 1 []], [], false, [], []⟩,
  ⟨.strct [(3, 0), (9, 1)], 2, [.v (.int .i64 0), .s []], [], false, [], []⟩,
  ⟨.strct [(3, 0), (9, 1)], 2, [.v (.int .i64 0), .s []], [.i, .s], false, [], []⟩,
  ⟨.strct [(3, 0), (3, 1), (9, 2), (42, 3), (42, 4), (44, 5), (9, 7), (4, 8), (4, 9)], 10, [.v (.int .i64 0), .v (.int .i64 0), .s [], .sl 1 [], .sl 1 [], .v (.int .i64 0), .s [], .s [], .v (.bool false), .v (.bool false)], [], false, [], []⟩,
  ⟨.strct [(3, 0), (3, 1), (9, 2), (42, 3), (42, 4), (44, 5), (9, 7), (4, 8), (4, 9)], 10, [.v (.int .i64 0), .v (.int .i64 0), .s [], .sl 1 [], .sl 1 [], .v (.int .i64 0), .s [], .s [], .v (.bool false), .v (.bool false)], [], false, [], []⟩,
  ⟨.func, 1, [.v .nilFunc], [], false, [], []⟩,
  ⟨.func, 1, [.v .nilFunc], [], false, [], []⟩,
  ⟨.slice 99, 1, [.sl 1 []], [], false, [], []⟩,
  ⟨.strct [(3, 0), (9, 1)], 2, [.v (.int .i64 0), .s []], [.i, .s], false, [], []⟩,
  ⟨.strct [(3, 0), (3, 1), (9, 2), (49, 3), (49, 4), (50, 5), (9, 7), (4, 8), (4, 9)], 10, [.v (.int .i64 0), .v (.int .i64 0), .s [], .sl 1 [], .sl 1 [], .v (.int .i64 0), .s [], .s [], .v (.bool false), .v (.bool false)], [], false, [], []⟩,
  ⟨.strct [(3, 0), (3, 1), (9, 2), (49, 3), (49, 4), (50, 5), (9, 7), (4, 8), (4, 9)], 10, [.v (.int .i64 0), .v (.int .i64 0), .s [], .sl 1 [], .sl 1 [], .v (.int .i64 0), .s [], .s [], .v (.bool false), .v (.bool false)], [], false, [], []⟩,
  ⟨.func, 1, [.v .nilFunc], [], false, [], []⟩,
  ⟨.other, 0, [], [], false, [], []⟩,
  ⟨.func, 1, [.v .nilFunc], [], false, [], []⟩,
  ⟨.other, 0, [], [], false, [], []⟩,
  ⟨.func, 1, [.v .nilFunc], [], false, [], []⟩,
  ⟨.other, 0, [], [], false, [], []⟩,
  ⟨.func, 1, [.v .nilFunc], [], false, [], []⟩,
  ⟨.func, 1, [.v .nilFunc], [], false, [], []⟩,
  ⟨.func, 1, [.v .nilFunc], [], false, [], []⟩,
  ⟨.func, 1, [.v .nilFunc], [], false, [], []⟩,
  ⟨.ptr 65, 1, [.v (.pointer none)], [], false, [(152, false), (149, true)], [("Unwrap", 150)]⟩,
  ⟨.strct [(3, 0), (25, 1)], 2, [.v (.int .i64 0), .v .nilIface], [], false, [], []⟩,
  ⟨.strct [(3, 0), (25, 1)], 2, [.v (.int .i64 0), .v .nilIface], [], false, [], []⟩,
  ⟨.other, 0, [], [], false, [], []⟩,
  ⟨.func, 1, [.v .nilFunc], [], false, [], []⟩,
  ⟨.other, 0, [], [], false, [], []⟩,
  ⟨.func, 1, [.v .nilFunc], [], false, [], []⟩,
  ⟨.func, 1, [.v .nilFunc], [], false, [], []⟩,
  ⟨.func, 1, [.v .nilFunc], [], false, [], []⟩,
  ⟨.func, 1, [.v .nilFunc], [], false, [], []⟩,
  ⟨.other, 0, [], [], false, [], []⟩,
  ⟨.func, 1, [.v .nilFunc], [], false, [], []⟩,
  ⟨.func, 1, [.v .nilFunc], [], false, [], []⟩,
  ⟨.func, 1, [.v .nilFunc], [], false, [], []⟩,
  ⟨.ptr 63, 1, [.v (.pointer none)], [], false, [], []⟩,
  ⟨.slice 25, 1, [.sl 1 []], [], false, [], []⟩,
  ⟨.func, 1, [.v .nilFunc], [], false, [], []⟩,
  ⟨.func, 1, [.v .nilFunc], [], false, [], []⟩,
  ⟨.func, 1, [.v .nilFunc], [], false, [], []⟩,
  ⟨.func, 1, [.v .nilFunc], [], false, [], []⟩,
  ⟨.other, 0, [], [], false, [], []⟩,
  ⟨.func, 1, [.v .nilFunc], [], false, [], []⟩,
  ⟨.func, 1, [.v .nilFunc], [], false, [], []⟩,
  ⟨.other, 0, [], [], false, [], []⟩,
  ⟨.func, 1, [.v .nilFunc], [], false, [], []⟩,
  ⟨.func, 1, [.v .nilFunc], [], false, [], []⟩,
  ⟨.func, 1, [.v .nilFunc], [], false, [], []⟩,
  ⟨.other, 0, [], [], false, [], []⟩,
  ⟨.func, 1, [.v .nilFunc], [], false, [], []⟩,
  ⟨.other, 0, [], [], false, [], []⟩,
  ⟨.func, 1, [.v .nilFunc], [], false, [], []⟩,
  ⟨.func, 1, [.v .nilFunc], [], false, [], []⟩,
  ⟨.slice 98, 1, [.sl 4 []], [], false, [], []⟩,
  ⟨.func, 1, [.v .nilFunc], [], false, [], []⟩,
  ⟨.strct [(3, 0), (9, 1), (9, 2), (9, 3)], 4, [.v (.int .i64 0), .s [], .s [], .s []], [], false, [], []⟩,
  ⟨.strct [(3, 0), (9, 1), (9, 2), (9, 3)], 4, [.v (.int .i64 0), .s [], .s [], .s []], [.i, .s, .s, .s], false, [], []⟩,
  ⟨.slice 100, 1, [.sl 4 []], [], false, [], []⟩,
  ⟨.strct [(3, 0), (9, 1), (9, 2), (9, 3)], 4, [.v (.int .i64 0), .s [], .s [], .s []], [.i, .s, .s, .s], false, [], []⟩,
  ⟨.func, 1, [.v .nilFunc], [], false, [], []⟩,
  ⟨.func, 1, [.v .nilFunc], [], false, [], []⟩,
  ⟨.other, 0, [], [], false, [], []⟩,
  ⟨.func, 1, [.v .nilFunc], [], false, [], []⟩,
  ⟨.other, 0, [], [], false, [], []⟩,
  ⟨.int .u64, 1, [.v (.int .u64 0)], [], false, [], []⟩,
  ⟨.other, 0, [], [], false, [], []⟩,
  ⟨.other, 0, [], [], false, [], []⟩,
  ⟨.func, 1, [.v .nilFunc], [], false, [], []⟩,
  ⟨.iface false, 1, [.v .nilIface], [], false, [], []⟩,
  ⟨.iface false, 1, [.v .nilIface], [], false, [], []⟩,
  ⟨.func, 1, [.v .nilFunc], [], false, [], []⟩,
  ⟨.int .u8, 1, [.v (.int .u8 0)], [], false, [], []⟩,
  ⟨.func, 1, [.v .nilFunc], [], false, [], []⟩,
  ⟨.func, 1, [.v .nilFunc], [], false, [], []⟩,
  ⟨.func, 1, [.v .nilFunc], [], false, [], []⟩,
  ⟨.func, 1, [.v .nilFunc], [], false, [], []⟩,
  ⟨.func, 1, [.v .nilFunc], [], false, [], []⟩,
  ⟨.func, 1, [.v .nilFunc], [], false, [], []⟩,
  ⟨.func, 1, [.v .nilFunc], [], false, [], []⟩,
  ⟨.other, 0, [], [], false, [], []⟩,
  ⟨.other, 0, [], [], false, [], []⟩,
  ⟨.other, 0, [], [], false, [], []⟩,
  ⟨.func, 1, [.v .nilFunc], [], false, [], []⟩,
  ⟨.func, 1, [.v .nilFunc], [], false, [], []⟩,
  ⟨.ptr 122, 1, [.v (.pointer none)], [], false, [], []⟩,
  ⟨.ptr 129, 1, [.v (.pointer none)], [], false, [], []⟩,
  ⟨.strct [(9, 0), (3, 1), (25, 2)], 3, [.s [], .v (.int .i64 0), .v .nilIface], [], false, [], []⟩,
  ⟨.strct [(9, 0), (3, 1), (25, 2)], 3, [.s [], .v (.int .i64 0), .v .nilIface], [], false, [], []⟩,
  ⟨.func, 1, [.v .nilFunc], [], false, [], []⟩,
  ⟨.func, 1, [.v .nilFunc], [], false, [], []⟩,
  ⟨.other, 0, [], [], false, [], []⟩,
  ⟨.func, 1, [.v .nilFunc], [], false, [], []⟩,
  ⟨.other, 0, [], [], false, [], []⟩,
  ⟨.func, 1, [.v .nilFunc], [], false, [], []⟩,
  ⟨.other, 0, [], [], false, [], []⟩,
  ⟨.func, 1, [.v .nilFunc], [], false, [], []⟩,
  ⟨.func, 1, [.v .nilFunc], [], false, [], []⟩,
  ⟨.func, 1, [.v .nilFunc], [], false, [], []⟩,
  ⟨.func, 1, [.v .nilFunc], [], false, [], []⟩,
  ⟨.strct [(17, 0)], 1, [.v (.pointer none)], [], false, [], []⟩,
  ⟨.strct [(17, 0)], 1, [.v (.pointer none)], [], false, [], []⟩,
  ⟨.ptr 206, 1, [.v (.pointer none)], [], false, [], []⟩,
  ⟨.func, 1, [.v .nilFunc], [], false, [], []⟩,
  ⟨.func, 1, [.v .nilFunc], [], false, [], []⟩,
  ⟨.iface false, 1, [.v .nilIface], [], false, [], []⟩,
  ⟨.other, 0, [], [], false, [], []⟩,
  ⟨.func, 1, [.v .nilFunc], [], false, [], []⟩,
  ⟨.iface false, 1, [.v .nilIface], [], false, [], []⟩,
  ⟨.func, 1, [.v .nilFunc], [], false, [], []⟩,
  ⟨.iface false, 1, [.v .nilIface], [], false, [], []⟩,
  ⟨.iface false, 1, [.v .nilIface], [], false, [], []⟩,
  ⟨.other, 0, [], [], false, [], []⟩,
  ⟨.func, 1, [.v .nilFunc], [], false, [], []⟩,
  ⟨.other, 0, [], [], false, [], []⟩,
  ⟨.func, 1, [.v .nilFunc], [], false, [], []⟩,
  ⟨.func, 1, [.v .nilFunc], [], false, [], []⟩,
  ⟨.func, 1, [.v .nilFunc], [], false, [], []⟩,
  ⟨.func, 1, [.v .nilFunc], [], false, [], []⟩,
  ⟨.func, 1, [.v .nilFunc], [], false, [], []⟩,
  ⟨.func, 1, [.v .nilFunc], [], false, [], []⟩,
  ⟨.func, 1, [.v .nilFunc], [], false, [], []⟩,
  ⟨.func, 1, [.v .nilFunc], [], false, [], []⟩,
  ⟨.func, 1, [.v .nilFunc], [], false, [], []⟩,
  ⟨.func, 1, [.v .nilFunc], [], false, [], []⟩,
  ⟨.func, 1, [.v .nilFunc], [], false, [], []⟩,
  ⟨.other, 0, [], [], false, [], []⟩,
  ⟨.int .u64, 1, [.v (.int .u64 0)], [], false, [], []⟩,
  ⟨.strct [(5, 0), (5, 1)], 2, [.v (.int .u8 0), .v (.int .u8 0)], [], false, [], []⟩,
  ⟨.strct [(5, 0), (5, 1)], 2, [.v (.int .u8 0), .v (.int .u8 0)], [], false, [], []⟩,
  ⟨.arr 16 170, 32, [.v (.int .u8 0), .v (.int .u8 0), .v (.int .u8 0), .v (.int .u8 0), .v (.int .u8 0), .v (.int .u8 0), .v (.int .u8 0), .v (.int .u8 0), .v (.int .u8 0), .v (.int .u8 0), .v (.int .u8 0), .v (.int .u8 0), .v (.int .u8 0), .v (.int .u8 0), .v (.int .u8 0), .v (.int .u8 0), .v (.int .u8 0), .v (.int .u8 0), .v (.int .u8 0), .v (.int .u8 0), .v (.int .u8 0), .v (.int .u8 0), .v (.int .u8 0), .v (.int .u8 0), .v (.int .u8 0), .v (.int .u8 0), .v (.int .u8 0), .v (.int .u8 0), .v (.int .u8 0), .v (.int .u8 0), .v (.int .u8 0), .v (.int .u8 0)], [], false, [], []⟩,
  ⟨.func, 1, [.v .nilFunc], [], false, [], []⟩,
  ⟨.func, 1, [.v .nilFunc], [], false, [], []⟩,
  ⟨.func, 1, [.v .nilFunc], [], false, [], []⟩,
  ⟨.ptr 178, 1, [.v (.pointer none)], [], false, [], []⟩,
  ⟨.slice 5, 1, [.sl 1 []], [], false, [], []⟩,
  ⟨.strct [(175, 0), (176, 1)], 2, [.v (.pointer none), .sl 1 []], [], false, [], []⟩,
  ⟨.strct [(175, 0), (176, 1)], 2, [.v (.pointer none), .sl 1 []], [], false, [], []⟩,
  ⟨.func, 1, [.v .nilFunc], [], false, [], []⟩,
  ⟨.other, 0, [], [], false, [], []⟩,
  ⟨.func, 1, [.v .nilFunc], [], false, [], []⟩,
  ⟨.int .u32, 1, [.v (.int .u32 0)], [], false, [], []⟩,
  ⟨.other, 0, [], [], false, [], []⟩,
  ⟨.func, 1, [.v .nilFunc], [], false, [], []⟩,
  ⟨.ptr 5, 1, [.v (.pointer none)], [], false, [], []⟩,
  ⟨.func, 1, [.v .nilFunc], [], false, [], []⟩,
  ⟨.func, 1, [.v .nilFunc], [], false, [], []⟩,
  ⟨.ptr 208, 1, [.v (.pointer none)], [], true, [(152, false), (149, false), (151, false)], []⟩,
  ⟨.strct [(17, 0), (17, 1), (17, 2), (9, 3)], 4, [.v (.pointer none), .v (.pointer none), .v (.pointer none), .s []], [], false, [], []⟩,
  ⟨.strct [(17, 0), (17, 1), (17, 2), (9, 3)], 4, [.v (.pointer none), .v (.pointer none), .v (.pointer none), .s []], [], false, [], []⟩,
  ⟨.arr 0 16, 0, [], [], false, [], []⟩,
  ⟨.other, 0, [], [], false, [], []⟩,
  ⟨.other, 0, [], [], false, [], []⟩,
  ⟨.func, 1, [.v .nilFunc], [], false, [], []⟩,
  ⟨.func, 1, [.v .nilFunc], [], false, [], []⟩,
  ⟨.int .u8, 1, [.v (.int .u8 0)], [], false, [], []⟩,
  ⟨.func, 1, [.v .nilFunc], [], false, [], []⟩,
  ⟨.int .i32, 1, [.v (.int .i32 0)], [], false, [], []⟩,
  ⟨.int .i32, 1, [.v (.int .i32 0)], [], false, [], []⟩,
  ⟨.strct [(12, 0), (12, 1), (182, 2), (196, 3), (5, 4), (5, 5), (113, 6), (197, 7), (185, 8), (198, 9), (199, 10)], 11, [.v (.int .u64 0), .v (.int .u64 0), .v (.int .u32 0), .v (.int .u8 0), .v (.int .u8 0), .v (.int .u8 0), .v (.int .u8 0), .v .nilFunc, .v (.pointer none), .v (.int .i32 0), .v (.int .i32 0)], [], false, [], []⟩,
  ⟨.strct [(12, 0), (12, 1), (182, 2), (196, 3), (5, 4), (5, 5), (113, 6), (197, 7), (185, 8), (198, 9), (199, 10)], 11, [.v (.int .u64 0), .v (.int .u64 0), .v (.int .u32 0), .v (.int .u8 0), .v (.int .u8 0), .v (.int .u8 0), .v (.int .u8 0), .v .nilFunc, .v (.pointer none), .v (.int .i32 0), .v (.int .i32 0)], [], false, [], []⟩,
  ⟨.func, 1, [.v .nilFunc], [], false, [], []⟩,
  ⟨.func, 1, [.v .nilFunc], [], false, [], []⟩,
  ⟨.func, 1, [.v .nilFunc], [], false, [], []⟩,
  ⟨.strct [(9, 0), (113, 1)], 2, [.s [], .v (.int .u8 0)], [], false, [], []⟩,
  ⟨.strct [(9, 0), (113, 1)], 2, [.s [], .v (.int .u8 0)], [], false, [], []⟩,
  ⟨.strct [(9, 0)], 1, [.s []], [], false, [], []⟩,
  ⟨.strct [(9, 0)], 1, [.s []], [], false, [], []⟩,
  ⟨.ptr 213, 1, [.v (.pointer none)], [], false, [], []⟩,
  ⟨.func, 1, [.v .nilFunc], [], false, [], []⟩,
  ⟨.int .u16, 1, [.v (.int .u16 0)], [], false, [], []⟩,
  ⟨.strct [(198, 0), (211, 1), (211, 2), (182, 3), (182, 4)], 5, [.v (.int .i32 0), .v (.int .u16 0), .v (.int .u16 0), .v (.int .u32 0), .v (.int .u32 0)], [], false, [], []⟩,
  ⟨.strct [(198, 0), (211, 1), (211, 2), (182, 3), (182, 4)], 5, [.v (.int .i32 0), .v (.int .u16 0), .v (.int .u16 0), .v (.int .u32 0), .v (.int .u32 0)], [], false, [], []⟩,
  ⟨.slice 217, 1, [.sl 4 []], [], false, [], []⟩,
  ⟨.int .i32, 1, [.v (.int .i32 0)], [], false, [], []⟩,
  ⟨.strct [(198, 0), (199, 1), (215, 2), (215, 3)], 4, [.v (.int .i32 0), .v (.int .i32 0), .v (.int .i32 0), .v (.int .i32 0)], [], false, [], []⟩,
  ⟨.strct [(198, 0), (199, 1), (215, 2), (215, 3)], 4, [.v (.int .i32 0), .v (.int .i32 0), .v (.int .i32 0), .v (.int .i32 0)], [], false, [], []⟩,
  ⟨.func, 1, [.v .nilFunc], [], false, [], []⟩,
  ⟨.ptr 25, 1, [.v (.pointer none)], [], false, [], []⟩]
theorem tab_ok : tabB Tryz.prog tab 0 tab = true := by kernel_rfl
theorem mixed_ok : Tryz.prog.follows .mixedOrders = true := by kernel_rfl
theorem eqs_ok : eqsB Tryz.prog 0 tab = true := by kernel_rfl
theorem dyns_ok : dynB Tryz.prog 0 tab = true := by kernel_rfl
def methL : List (TypeId × String × FuncId) := [(63, "Unwrap", 150)]
theorem meths_in : methIn methL 0 tab = true := by kernel_rfl
theorem meths_run : ∀ z ∈ methL, ∀ (v : Value) (w : World), (Go.method (Tryz.prog.types.size + Made.depth) z.1 v z.2.1).run Tryz.prog w = .ok (z.2.2, v) w := by
  intro z hz v w
  simp only [methL, List.mem_cons, List.not_mem_nil, or_false] at hz
  rcases hz with rfl
  · kernel_rfl
theorem T_ok (glob : Nat → Option (List D)) : TOk Tryz.prog (mkCtx tab glob) := mk_ok glob tab_ok mixed_ok eqs_ok dyns_ok (meths_of meths_in meths_run)
@[simp] theorem td_1 (glob : Nat → Option (List D)) : (mkCtx tab glob).td 1 = .func := rfl
@[simp] theorem sz_1 (glob : Nat → Option (List D)) : (mkCtx tab glob).sz 1 = 1 := rfl
@[simp] theorem ze_1 (glob : Nat → Option (List D)) : (mkCtx tab glob).zero 1 = [.v .nilFunc] := rfl
@[simp] theorem td_2 (glob : Nat → Option (List D)) : (mkCtx tab glob).td 2 = .int .i64 := rfl
@[simp] theorem sz_2 (glob : Nat → Option (List D)) : (mkCtx tab glob).sz 2 = 1 := rfl
@[simp] theorem ze_2 (glob : Nat → Option (List D)) : (mkCtx tab glob).zero 2 = [.v (.int .i64 0)] := rfl
@[simp] theorem td_3 (glob : Nat → Option (List D)) : (mkCtx tab glob).td 3 = .int .i64 := rfl
@[simp] theorem sz_3 (glob : Nat → Option (List D)) : (mkCtx tab glob).sz 3 = 1 := rfl
@[simp] theorem ze_3 (glob : Nat → Option (List D)) : (mkCtx tab glob).zero 3 = [.v (.int .i64 0)] := rfl
@[simp] theorem td_4 (glob : Nat → Option (List D)) : (mkCtx tab glob).td 4 = .bool := rfl
@[simp] theorem sz_4 (glob : Nat → Option (List D)) : (mkCtx tab glob).sz 4 = 1 := rfl
@[simp] theorem ze_4 (glob : Nat → Option (List D)) : (mkCtx tab glob).zero 4 = [.v (.bool false)] := rfl
@[simp] theorem td_5 (glob : Nat → Option (List D)) : (mkCtx tab glob).td 5 = .int .u8 := rfl
@[simp] theorem sz_5 (glob : Nat → Option (List D)) : (mkCtx tab glob).sz 5 = 1 := rfl
@[simp] theorem ze_5 (glob : Nat → Option (List D)) : (mkCtx tab glob).zero 5 = [.v (.int .u8 0)] := rfl
@[simp] theorem td_6 (glob : Nat → Option (List D)) : (mkCtx tab glob).td 6 = .int .u8 := rfl
@[simp] theorem sz_6 (glob : Nat → Option (List D)) : (mkCtx tab glob).sz 6 = 1 := rfl
@[simp] theorem ze_6 (glob : Nat → Option (List D)) : (mkCtx tab glob).zero 6 = [.v (.int .u8 0)] := rfl
@[simp] theorem td_7 (glob : Nat → Option (List D)) : (mkCtx tab glob).td 7 = .strct [(2, 0), (3, 1), (4, 2), (6, 3)] := rfl
@[simp] theorem sz_7 (glob : Nat → Option (List D)) : (mkCtx tab glob).sz 7 = 4 := rfl
@[simp] theorem eq_7 (glob : Nat → Option (List D)) : (mkCtx tab glob).eqt 7 = [] := rfl
@[simp] theorem ze_7 (glob : Nat → Option (List D)) : (mkCtx tab glob).zero 7 = [.v (.int .i64 0), .v (.int .i64 0), .v (.bool false), .v (.int .u8 0)] := rfl
@[simp] theorem td_8 (glob : Nat → Option (List D)) : (mkCtx tab glob).td 8 = .strct [(2, 0), (3, 1), (4, 2), (6, 3)] := rfl
@[simp] theorem sz_8 (glob : Nat → Option (List D)) : (mkCtx tab glob).sz 8 = 4 := rfl
@[simp] theorem eq_8 (glob : Nat → Option (List D)) : (mkCtx tab glob).eqt 8 = [] := rfl
@[simp] theorem ze_8 (glob : Nat → Option (List D)) : (mkCtx tab glob).zero 8 = [.v (.int .i64 0), .v (.int .i64 0), .v (.bool false), .v (.int .u8 0)] := rfl
@[simp] theorem td_9 (glob : Nat → Option (List D)) : (mkCtx tab glob).td 9 = .str := rfl
@[simp] theorem sz_9 (glob : Nat → Option (List D)) : (mkCtx tab glob).sz 9 = 1 := rfl
@[simp] theorem ze_9 (glob : Nat → Option (List D)) : (mkCtx tab glob).zero 9 = [.s []] := rfl
@[simp] theorem td_10 (glob : Nat → Option (List D)) : (mkCtx tab glob).td 10 = .str := rfl
@[simp] theorem sz_10 (glob : Nat → Option (List D)) : (mkCtx tab glob).sz 10 = 1 := rfl
@[simp] theorem ze_10 (glob : Nat → Option (List D)) : (mkCtx tab glob).zero 10 = [.s []] := rfl
@[simp] theorem td_11 (glob : Nat → Option (List D)) : (mkCtx tab glob).td 11 = .str := rfl
@[simp] theorem sz_11 (glob : Nat → Option (List D)) : (mkCtx tab glob).sz 11 = 1 := rfl
@[simp] theorem ze_11 (glob : Nat → Option (List D)) : (mkCtx tab glob).zero 11 = [.s []] := rfl
@[simp] theorem td_12 (glob : Nat → Option (List D)) : (mkCtx tab glob).td 12 = .int .u64 := rfl
@[simp] theorem sz_12 (glob : Nat → Option (List D)) : (mkCtx tab glob).sz 12 = 1 := rfl
@[simp] theorem ze_12 (glob : Nat → Option (List D)) : (mkCtx tab glob).zero 12 = [.v (.int .u64 0)] := rfl
@[simp] theorem td_13 (glob : Nat → Option (List D)) : (mkCtx tab glob).td 13 = .strct [(9, 0), (12, 1)] := rfl
@[simp] theorem sz_13 (glob : Nat → Option (List D)) : (mkCtx tab glob).sz 13 = 2 := rfl
@[simp] theorem eq_13 (glob : Nat → Option (List D)) : (mkCtx tab glob).eqt 13 = [] := rfl
@[simp] theorem ze_13 (glob : Nat → Option (List D)) : (mkCtx tab glob).zero 13 = [.s [], .v (.int .u64 0)] := rfl
@[simp] theorem td_14 (glob : Nat → Option (List D)) : (mkCtx tab glob).td 14 = .strct [(9, 0), (12, 1)] := rfl
@[simp] theorem sz_14 (glob : Nat → Option (List D)) : (mkCtx tab glob).sz 14 = 2 := rfl
@[simp] theorem eq_14 (glob : Nat → Option (List D)) : (mkCtx tab glob).eqt 14 = [] := rfl
@[simp] theorem ze_14 (glob : Nat → Option (List D)) : (mkCtx tab glob).zero 14 = [.s [], .v (.int .u64 0)] := rfl
@[simp] theorem td_15 (glob : Nat → Option (List D)) : (mkCtx tab glob).td 15 = .ptr 190 := rfl
@[simp] theorem sz_15 (glob : Nat → Option (List D)) : (mkCtx tab glob).sz 15 = 1 := rfl
@[simp] theorem ze_15 (glob : Nat → Option (List D)) : (mkCtx tab glob).zero 15 = [.v (.pointer none)] := rfl
@[simp] theorem td_16 (glob : Nat → Option (List D)) : (mkCtx tab glob).td 16 = .ptr 193 := rfl
@[simp] theorem sz_16 (glob : Nat → Option (List D)) : (mkCtx tab glob).sz 16 = 1 := rfl
@[simp] theorem ze_16 (glob : Nat → Option (List D)) : (mkCtx tab glob).zero 16 = [.v (.pointer none)] := rfl
@[simp] theorem td_17 (glob : Nat → Option (List D)) : (mkCtx tab glob).td 17 = .ptr 201 := rfl
@[simp] theorem sz_17 (glob : Nat → Option (List D)) : (mkCtx tab glob).sz 17 = 1 := rfl
@[simp] theorem ze_17 (glob : Nat → Option (List D)) : (mkCtx tab glob).zero 17 = [.v (.pointer none)] := rfl
@[simp] theorem td_18 (glob : Nat → Option (List D)) : (mkCtx tab glob).td 18 = .strct [(17, 0)] := rfl
@[simp] theorem sz_18 (glob : Nat → Option (List D)) : (mkCtx tab glob).sz 18 = 1 := rfl
@[simp] theorem eq_18 (glob : Nat → Option (List D)) : (mkCtx tab glob).eqt 18 = [] := rfl
@[simp] theorem ze_18 (glob : Nat → Option (List D)) : (mkCtx tab glob).zero 18 = [.v (.pointer none)] := rfl
@[simp] theorem td_19 (glob : Nat → Option (List D)) : (mkCtx tab glob).td 19 = .strct [(17, 0)] := rfl
@[simp] theorem sz_19 (glob : Nat → Option (List D)) : (mkCtx tab glob).sz 19 = 1 := rfl
@[simp] theorem eq_19 (glob : Nat → Option (List D)) : (mkCtx tab glob).eqt 19 = [] := rfl
@[simp] theorem ze_19 (glob : Nat → Option (List D)) : (mkCtx tab glob).zero 19 = [.v (.pointer none)] := rfl
@[simp] theorem td_20 (glob : Nat → Option (List D)) : (mkCtx tab glob).td 20 = .iface true := rfl
@[simp] theorem sz_20 (glob : Nat → Option (List D)) : (mkCtx tab glob).sz 20 = 1 := rfl
@[simp] theorem ze_20 (glob : Nat → Option (List D)) : (mkCtx tab glob).zero 20 = [.v .nilIface] := rfl
@[simp] theorem td_21 (glob : Nat → Option (List D)) : (mkCtx tab glob).td 21 = .int .i32 := rfl
@[simp] theorem sz_21 (glob : Nat → Option (List D)) : (mkCtx tab glob).sz 21 = 1 := rfl
@[simp] theorem ze_21 (glob : Nat → Option (List D)) : (mkCtx tab glob).zero 21 = [.v (.int .i32 0)] := rfl
@[simp] theorem td_22 (glob : Nat → Option (List D)) : (mkCtx tab glob).td 22 = .func := rfl
@[simp] theorem sz_22 (glob : Nat → Option (List D)) : (mkCtx tab glob).sz 22 = 1 := rfl
@[simp] theorem ze_22 (glob : Nat → Option (List D)) : (mkCtx tab glob).zero 22 = [.v .nilFunc] := rfl
@[simp] theorem td_23 (glob : Nat → Option (List D)) : (mkCtx tab glob).td 23 = .slice 46 := rfl
@[simp] theorem sz_23 (glob : Nat → Option (List D)) : (mkCtx tab glob).sz 23 = 1 := rfl
@[simp] theorem ze_23 (glob : Nat → Option (List D)) : (mkCtx tab glob).zero 23 = [.sl 10 []] := rfl
@[simp] theorem td_24 (glob : Nat → Option (List D)) : (mkCtx tab glob).td 24 = .iface false := rfl
@[simp] theorem sz_24 (glob : Nat → Option (List D)) : (mkCtx tab glob).sz 24 = 1 := rfl
@[simp] theorem ze_24 (glob : Nat → Option (List D)) : (mkCtx tab glob).zero 24 = [.v .nilIface] := rfl
@[simp] theorem td_25 (glob : Nat → Option (List D)) : (mkCtx tab glob).td 25 = .iface false := rfl
@[simp] theorem sz_25 (glob : Nat → Option (List D)) : (mkCtx tab glob).sz 25 = 1 := rfl
@[simp] theorem ze_25 (glob : Nat → Option (List D)) : (mkCtx tab glob).zero 25 = [.v .nilIface] := rfl
@[simp] theorem td_27 (glob : Nat → Option (List D)) : (mkCtx tab glob).td 27 = .func := rfl
@[simp] theorem sz_27 (glob : Nat → Option (List D)) : (mkCtx tab glob).sz 27 = 1 := rfl
@[simp] theorem ze_27 (glob : Nat → Option (List D)) : (mkCtx tab glob).zero 27 = [.v .nilFunc] := rfl
@[simp] theorem td_28 (glob : Nat → Option (List D)) : (mkCtx tab glob).td 28 = .slice 52 := rfl
@[simp] theorem sz_28 (glob : Nat → Option (List D)) : (mkCtx tab glob).sz 28 = 1 := rfl
@[simp] theorem ze_28 (glob : Nat → Option (List D)) : (mkCtx tab glob).zero 28 = [.sl 10 []] := rfl
@[simp] theorem td_30 (glob : Nat → Option (List D)) : (mkCtx tab glob).td 30 = .func := rfl
@[simp] theorem sz_30 (glob : Nat → Option (List D)) : (mkCtx tab glob).sz 30 = 1 := rfl
@[simp] theorem ze_30 (glob : Nat → Option (List D)) : (mkCtx tab glob).zero 30 = [.v .nilFunc] := rfl
@[simp] theorem td_31 (glob : Nat → Option (List D)) : (mkCtx tab glob).td 31 = .func := rfl
@[simp] theorem sz_31 (glob : Nat → Option (List D)) : (mkCtx tab glob).sz 31 = 1 := rfl
@[simp] theorem ze_31 (glob : Nat → Option (List D)) : (mkCtx tab glob).zero 31 = [.v .nilFunc] := rfl
@[simp] theorem td_32 (glob : Nat → Option (List D)) : (mkCtx tab glob).td 32 = .func := rfl
@[simp] theorem sz_32 (glob : Nat → Option (List D)) : (mkCtx tab glob).sz 32 = 1 := rfl
@[simp] theorem ze_32 (glob : Nat → Option (List D)) : (mkCtx tab glob).zero 32 = [.v .nilFunc] := rfl
@[simp] theorem td_33 (glob : Nat → Option (List D)) : (mkCtx tab glob).td 33 = .slice 36 := rfl
@[simp] theorem sz_33 (glob : Nat → Option (List D)) : (mkCtx tab glob).sz 33 = 1 := rfl
@[simp] theorem ze_33 (glob : Nat → Option (List D)) : (mkCtx tab glob).zero 33 = [.sl 3 []] := rfl
@[simp] theorem td_34 (glob : Nat → Option (List D)) : (mkCtx tab glob).td 34 = .slice 37 := rfl
@[simp] theorem sz_34 (glob : Nat → Option (List D)) : (mkCtx tab glob).sz 34 = 1 := rfl
@[simp] theorem ze_34 (glob : Nat → Option (List D)) : (mkCtx tab glob).zero 34 = [.sl 3 []] := rfl
@[simp] theorem td_35 (glob : Nat → Option (List D)) : (mkCtx tab glob).td 35 = .strct [(9, 0), (3, 1), (4, 2)] := rfl
@[simp] theorem sz_35 (glob : Nat → Option (List D)) : (mkCtx tab glob).sz 35 = 3 := rfl
@[simp] theorem eq_35 (glob : Nat → Option (List D)) : (mkCtx tab glob).eqt 35 = [] := rfl
@[simp] theorem ze_35 (glob : Nat → Option (List D)) : (mkCtx tab glob).zero 35 = [.s [], .v (.int .i64 0), .v (.bool false)] := rfl
@[simp] theorem td_36 (glob : Nat → Option (List D)) : (mkCtx tab glob).td 36 = .strct [(9, 0), (3, 1), (4, 2)] := rfl
@[simp] theorem sz_36 (glob : Nat → Option (List D)) : (mkCtx tab glob).sz 36 = 3 := rfl
@[simp] theorem eq_36 (glob : Nat → Option (List D)) : (mkCtx tab glob).eqt 36 = [] := rfl
@[simp] theorem ze_36 (glob : Nat → Option (List D)) : (mkCtx tab glob).zero 36 = [.s [], .v (.int .i64 0), .v (.bool false)] := rfl
@[simp] theorem td_37 (glob : Nat → Option (List D)) : (mkCtx tab glob).td 37 = .strct [(9, 0), (3, 1), (4, 2)] := rfl
@[simp] theorem sz_37 (glob : Nat → Option (List D)) : (mkCtx tab glob).sz 37 = 3 := rfl
@[simp] theorem eq_37 (glob : Nat → Option (List D)) : (mkCtx tab glob).eqt 37 = [] := rfl
@[simp] theorem ze_37 (glob : Nat → Option (List D)) : (mkCtx tab glob).zero 37 = [.s [], .v (.int .i64 0), .v (.bool false)] := rfl
@[simp] theorem td_38 (glob : Nat → Option (List D)) : (mkCtx tab glob).td 38 = .func := rfl
@[simp] theorem sz_38 (glob : Nat → Option (List D)) : (mkCtx tab glob).sz 38 = 1 := rfl
@[simp] theorem ze_38 (glob : Nat → Option (List D)) : (mkCtx tab glob).zero 38 = [.v .nilFunc] := rfl
@[simp] theorem td_39 (glob : Nat → Option (List D)) : (mkCtx tab glob).td 39 = .func := rfl
@[simp] theorem sz_39 (glob : Nat → Option (List D)) : (mkCtx tab glob).sz 39 = 1 := rfl
@[simp] theorem ze_39 (glob : Nat → Option (List D)) : (mkCtx tab glob).zero 39 = [.v .nilFunc] := rfl
@[simp] theorem td_40 (glob : Nat → Option (List D)) : (mkCtx tab glob).td 40 = .slice 9 := rfl
@[simp] theorem sz_40 (glob : Nat → Option (List D)) : (mkCtx tab glob).sz 40 = 1 := rfl
@[simp] theorem ze_40 (glob : Nat → Option (List D)) : (mkCtx tab glob).zero 40 = [.sl 1 []] := rfl
@[simp] theorem td_41 (glob : Nat → Option (List D)) : (mkCtx tab glob).td 41 = .func := rfl
@[simp] theorem sz_41 (glob : Nat → Option (List D)) : (mkCtx tab glob).sz 41 = 1 := rfl
@[simp] theorem ze_41 (glob : Nat → Option (List D)) : (mkCtx tab glob).zero 41 = [.v .nilFunc] := rfl
@[simp] theorem td_42 (glob : Nat → Option (List D)) : (mkCtx tab glob).td 42 = .slice 95 := rfl
@[simp] theorem sz_42 (glob : Nat → Option (List D)) : (mkCtx tab glob).sz 42 = 1 := rfl
@[simp] theorem ze_42 (glob : Nat → Option (List D)) : (mkCtx tab glob).zero 42 = [.sl 1 []] := rfl
@[simp] theorem td_43 (glob : Nat → Option (List D)) : (mkCtx tab glob).td 43 = .strct [(3, 0), (9, 1)] := rfl
@[simp] theorem sz_43 (glob : Nat → Option (List D)) : (mkCtx tab glob).sz 43 = 2 := rfl
@[simp] theorem eq_43 (glob : Nat → Option (List D)) : (mkCtx tab glob).eqt 43 = [] := rfl
@[simp] theorem ze_43 (glob : Nat → Option (List D)) : (mkCtx tab glob).zero 43 = [.v (.int .i64 0), .s []] := rfl
@[simp] theorem td_44 (glob : Nat → Option (List D)) : (mkCtx tab glob).td 44 = .strct [(3, 0), (9, 1)] := rfl
@[simp] theorem sz_44 (glob : Nat → Option (List D)) : (mkCtx tab glob).sz 44 = 2 := rfl
@[simp] theorem eq_44 (glob : Nat → Option (List D)) : (mkCtx tab glob).eqt 44 = [.i, .s] := rfl
@[simp] theorem ze_44 (glob : Nat → Option (List D)) : (mkCtx tab glob).zero 44 = [.v (.int .i64 0), .s []] := rfl
@[simp] theorem td_45 (glob : Nat → Option (List D)) : (mkCtx tab glob).td 45 = .strct [(3, 0), (3, 1), (9, 2), (42, 3), (42, 4), (44, 5), (9, 7), (4, 8), (4, 9)] := rfl
@[simp] theorem sz_45 (glob : Nat → Option (List D)) : (mkCtx tab glob).sz 45 = 10 := rfl
@[simp] theorem eq_45 (glob : Nat → Option (List D)) : (mkCtx tab glob).eqt 45 = [] := rfl
@[simp] theorem ze_45 (glob : Nat → Option (List D)) : (mkCtx tab glob).zero 45 = [.v (.int .i64 0), .v (.int .i64 0), .s [], .sl 1 [], .sl 1 [], .v (.int .i64 0), .s [], .s [], .v (.bool false), .v (.bool false)] := rfl
@[simp] theorem td_46 (glob : Nat → Option (List D)) : (mkCtx tab glob).td 46 = .strct [(3, 0), (3, 1), (9, 2), (42, 3), (42, 4), (44, 5), (9, 7), (4, 8), (4, 9)] := rfl
@[simp] theorem sz_46 (glob : Nat → Option (List D)) : (mkCtx tab glob).sz 46 = 10 := rfl
@[simp] theorem eq_46 (glob : Nat → Option (List D)) : (mkCtx tab glob).eqt 46 = [] := rfl
@[simp] theorem ze_46 (glob : Nat → Option (List D)) : (mkCtx tab glob).zero 46 = [.v (.int .i64 0), .v (.int .i64 0), .s [], .sl 1 [], .sl 1 [], .v (.int .i64 0), .s [], .s [], .v (.bool false), .v (.bool false)] := rfl
@[simp] theorem td_47 (glob : Nat → Option (List D)) : (mkCtx tab glob).td 47 = .func := rfl
@[simp] theorem sz_47 (glob : Nat → Option (List D)) : (mkCtx tab glob).sz 47 = 1 := rfl
@[simp] theorem ze_47 (glob : Nat → Option (List D)) : (mkCtx tab glob).zero 47 = [.v .nilFunc] := rfl
@[simp] theorem td_48 (glob : Nat → Option (List D)) : (mkCtx tab glob).td 48 = .func := rfl
@[simp] theorem sz_48 (glob : Nat → Option (List D)) : (mkCtx tab glob).sz 48 = 1 := rfl
@[simp] theorem ze_48 (glob : Nat → Option (List D)) : (mkCtx tab glob).zero 48 = [.v .nilFunc] := rfl
@[simp] theorem td_49 (glob : Nat → Option (List D)) : (mkCtx tab glob).td 49 = .slice 99 := rfl
@[simp] theorem sz_49 (glob : Nat → Option (List D)) : (mkCtx tab glob).sz 49 = 1 := rfl
@[simp] theorem ze_49 (glob : Nat → Option (List D)) : (mkCtx tab glob).zero 49 = [.sl 1 []] := rfl
@[simp] theorem td_50 (glob : Nat → Option (List D)) : (mkCtx tab glob).td 50 = .strct [(3, 0), (9, 1)] := rfl
@[simp] theorem sz_50 (glob : Nat → Option (List D)) : (mkCtx tab glob).sz 50 = 2 := rfl
@[simp] theorem eq_50 (glob : Nat → Option (List D)) : (mkCtx tab glob).eqt 50 = [.i, .s] := rfl
@[simp] theorem ze_50 (glob : Nat → Option (List D)) : (mkCtx tab glob).zero 50 = [.v (.int .i64 0), .s []] := rfl
@[simp] theorem td_51 (glob : Nat → Option (List D)) : (mkCtx tab glob).td 51 = .strct [(3, 0), (3, 1), (9, 2), (49, 3), (49, 4), (50, 5), (9, 7), (4, 8), (4, 9)] := rfl
@[simp] theorem sz_51 (glob : Nat → Option (List D)) : (mkCtx tab glob).sz 51 = 10 := rfl
@[simp] theorem eq_51 (glob : Nat → Option (List D)) : (mkCtx tab glob).eqt 51 = [] := rfl
@[simp] theorem ze_51 (glob : Nat → Option (List D)) : (mkCtx tab glob).zero 51 = [.v (.int .i64 0), .v (.int .i64 0), .s [], .sl 1 [], .sl 1 [], .v (.int .i64 0), .s [], .s [], .v (.bool false), .v (.bool false)] := rfl
@[simp] theorem td_52 (glob : Nat → Option (List D)) : (mkCtx tab glob).td 52 = .strct [(3, 0), (3, 1), (9, 2), (49, 3), (49, 4), (50, 5), (9, 7), (4, 8), (4, 9)] := rfl
@[simp] theorem sz_52 (glob : Nat → Option (List D)) : (mkCtx tab glob).sz 52 = 10 := rfl
@[simp] theorem eq_52 (glob : Nat → Option (List D)) : (mkCtx tab glob).eqt 52 = [] := rfl
@[simp] theorem ze_52 (glob : Nat → Option (List D)) : (mkCtx tab glob).zero 52 = [.v (.int .i64 0), .v (.int .i64 0), .s [], .sl 1 [], .sl 1 [], .v (.int .i64 0), .s [], .s [], .v (.bool false), .v (.bool false)] := rfl
@[simp] theorem td_53 (glob : Nat → Option (List D)) : (mkCtx tab glob).td 53 = .func := rfl
@[simp] theorem sz_53 (glob : Nat → Option (List D)) : (mkCtx tab glob).sz 53 = 1 := rfl
@[simp] theorem ze_53 (glob : Nat → Option (List D)) : (mkCtx tab glob).zero 53 = [.v .nilFunc] := rfl
@[simp] theorem td_55 (glob : Nat → Option (List D)) : (mkCtx tab glob).td 55 = .func := rfl
@[simp] theorem sz_55 (glob : Nat → Option (List D)) : (mkCtx tab glob).sz 55 = 1 := rfl
@[simp] theorem ze_55 (glob : Nat → Option (List D)) : (mkCtx tab glob).zero 55 = [.v .nilFunc] := rfl
@[simp] theorem td_57 (glob : Nat → Option (List D)) : (mkCtx tab glob).td 57 = .func := rfl
@[simp] theorem sz_57 (glob : Nat → Option (List D)) : (mkCtx tab glob).sz 57 = 1 := rfl
@[simp] theorem ze_57 (glob : Nat → Option (List D)) : (mkCtx tab glob).zero 57 = [.v .nilFunc] := rfl
@[simp] theorem td_59 (glob : Nat → Option (List D)) : (mkCtx tab glob).td 59 = .func := rfl
@[simp] theorem sz_59 (glob : Nat → Option (List D)) : (mkCtx tab glob).sz 59 = 1 := rfl
@[simp] theorem ze_59 (glob : Nat → Option (List D)) : (mkCtx tab glob).zero 59 = [.v .nilFunc] := rfl
@[simp] theorem td_60 (glob : Nat → Option (List D)) : (mkCtx tab glob).td 60 = .func := rfl
@[simp] theorem sz_60 (glob : Nat → Option (List D)) : (mkCtx tab glob).sz 60 = 1 := rfl
@[simp] theorem ze_60 (glob : Nat → Option (List D)) : (mkCtx tab glob).zero 60 = [.v .nilFunc] := rfl
@[simp] theorem td_61 (glob : Nat → Option (List D)) : (mkCtx tab glob).td 61 = .func := rfl
@[simp] theorem sz_61 (glob : Nat → Option (List D)) : (mkCtx tab glob).sz 61 = 1 := rfl
@[simp] theorem ze_61 (glob : Nat → Option (List D)) : (mkCtx tab glob).zero 61 = [.v .nilFunc] := rfl
@[simp] theorem td_62 (glob : Nat → Option (List D)) : (mkCtx tab glob).td 62 = .func := rfl
@[simp] theorem sz_62 (glob : Nat → Option (List D)) : (mkCtx tab glob).sz 62 = 1 := rfl
@[simp] theorem ze_62 (glob : Nat → Option (List D)) : (mkCtx tab glob).zero 62 = [.v .nilFunc] := rfl
@[simp] theorem td_63 (glob : Nat → Option (List D)) : (mkCtx tab glob).td 63 = .ptr 65 := rfl
@[simp] theorem sz_63 (glob : Nat → Option (List D)) : (mkCtx tab glob).sz 63 = 1 := rfl
@[simp] theorem ze_63 (glob : Nat → Option (List D)) : (mkCtx tab glob).zero 63 = [.v (.pointer none)] := rfl
@[simp] theorem td_64 (glob : Nat → Option (List D)) : (mkCtx tab glob).td 64 = .strct [(3, 0), (25, 1)] := rfl
@[simp] theorem sz_64 (glob : Nat → Option (List D)) : (mkCtx tab glob).sz 64 = 2 := rfl
@[simp] theorem eq_64 (glob : Nat → Option (List D)) : (mkCtx tab glob).eqt 64 = [] := rfl
@[simp] theorem ze_64 (glob : Nat → Option (List D)) : (mkCtx tab glob).zero 64 = [.v (.int .i64 0), .v .nilIface] := rfl
@[simp] theorem td_65 (glob : Nat → Option (List D)) : (mkCtx tab glob).td 65 = .strct [(3, 0), (25, 1)] := rfl
@[simp] theorem sz_65 (glob : Nat → Option (List D)) : (mkCtx tab glob).sz 65 = 2 := rfl
@[simp] theorem eq_65 (glob : Nat → Option (List D)) : (mkCtx tab glob).eqt 65 = [] := rfl
@[simp] theorem ze_65 (glob : Nat → Option (List D)) : (mkCtx tab glob).zero 65 = [.v (.int .i64 0), .v .nilIface] := rfl
@[simp] theorem td_67 (glob : Nat → Option (List D)) : (mkCtx tab glob).td 67 = .func := rfl
@[simp] theorem sz_67 (glob : Nat → Option (List D)) : (mkCtx tab glob).sz 67 = 1 := rfl
@[simp] theorem ze_67 (glob : Nat → Option (List D)) : (mkCtx tab glob).zero 67 = [.v .nilFunc] := rfl
@[simp] theorem td_69 (glob : Nat → Option (List D)) : (mkCtx tab glob).td 69 = .func := rfl
@[simp] theorem sz_69 (glob : Nat → Option (List D)) : (mkCtx tab glob).sz 69 = 1 := rfl
@[simp] theorem ze_69 (glob : Nat → Option (List D)) : (mkCtx tab glob).zero 69 = [.v .nilFunc] := rfl
@[simp] theorem td_70 (glob : Nat → Option (List D)) : (mkCtx tab glob).td 70 = .func := rfl
@[simp] theorem sz_70 (glob : Nat → Option (List D)) : (mkCtx tab glob).sz 70 = 1 := rfl
@[simp] theorem ze_70 (glob : Nat → Option (List D)) : (mkCtx tab glob).zero 70 = [.v .nilFunc] := rfl
@[simp] theorem td_71 (glob : Nat → Option (List D)) : (mkCtx tab glob).td 71 = .func := rfl
@[simp] theorem sz_71 (glob : Nat → Option (List D)) : (mkCtx tab glob).sz 71 = 1 := rfl
@[simp] theorem ze_71 (glob : Nat → Option (List D)) : (mkCtx tab glob).zero 71 = [.v .nilFunc] := rfl
@[simp] theorem td_72 (glob : Nat → Option (List D)) : (mkCtx tab glob).td 72 = .func := rfl
@[simp] theorem sz_72 (glob : Nat → Option (List D)) : (mkCtx tab glob).sz 72 = 1 := rfl
@[simp] theorem ze_72 (glob : Nat → Option (List D)) : (mkCtx tab glob).zero 72 = [.v .nilFunc] := rfl
@[simp] theorem td_74 (glob : Nat → Option (List D)) : (mkCtx tab glob).td 74 = .func := rfl
@[simp] theorem sz_74 (glob : Nat → Option (List D)) : (mkCtx tab glob).sz 74 = 1 := rfl
@[simp] theorem ze_74 (glob : Nat → Option (List D)) : (mkCtx tab glob).zero 74 = [.v .nilFunc] := rfl
@[simp] theorem td_75 (glob : Nat → Option (List D)) : (mkCtx tab glob).td 75 = .func := rfl
@[simp] theorem sz_75 (glob : Nat → Option (List D)) : (mkCtx tab glob).sz 75 = 1 := rfl
@[simp] theorem ze_75 (glob : Nat → Option (List D)) : (mkCtx tab glob).zero 75 = [.v .nilFunc] := rfl
@[simp] theorem td_76 (glob : Nat → Option (List D)) : (mkCtx tab glob).td 76 = .func := rfl
@[simp] theorem sz_76 (glob : Nat → Option (List D)) : (mkCtx tab glob).sz 76 = 1 := rfl
@[simp] theorem ze_76 (glob : Nat → Option (List D)) : (mkCtx tab glob).zero 76 = [.v .nilFunc] := rfl
@[simp] theorem td_77 (glob : Nat → Option (List D)) : (mkCtx tab glob).td 77 = .ptr 63 := rfl
@[simp] theorem sz_77 (glob : Nat → Option (List D)) : (mkCtx tab glob).sz 77 = 1 := rfl
@[simp] theorem ze_77 (glob : Nat → Option (List D)) : (mkCtx tab glob).zero 77 = [.v (.pointer none)] := rfl
@[simp] theorem td_78 (glob : Nat → Option (List D)) : (mkCtx tab glob).td 78 = .slice 25 := rfl
@[simp] theorem sz_78 (glob : Nat → Option (List D)) : (mkCtx tab glob).sz 78 = 1 := rfl
@[simp] theorem ze_78 (glob : Nat → Option (List D)) : (mkCtx tab glob).zero 78 = [.sl 1 []] := rfl
@[simp] theorem td_79 (glob : Nat → Option (List D)) : (mkCtx tab glob).td 79 = .func := rfl
@[simp] theorem sz_79 (glob : Nat → Option (List D)) : (mkCtx tab glob).sz 79 = 1 := rfl
@[simp] theorem ze_79 (glob : Nat → Option (List D)) : (mkCtx tab glob).zero 79 = [.v .nilFunc] := rfl
@[simp] theorem td_80 (glob : Nat → Option (List D)) : (mkCtx tab glob).td 80 = .func := rfl
@[simp] theorem sz_80 (glob : Nat → Option (List D)) : (mkCtx tab glob).sz 80 = 1 := rfl
@[simp] theorem ze_80 (glob : Nat → Option (List D)) : (mkCtx tab glob).zero 80 = [.v .nilFunc] := rfl
@[simp] theorem td_81 (glob : Nat → Option (List D)) : (mkCtx tab glob).td 81 = .func := rfl
@[simp] theorem sz_81 (glob : Nat → Option (List D)) : (mkCtx tab glob).sz 81 = 1 := rfl
@[simp] theorem ze_81 (glob : Nat → Option (List D)) : (mkCtx tab glob).zero 81 = [.v .nilFunc] := rfl
@[simp] theorem td_82 (glob : Nat → Option (List D)) : (mkCtx tab glob).td 82 = .func := rfl
@[simp] theorem sz_82 (glob : Nat → Option (List D)) : (mkCtx tab glob).sz 82 = 1 := rfl
@[simp] theorem ze_82 (glob : Nat → Option (List D)) : (mkCtx tab glob).zero 82 = [.v .nilFunc] := rfl
@[simp] theorem td_84 (glob : Nat → Option (List D)) : (mkCtx tab glob).td 84 = .func := rfl
@[simp] theorem sz_84 (glob : Nat → Option (List D)) : (mkCtx tab glob).sz 84 = 1 := rfl
@[simp] theorem ze_84 (glob : Nat → Option (List D)) : (mkCtx tab glob).zero 84 = [.v .nilFunc] := rfl
@[simp] theorem td_85 (glob : Nat → Option (List D)) : (mkCtx tab glob).td 85 = .func := rfl
@[simp] theorem sz_85 (glob : Nat → Option (List D)) : (mkCtx tab glob).sz 85 = 1 := rfl
@[simp] theorem ze_85 (glob : Nat → Option (List D)) : (mkCtx tab glob).zero 85 = [.v .nilFunc] := rfl
@[simp] theorem td_87 (glob : Nat → Option (List D)) : (mkCtx tab glob).td 87 = .func := rfl
@[simp] theorem sz_87 (glob : Nat → Option (List D)) : (mkCtx tab glob).sz 87 = 1 := rfl
@[simp] theorem ze_87 (glob : Nat → Option (List D)) : (mkCtx tab glob).zero 87 = [.v .nilFunc] := rfl
@[simp] theorem td_88 (glob : Nat → Option (List D)) : (mkCtx tab glob).td 88 = .func := rfl
@[simp] theorem sz_88 (glob : Nat → Option (List D)) : (mkCtx tab glob).sz 88 = 1 := rfl
@[simp] theorem ze_88 (glob : Nat → Option (List D)) : (mkCtx tab glob).zero 88 = [.v .nilFunc] := rfl
@[simp] theorem td_89 (glob : Nat → Option (List D)) : (mkCtx tab glob).td 89 = .func := rfl
@[simp] theorem sz_89 (glob : Nat → Option (List D)) : (mkCtx tab glob).sz 89 = 1 := rfl
@[simp] theorem ze_89 (glob : Nat → Option (List D)) : (mkCtx tab glob).zero 89 = [.v .nilFunc] := rfl
@[simp] theorem td_91 (glob : Nat → Option (List D)) : (mkCtx tab glob).td 91 = .func := rfl
@[simp] theorem sz_91 (glob : Nat → Option (List D)) : (mkCtx tab glob).sz 91 = 1 := rfl
@[simp] theorem ze_91 (glob : Nat → Option (List D)) : (mkCtx tab glob).zero 91 = [.v .nilFunc] := rfl
@[simp] theorem td_93 (glob : Nat → Option (List D)) : (mkCtx tab glob).td 93 = .func := rfl
@[simp] theorem sz_93 (glob : Nat → Option (List D)) : (mkCtx tab glob).sz 93 = 1 := rfl
@[simp] theorem ze_93 (glob : Nat → Option (List D)) : (mkCtx tab glob).zero 93 = [.v .nilFunc] := rfl
@[simp] theorem td_94 (glob : Nat → Option (List D)) : (mkCtx tab glob).td 94 = .func := rfl
@[simp] theorem sz_94 (glob : Nat → Option (List D)) : (mkCtx tab glob).sz 94 = 1 := rfl
@[simp] theorem ze_94 (glob : Nat → Option (List D)) : (mkCtx tab glob).zero 94 = [.v .nilFunc] := rfl
@[simp] theorem td_95 (glob : Nat → Option (List D)) : (mkCtx tab glob).td 95 = .slice 98 := rfl
@[simp] theorem sz_95 (glob : Nat → Option (List D)) : (mkCtx tab glob).sz 95 = 1 := rfl
@[simp] theorem ze_95 (glob : Nat → Option (List D)) : (mkCtx tab glob).zero 95 = [.sl 4 []] := rfl
@[simp] theorem td_96 (glob : Nat → Option (List D)) : (mkCtx tab glob).td 96 = .func := rfl
@[simp] theorem sz_96 (glob : Nat → Option (List D)) : (mkCtx tab glob).sz 96 = 1 := rfl
@[simp] theorem ze_96 (glob : Nat → Option (List D)) : (mkCtx tab glob).zero 96 = [.v .nilFunc] := rfl
@[simp] theorem td_97 (glob : Nat → Option (List D)) : (mkCtx tab glob).td 97 = .strct [(3, 0), (9, 1), (9, 2), (9, 3)] := rfl
@[simp] theorem sz_97 (glob : Nat → Option (List D)) : (mkCtx tab glob).sz 97 = 4 := rfl
@[simp] theorem eq_97 (glob : Nat → Option (List D)) : (mkCtx tab glob).eqt 97 = [] := rfl
@[simp] theorem ze_97 (glob : Nat → Option (List D)) : (mkCtx tab glob).zero 97 = [.v (.int .i64 0), .s [], .s [], .s []] := rfl
@[simp] theorem td_98 (glob : Nat → Option (List D)) : (mkCtx tab glob).td 98 = .strct [(3, 0), (9, 1), (9, 2), (9, 3)] := rfl
@[simp] theorem sz_98 (glob : Nat → Option (List D)) : (mkCtx tab glob).sz 98 = 4 := rfl
@[simp] theorem eq_98 (glob : Nat → Option (List D)) : (mkCtx tab glob).eqt 98 = [.i, .s, .s, .s] := rfl
@[simp] theorem ze_98 (glob : Nat → Option (List D)) : (mkCtx tab glob).zero 98 = [.v (.int .i64 0), .s [], .s [], .s []] := rfl
@[simp] theorem td_99 (glob : Nat → Option (List D)) : (mkCtx tab glob).td 99 = .slice 100 := rfl
@[simp] theorem sz_99 (glob : Nat → Option (List D)) : (mkCtx tab glob).sz 99 = 1 := rfl
@[simp] theorem ze_99 (glob : Nat → Option (List D)) : (mkCtx tab glob).zero 99 = [.sl 4 []] := rfl
@[simp] theorem td_100 (glob : Nat → Option (List D)) : (mkCtx tab glob).td 100 = .strct [(3, 0), (9, 1), (9, 2), (9, 3)] := rfl
@[simp] theorem sz_100 (glob : Nat → Option (List D)) : (mkCtx tab glob).sz 100 = 4 := rfl
@[simp] theorem eq_100 (glob : Nat → Option (List D)) : (mkCtx tab glob).eqt 100 = [.i, .s, .s, .s] := rfl
@[simp] theorem ze_100 (glob : Nat → Option (List D)) : (mkCtx tab glob).zero 100 = [.v (.int .i64 0), .s [], .s [], .s []] := rfl
@[simp] theorem td_101 (glob : Nat → Option (List D)) : (mkCtx tab glob).td 101 = .func := rfl
@[simp] theorem sz_101 (glob : Nat → Option (List D)) : (mkCtx tab glob).sz 101 = 1 := rfl
@[simp] theorem ze_101 (glob : Nat → Option (List D)) : (mkCtx tab glob).zero 101 = [.v .nilFunc] := rfl
@[simp] theorem td_102 (glob : Nat → Option (List D)) : (mkCtx tab glob).td 102 = .func := rfl
@[simp] theorem sz_102 (glob : Nat → Option (List D)) : (mkCtx tab glob).sz 102 = 1 := rfl
@[simp] theorem ze_102 (glob : Nat → Option (List D)) : (mkCtx tab glob).zero 102 = [.v .nilFunc] := rfl
@[simp] theorem td_104 (glob : Nat → Option (List D)) : (mkCtx tab glob).td 104 = .func := rfl
@[simp] theorem sz_104 (glob : Nat → Option (List D)) : (mkCtx tab glob).sz 104 = 1 := rfl
@[simp] theorem ze_104 (glob : Nat → Option (List D)) : (mkCtx tab glob).zero 104 = [.v .nilFunc] := rfl
@[simp] theorem td_106 (glob : Nat → Option (List D)) : (mkCtx tab glob).td 106 = .int .u64 := rfl
@[simp] theorem sz_106 (glob : Nat → Option (List D)) : (mkCtx tab glob).sz 106 = 1 := rfl
@[simp] theorem ze_106 (glob : Nat → Option (List D)) : (mkCtx tab glob).zero 106 = [.v (.int .u64 0)] := rfl
@[simp] theorem td_109 (glob : Nat → Option (List D)) : (mkCtx tab glob).td 109 = .func := rfl
@[simp] theorem sz_109 (glob : Nat → Option (List D)) : (mkCtx tab glob).sz 109 = 1 := rfl
@[simp] theorem ze_109 (glob : Nat → Option (List D)) : (mkCtx tab glob).zero 109 = [.v .nilFunc] := rfl
@[simp] theorem td_110 (glob : Nat → Option (List D)) : (mkCtx tab glob).td 110 = .iface false := rfl
@[simp] theorem sz_110 (glob : Nat → Option (List D)) : (mkCtx tab glob).sz 110 = 1 := rfl
@[simp] theorem ze_110 (glob : Nat → Option (List D)) : (mkCtx tab glob).zero 110 = [.v .nilIface] := rfl
@[simp] theorem td_111 (glob : Nat → Option (List D)) : (mkCtx tab glob).td 111 = .iface false := rfl
@[simp] theorem sz_111 (glob : Nat → Option (List D)) : (mkCtx tab glob).sz 111 = 1 := rfl
@[simp] theorem ze_111 (glob : Nat → Option (List D)) : (mkCtx tab glob).zero 111 = [.v .nilIface] := rfl
@[simp] theorem td_112 (glob : Nat → Option (List D)) : (mkCtx tab glob).td 112 = .func := rfl
@[simp] theorem sz_112 (glob : Nat → Option (List D)) : (mkCtx tab glob).sz 112 = 1 := rfl
@[simp] theorem ze_112 (glob : Nat → Option (List D)) : (mkCtx tab glob).zero 112 = [.v .nilFunc] := rfl
@[simp] theorem td_113 (glob : Nat → Option (List D)) : (mkCtx tab glob).td 113 = .int .u8 := rfl
@[simp] theorem sz_113 (glob : Nat → Option (List D)) : (mkCtx tab glob).sz 113 = 1 := rfl
@[simp] theorem ze_113 (glob : Nat → Option (List D)) : (mkCtx tab glob).zero 113 = [.v (.int .u8 0)] := rfl
@[simp] theorem td_114 (glob : Nat → Option (List D)) : (mkCtx tab glob).td 114 = .func := rfl
@[simp] theorem sz_114 (glob : Nat → Option (List D)) : (mkCtx tab glob).sz 114 = 1 := rfl
@[simp] theorem ze_114 (glob : Nat → Option (List D)) : (mkCtx tab glob).zero 114 = [.v .nilFunc] := rfl
@[simp] theorem td_115 (glob : Nat → Option (List D)) : (mkCtx tab glob).td 115 = .func := rfl
@[simp] theorem sz_115 (glob : Nat → Option (List D)) : (mkCtx tab glob).sz 115 = 1 := rfl
@[simp] theorem ze_115 (glob : Nat → Option (List D)) : (mkCtx tab glob).zero 115 = [.v .nilFunc] := rfl
@[simp] theorem td_116 (glob : Nat → Option (List D)) : (mkCtx tab glob).td 116 = .func := rfl
@[simp] theorem sz_116 (glob : Nat → Option (List D)) : (mkCtx tab glob).sz 116 = 1 := rfl
@[simp] theorem ze_116 (glob : Nat → Option (List D)) : (mkCtx tab glob).zero 116 = [.v .nilFunc] := rfl
@[simp] theorem td_117 (glob : Nat → Option (List D)) : (mkCtx tab glob).td 117 = .func := rfl
@[simp] theorem sz_117 (glob : Nat → Option (List D)) : (mkCtx tab glob).sz 117 = 1 := rfl
@[simp] theorem ze_117 (glob : Nat → Option (List D)) : (mkCtx tab glob).zero 117 = [.v .nilFunc] := rfl
@[simp] theorem td_118 (glob : Nat → Option (List D)) : (mkCtx tab glob).td 118 = .func := rfl
@[simp] theorem sz_118 (glob : Nat → Option (List D)) : (mkCtx tab glob).sz 118 = 1 := rfl
@[simp] theorem ze_118 (glob : Nat → Option (List D)) : (mkCtx tab glob).zero 118 = [.v .nilFunc] := rfl
@[simp] theorem td_119 (glob : Nat → Option (List D)) : (mkCtx tab glob).td 119 = .func := rfl
@[simp] theorem sz_119 (glob : Nat → Option (List D)) : (mkCtx tab glob).sz 119 = 1 := rfl
@[simp] theorem ze_119 (glob : Nat → Option (List D)) : (mkCtx tab glob).zero 119 = [.v .nilFunc] := rfl
@[simp] theorem td_120 (glob : Nat → Option (List D)) : (mkCtx tab glob).td 120 = .func := rfl
@[simp] theorem sz_120 (glob : Nat → Option (List D)) : (mkCtx tab glob).sz 120 = 1 := rfl
@[simp] theorem ze_120 (glob : Nat → Option (List D)) : (mkCtx tab glob).zero 120 = [.v .nilFunc] := rfl
@[simp] theorem td_124 (glob : Nat → Option (List D)) : (mkCtx tab glob).td 124 = .func := rfl
@[simp] theorem sz_124 (glob : Nat → Option (List D)) : (mkCtx tab glob).sz 124 = 1 := rfl
@[simp] theorem ze_124 (glob : Nat → Option (List D)) : (mkCtx tab glob).zero 124 = [.v .nilFunc] := rfl
@[simp] theorem td_125 (glob : Nat → Option (List D)) : (mkCtx tab glob).td 125 = .func := rfl
@[simp] theorem sz_125 (glob : Nat → Option (List D)) : (mkCtx tab glob).sz 125 = 1 := rfl
@[simp] theorem ze_125 (glob : Nat → Option (List D)) : (mkCtx tab glob).zero 125 = [.v .nilFunc] := rfl
@[simp] theorem td_126 (glob : Nat → Option (List D)) : (mkCtx tab glob).td 126 = .ptr 122 := rfl
@[simp] theorem sz_126 (glob : Nat → Option (List D)) : (mkCtx tab glob).sz 126 = 1 := rfl
@[simp] theorem ze_126 (glob : Nat → Option (List D)) : (mkCtx tab glob).zero 126 = [.v (.pointer none)] := rfl
@[simp] theorem td_127 (glob : Nat → Option (List D)) : (mkCtx tab glob).td 127 = .ptr 129 := rfl
@[simp] theorem sz_127 (glob : Nat → Option (List D)) : (mkCtx tab glob).sz 127 = 1 := rfl
@[simp] theorem ze_127 (glob : Nat → Option (List D)) : (mkCtx tab glob).zero 127 = [.v (.pointer none)] := rfl
@[simp] theorem td_128 (glob : Nat → Option (List D)) : (mkCtx tab glob).td 128 = .strct [(9, 0), (3, 1), (25, 2)] := rfl
@[simp] theorem sz_128 (glob : Nat → Option (List D)) : (mkCtx tab glob).sz 128 = 3 := rfl
@[simp] theorem eq_128 (glob : Nat → Option (List D)) : (mkCtx tab glob).eqt 128 = [] := rfl
@[simp] theorem ze_128 (glob : Nat → Option (List D)) : (mkCtx tab glob).zero 128 = [.s [], .v (.int .i64 0), .v .nilIface] := rfl
@[simp] theorem td_129 (glob : Nat → Option (List D)) : (mkCtx tab glob).td 129 = .strct [(9, 0), (3, 1), (25, 2)] := rfl
@[simp] theorem sz_129 (glob : Nat → Option (List D)) : (mkCtx tab glob).sz 129 = 3 := rfl
@[simp] theorem eq_129 (glob : Nat → Option (List D)) : (mkCtx tab glob).eqt 129 = [] := rfl
@[simp] theorem ze_129 (glob : Nat → Option (List D)) : (mkCtx tab glob).zero 129 = [.s [], .v (.int .i64 0), .v .nilIface] := rfl
@[simp] theorem td_130 (glob : Nat → Option (List D)) : (mkCtx tab glob).td 130 = .func := rfl
@[simp] theorem sz_130 (glob : Nat → Option (List D)) : (mkCtx tab glob).sz 130 = 1 := rfl
@[simp] theorem ze_130 (glob : Nat → Option (List D)) : (mkCtx tab glob).zero 130 = [.v .nilFunc] := rfl
@[simp] theorem td_131 (glob : Nat → Option (List D)) : (mkCtx tab glob).td 131 = .func := rfl
@[simp] theorem sz_131 (glob : Nat → Option (List D)) : (mkCtx tab glob).sz 131 = 1 := rfl
@[simp] theorem ze_131 (glob : Nat → Option (List D)) : (mkCtx tab glob).zero 131 = [.v .nilFunc] := rfl
@[simp] theorem td_133 (glob : Nat → Option (List D)) : (mkCtx tab glob).td 133 = .func := rfl
@[simp] theorem sz_133 (glob : Nat → Option (List D)) : (mkCtx tab glob).sz 133 = 1 := rfl
@[simp] theorem ze_133 (glob : Nat → Option (List D)) : (mkCtx tab glob).zero 133 = [.v .nilFunc] := rfl
@[simp] theorem td_135 (glob : Nat → Option (List D)) : (mkCtx tab glob).td 135 = .func := rfl
@[simp] theorem sz_135 (glob : Nat → Option (List D)) : (mkCtx tab glob).sz 135 = 1 := rfl
@[simp] theorem ze_135 (glob : Nat → Option (List D)) : (mkCtx tab glob).zero 135 = [.v .nilFunc] := rfl
@[simp] theorem td_137 (glob : Nat → Option (List D)) : (mkCtx tab glob).td 137 = .func := rfl
@[simp] theorem sz_137 (glob : Nat → Option (List D)) : (mkCtx tab glob).sz 137 = 1 := rfl
@[simp] theorem ze_137 (glob : Nat → Option (List D)) : (mkCtx tab glob).zero 137 = [.v .nilFunc] := rfl
@[simp] theorem td_138 (glob : Nat → Option (List D)) : (mkCtx tab glob).td 138 = .func := rfl
@[simp] theorem sz_138 (glob : Nat → Option (List D)) : (mkCtx tab glob).sz 138 = 1 := rfl
@[simp] theorem ze_138 (glob : Nat → Option (List D)) : (mkCtx tab glob).zero 138 = [.v .nilFunc] := rfl
@[simp] theorem td_139 (glob : Nat → Option (List D)) : (mkCtx tab glob).td 139 = .func := rfl
@[simp] theorem sz_139 (glob : Nat → Option (List D)) : (mkCtx tab glob).sz 139 = 1 := rfl
@[simp] theorem ze_139 (glob : Nat → Option (List D)) : (mkCtx tab glob).zero 139 = [.v .nilFunc] := rfl
@[simp] theorem td_140 (glob : Nat → Option (List D)) : (mkCtx tab glob).td 140 = .func := rfl
@[simp] theorem sz_140 (glob : Nat → Option (List D)) : (mkCtx tab glob).sz 140 = 1 := rfl
@[simp] theorem ze_140 (glob : Nat → Option (List D)) : (mkCtx tab glob).zero 140 = [.v .nilFunc] := rfl
@[simp] theorem td_141 (glob : Nat → Option (List D)) : (mkCtx tab glob).td 141 = .strct [(17, 0)] := rfl
@[simp] theorem sz_141 (glob : Nat → Option (List D)) : (mkCtx tab glob).sz 141 = 1 := rfl
@[simp] theorem eq_141 (glob : Nat → Option (List D)) : (mkCtx tab glob).eqt 141 = [] := rfl
@[simp] theorem ze_141 (glob : Nat → Option (List D)) : (mkCtx tab glob).zero 141 = [.v (.pointer none)] := rfl
@[simp] theorem td_142 (glob : Nat → Option (List D)) : (mkCtx tab glob).td 142 = .strct [(17, 0)] := rfl
@[simp] theorem sz_142 (glob : Nat → Option (List D)) : (mkCtx tab glob).sz 142 = 1 := rfl
@[simp] theorem eq_142 (glob : Nat → Option (List D)) : (mkCtx tab glob).eqt 142 = [] := rfl
@[simp] theorem ze_142 (glob : Nat → Option (List D)) : (mkCtx tab glob).zero 142 = [.v (.pointer none)] := rfl
@[simp] theorem td_143 (glob : Nat → Option (List D)) : (mkCtx tab glob).td 143 = .ptr 206 := rfl
@[simp] theorem sz_143 (glob : Nat → Option (List D)) : (mkCtx tab glob).sz 143 = 1 := rfl
@[simp] theorem ze_143 (glob : Nat → Option (List D)) : (mkCtx tab glob).zero 143 = [.v (.pointer none)] := rfl
@[simp] theorem td_144 (glob : Nat → Option (List D)) : (mkCtx tab glob).td 144 = .func := rfl
@[simp] theorem sz_144 (glob : Nat → Option (List D)) : (mkCtx tab glob).sz 144 = 1 := rfl
@[simp] theorem ze_144 (glob : Nat → Option (List D)) : (mkCtx tab glob).zero 144 = [.v .nilFunc] := rfl
@[simp] theorem td_145 (glob : Nat → Option (List D)) : (mkCtx tab glob).td 145 = .func := rfl
@[simp] theorem sz_145 (glob : Nat → Option (List D)) : (mkCtx tab glob).sz 145 = 1 := rfl
@[simp] theorem ze_145 (glob : Nat → Option (List D)) : (mkCtx tab glob).zero 145 = [.v .nilFunc] := rfl
@[simp] theorem td_146 (glob : Nat → Option (List D)) : (mkCtx tab glob).td 146 = .iface false := rfl
@[simp] theorem sz_146 (glob : Nat → Option (List D)) : (mkCtx tab glob).sz 146 = 1 := rfl
@[simp] theorem ze_146 (glob : Nat → Option (List D)) : (mkCtx tab glob).zero 146 = [.v .nilIface] := rfl
@[simp] theorem td_148 (glob : Nat → Option (List D)) : (mkCtx tab glob).td 148 = .func := rfl
@[simp] theorem sz_148 (glob : Nat → Option (List D)) : (mkCtx tab glob).sz 148 = 1 := rfl
@[simp] theorem ze_148 (glob : Nat → Option (List D)) : (mkCtx tab glob).zero 148 = [.v .nilFunc] := rfl
@[simp] theorem td_149 (glob : Nat → Option (List D)) : (mkCtx tab glob).td 149 = .iface false := rfl
@[simp] theorem sz_149 (glob : Nat → Option (List D)) : (mkCtx tab glob).sz 149 = 1 := rfl
@[simp] theorem ze_149 (glob : Nat → Option (List D)) : (mkCtx tab glob).zero 149 = [.v .nilIface] := rfl
@[simp] theorem td_150 (glob : Nat → Option (List D)) : (mkCtx tab glob).td 150 = .func := rfl
@[simp] theorem sz_150 (glob : Nat → Option (List D)) : (mkCtx tab glob).sz 150 = 1 := rfl
@[simp] theorem ze_150 (glob : Nat → Option (List D)) : (mkCtx tab glob).zero 150 = [.v .nilFunc] := rfl
@[simp] theorem td_151 (glob : Nat → Option (List D)) : (mkCtx tab glob).td 151 = .iface false := rfl
@[simp] theorem sz_151 (glob : Nat → Option (List D)) : (mkCtx tab glob).sz 151 = 1 := rfl
@[simp] theorem ze_151 (glob : Nat → Option (List D)) : (mkCtx tab glob).zero 151 = [.v .nilIface] := rfl
@[simp] theorem td_152 (glob : Nat → Option (List D)) : (mkCtx tab glob).td 152 = .iface false := rfl
@[simp] theorem sz_152 (glob : Nat → Option (List D)) : (mkCtx tab glob).sz 152 = 1 := rfl
@[simp] theorem ze_152 (glob : Nat → Option (List D)) : (mkCtx tab glob).zero 152 = [.v .nilIface] := rfl
@[simp] theorem td_154 (glob : Nat → Option (List D)) : (mkCtx tab glob).td 154 = .func := rfl
@[simp] theorem sz_154 (glob : Nat → Option (List D)) : (mkCtx tab glob).sz 154 = 1 := rfl
@[simp] theorem ze_154 (glob : Nat → Option (List D)) : (mkCtx tab glob).zero 154 = [.v .nilFunc] := rfl
@[simp] theorem td_156 (glob : Nat → Option (List D)) : (mkCtx tab glob).td 156 = .func := rfl
@[simp] theorem sz_156 (glob : Nat → Option (List D)) : (mkCtx tab glob).sz 156 = 1 := rfl
@[simp] theorem ze_156 (glob : Nat → Option (List D)) : (mkCtx tab glob).zero 156 = [.v .nilFunc] := rfl
@[simp] theorem td_157 (glob : Nat → Option (List D)) : (mkCtx tab glob).td 157 = .func := rfl
@[simp] theorem sz_157 (glob : Nat → Option (List D)) : (mkCtx tab glob).sz 157 = 1 := rfl
@[simp] theorem ze_157 (glob : Nat → Option (List D)) : (mkCtx tab glob).zero 157 = [.v .nilFunc] := rfl
@[simp] theorem td_158 (glob : Nat → Option (List D)) : (mkCtx tab glob).td 158 = .func := rfl
@[simp] theorem sz_158 (glob : Nat → Option (List D)) : (mkCtx tab glob).sz 158 = 1 := rfl
@[simp] theorem ze_158 (glob : Nat → Option (List D)) : (mkCtx tab glob).zero 158 = [.v .nilFunc] := rfl
@[simp] theorem td_159 (glob : Nat → Option (List D)) : (mkCtx tab glob).td 159 = .func := rfl
@[simp] theorem sz_159 (glob : Nat → Option (List D)) : (mkCtx tab glob).sz 159 = 1 := rfl
@[simp] theorem ze_159 (glob : Nat → Option (List D)) : (mkCtx tab glob).zero 159 = [.v .nilFunc] := rfl
@[simp] theorem td_160 (glob : Nat → Option (List D)) : (mkCtx tab glob).td 160 = .func := rfl
@[simp] theorem sz_160 (glob : Nat → Option (List D)) : (mkCtx tab glob).sz 160 = 1 := rfl
@[simp] theorem ze_160 (glob : Nat → Option (List D)) : (mkCtx tab glob).zero 160 = [.v .nilFunc] := rfl
@[simp] theorem td_161 (glob : Nat → Option (List D)) : (mkCtx tab glob).td 161 = .func := rfl
@[simp] theorem sz_161 (glob : Nat → Option (List D)) : (mkCtx tab glob).sz 161 = 1 := rfl
@[simp] theorem ze_161 (glob : Nat → Option (List D)) : (mkCtx tab glob).zero 161 = [.v .nilFunc] := rfl
@[simp] theorem td_162 (glob : Nat → Option (List D)) : (mkCtx tab glob).td 162 = .func := rfl
@[simp] theorem sz_162 (glob : Nat → Option (List D)) : (mkCtx tab glob).sz 162 = 1 := rfl
@[simp] theorem ze_162 (glob : Nat → Option (List D)) : (mkCtx tab glob).zero 162 = [.v .nilFunc] := rfl
@[simp] theorem td_163 (glob : Nat → Option (List D)) : (mkCtx tab glob).td 163 = .func := rfl
@[simp] theorem sz_163 (glob : Nat → Option (List D)) : (mkCtx tab glob).sz 163 = 1 := rfl
@[simp] theorem ze_163 (glob : Nat → Option (List D)) : (mkCtx tab glob).zero 163 = [.v .nilFunc] := rfl
@[simp] theorem td_164 (glob : Nat → Option (List D)) : (mkCtx tab glob).td 164 = .func := rfl
@[simp] theorem sz_164 (glob : Nat → Option (List D)) : (mkCtx tab glob).sz 164 = 1 := rfl
@[simp] theorem ze_164 (glob : Nat → Option (List D)) : (mkCtx tab glob).zero 164 = [.v .nilFunc] := rfl
@[simp] theorem td_165 (glob : Nat → Option (List D)) : (mkCtx tab glob).td 165 = .func := rfl
@[simp] theorem sz_165 (glob : Nat → Option (List D)) : (mkCtx tab glob).sz 165 = 1 := rfl
@[simp] theorem ze_165 (glob : Nat → Option (List D)) : (mkCtx tab glob).zero 165 = [.v .nilFunc] := rfl
@[simp] theorem td_166 (glob : Nat → Option (List D)) : (mkCtx tab glob).td 166 = .func := rfl
@[simp] theorem sz_166 (glob : Nat → Option (List D)) : (mkCtx tab glob).sz 166 = 1 := rfl
@[simp] theorem ze_166 (glob : Nat → Option (List D)) : (mkCtx tab glob).zero 166 = [.v .nilFunc] := rfl
@[simp] theorem td_168 (glob : Nat → Option (List D)) : (mkCtx tab glob).td 168 = .int .u64 := rfl
@[simp] theorem sz_168 (glob : Nat → Option (List D)) : (mkCtx tab glob).sz 168 = 1 := rfl
@[simp] theorem ze_168 (glob : Nat → Option (List D)) : (mkCtx tab glob).zero 168 = [.v (.int .u64 0)] := rfl
@[simp] theorem td_169 (glob : Nat → Option (List D)) : (mkCtx tab glob).td 169 = .strct [(5, 0), (5, 1)] := rfl
@[simp] theorem sz_169 (glob : Nat → Option (List D)) : (mkCtx tab glob).sz 169 = 2 := rfl
@[simp] theorem eq_169 (glob : Nat → Option (List D)) : (mkCtx tab glob).eqt 169 = [] := rfl
@[simp] theorem ze_169 (glob : Nat → Option (List D)) : (mkCtx tab glob).zero 169 = [.v (.int .u8 0), .v (.int .u8 0)] := rfl
@[simp] theorem td_170 (glob : Nat → Option (List D)) : (mkCtx tab glob).td 170 = .strct [(5, 0), (5, 1)] := rfl
@[simp] theorem sz_170 (glob : Nat → Option (List D)) : (mkCtx tab glob).sz 170 = 2 := rfl
@[simp] theorem eq_170 (glob : Nat → Option (List D)) : (mkCtx tab glob).eqt 170 = [] := rfl
@[simp] theorem ze_170 (glob : Nat → Option (List D)) : (mkCtx tab glob).zero 170 = [.v (.int .u8 0), .v (.int .u8 0)] := rfl
@[simp] theorem td_171 (glob : Nat → Option (List D)) : (mkCtx tab glob).td 171 = .arr 16 170 := rfl
@[simp] theorem sz_171 (glob : Nat → Option (List D)) : (mkCtx tab glob).sz 171 = 32 := rfl
@[simp] theorem ze_171 (glob : Nat → Option (List D)) : (mkCtx tab glob).zero 171 = [.v (.int .u8 0), .v (.int .u8 0), .v (.int .u8 0), .v (.int .u8 0), .v (.int .u8 0), .v (.int .u8 0), .v (.int .u8 0), .v (.int .u8 0), .v (.int .u8 0), .v (.int .u8 0), .v (.int .u8 0), .v (.int .u8 0), .v (.int .u8 0), .v (.int .u8 0), .v (.int .u8 0), .v (.int .u8 0), .v (.int .u8 0), .v (.int .u8 0), .v (.int .u8 0), .v (.int .u8 0), .v (.int .u8 0), .v (.int .u8 0), .v (.int .u8 0), .v (.int .u8 0), .v (.int .u8 0), .v (.int .u8 0), .v (.int .u8 0), .v (.int .u8 0), .v (.int .u8 0), .v (.int .u8 0), .v (.int .u8 0), .v (.int .u8 0)] := rfl
@[simp] theorem td_172 (glob : Nat → Option (List D)) : (mkCtx tab glob).td 172 = .func := rfl
@[simp] theorem sz_172 (glob : Nat → Option (List D)) : (mkCtx tab glob).sz 172 = 1 := rfl
@[simp] theorem ze_172 (glob : Nat → Option (List D)) : (mkCtx tab glob).zero 172 = [.v .nilFunc] := rfl
@[simp] theorem td_173 (glob : Nat → Option (List D)) : (mkCtx tab glob).td 173 = .func := rfl
@[simp] theorem sz_173 (glob : Nat → Option (List D)) : (mkCtx tab glob).sz 173 = 1 := rfl
@[simp] theorem ze_173 (glob : Nat → Option (List D)) : (mkCtx tab glob).zero 173 = [.v .nilFunc] := rfl
@[simp] theorem td_174 (glob : Nat → Option (List D)) : (mkCtx tab glob).td 174 = .func := rfl
@[simp] theorem sz_174 (glob : Nat → Option (List D)) : (mkCtx tab glob).sz 174 = 1 := rfl
@[simp] theorem ze_174 (glob : Nat → Option (List D)) : (mkCtx tab glob).zero 174 = [.v .nilFunc] := rfl
@[simp] theorem td_175 (glob : Nat → Option (List D)) : (mkCtx tab glob).td 175 = .ptr 178 := rfl
@[simp] theorem sz_175 (glob : Nat → Option (List D)) : (mkCtx tab glob).sz 175 = 1 := rfl
@[simp] theorem ze_175 (glob : Nat → Option (List D)) : (mkCtx tab glob).zero 175 = [.v (.pointer none)] := rfl
@[simp] theorem td_176 (glob : Nat → Option (List D)) : (mkCtx tab glob).td 176 = .slice 5 := rfl
@[simp] theorem sz_176 (glob : Nat → Option (List D)) : (mkCtx tab glob).sz 176 = 1 := rfl
@[simp] theorem ze_176 (glob : Nat → Option (List D)) : (mkCtx tab glob).zero 176 = [.sl 1 []] := rfl
@[simp] theorem td_177 (glob : Nat → Option (List D)) : (mkCtx tab glob).td 177 = .strct [(175, 0), (176, 1)] := rfl
@[simp] theorem sz_177 (glob : Nat → Option (List D)) : (mkCtx tab glob).sz 177 = 2 := rfl
@[simp] theorem eq_177 (glob : Nat → Option (List D)) : (mkCtx tab glob).eqt 177 = [] := rfl
@[simp] theorem ze_177 (glob : Nat → Option (List D)) : (mkCtx tab glob).zero 177 = [.v (.pointer none), .sl 1 []] := rfl
@[simp] theorem td_178 (glob : Nat → Option (List D)) : (mkCtx tab glob).td 178 = .strct [(175, 0), (176, 1)] := rfl
@[simp] theorem sz_178 (glob : Nat → Option (List D)) : (mkCtx tab glob).sz 178 = 2 := rfl
@[simp] theorem eq_178 (glob : Nat → Option (List D)) : (mkCtx tab glob).eqt 178 = [] := rfl
@[simp] theorem ze_178 (glob : Nat → Option (List D)) : (mkCtx tab glob).zero 178 = [.v (.pointer none), .sl 1 []] := rfl
@[simp] theorem td_179 (glob : Nat → Option (List D)) : (mkCtx tab glob).td 179 = .func := rfl
@[simp] theorem sz_179 (glob : Nat → Option (List D)) : (mkCtx tab glob).sz 179 = 1 := rfl
@[simp] theorem ze_179 (glob : Nat → Option (List D)) : (mkCtx tab glob).zero 179 = [.v .nilFunc] := rfl
@[simp] theorem td_181 (glob : Nat → Option (List D)) : (mkCtx tab glob).td 181 = .func := rfl
@[simp] theorem sz_181 (glob : Nat → Option (List D)) : (mkCtx tab glob).sz 181 = 1 := rfl
@[simp] theorem ze_181 (glob : Nat → Option (List D)) : (mkCtx tab glob).zero 181 = [.v .nilFunc] := rfl
@[simp] theorem td_182 (glob : Nat → Option (List D)) : (mkCtx tab glob).td 182 = .int .u32 := rfl
@[simp] theorem sz_182 (glob : Nat → Option (List D)) : (mkCtx tab glob).sz 182 = 1 := rfl
@[simp] theorem ze_182 (glob : Nat → Option (List D)) : (mkCtx tab glob).zero 182 = [.v (.int .u32 0)] := rfl
@[simp] theorem td_184 (glob : Nat → Option (List D)) : (mkCtx tab glob).td 184 = .func := rfl
@[simp] theorem sz_184 (glob : Nat → Option (List D)) : (mkCtx tab glob).sz 184 = 1 := rfl
@[simp] theorem ze_184 (glob : Nat → Option (List D)) : (mkCtx tab glob).zero 184 = [.v .nilFunc] := rfl
@[simp] theorem td_185 (glob : Nat → Option (List D)) : (mkCtx tab glob).td 185 = .ptr 5 := rfl
@[simp] theorem sz_185 (glob : Nat → Option (List D)) : (mkCtx tab glob).sz 185 = 1 := rfl
@[simp] theorem ze_185 (glob : Nat → Option (List D)) : (mkCtx tab glob).zero 185 = [.v (.pointer none)] := rfl
@[simp] theorem td_186 (glob : Nat → Option (List D)) : (mkCtx tab glob).td 186 = .func := rfl
@[simp] theorem sz_186 (glob : Nat → Option (List D)) : (mkCtx tab glob).sz 186 = 1 := rfl
@[simp] theorem ze_186 (glob : Nat → Option (List D)) : (mkCtx tab glob).zero 186 = [.v .nilFunc] := rfl
@[simp] theorem td_187 (glob : Nat → Option (List D)) : (mkCtx tab glob).td 187 = .func := rfl
@[simp] theorem sz_187 (glob : Nat → Option (List D)) : (mkCtx tab glob).sz 187 = 1 := rfl
@[simp] theorem ze_187 (glob : Nat → Option (List D)) : (mkCtx tab glob).zero 187 = [.v .nilFunc] := rfl
@[simp] theorem td_188 (glob : Nat → Option (List D)) : (mkCtx tab glob).td 188 = .ptr 208 := rfl
@[simp] theorem sz_188 (glob : Nat → Option (List D)) : (mkCtx tab glob).sz 188 = 1 := rfl
@[simp] theorem ze_188 (glob : Nat → Option (List D)) : (mkCtx tab glob).zero 188 = [.v (.pointer none)] := rfl
@[simp] theorem td_189 (glob : Nat → Option (List D)) : (mkCtx tab glob).td 189 = .strct [(17, 0), (17, 1), (17, 2), (9, 3)] := rfl
@[simp] theorem sz_189 (glob : Nat → Option (List D)) : (mkCtx tab glob).sz 189 = 4 := rfl
@[simp] theorem eq_189 (glob : Nat → Option (List D)) : (mkCtx tab glob).eqt 189 = [] := rfl
@[simp] theorem ze_189 (glob : Nat → Option (List D)) : (mkCtx tab glob).zero 189 = [.v (.pointer none), .v (.pointer none), .v (.pointer none), .s []] := rfl
@[simp] theorem td_190 (glob : Nat → Option (List D)) : (mkCtx tab glob).td 190 = .strct [(17, 0), (17, 1), (17, 2), (9, 3)] := rfl
@[simp] theorem sz_190 (glob : Nat → Option (List D)) : (mkCtx tab glob).sz 190 = 4 := rfl
@[simp] theorem eq_190 (glob : Nat → Option (List D)) : (mkCtx tab glob).eqt 190 = [] := rfl
@[simp] theorem ze_190 (glob : Nat → Option (List D)) : (mkCtx tab glob).zero 190 = [.v (.pointer none), .v (.pointer none), .v (.pointer none), .s []] := rfl
@[simp] theorem td_191 (glob : Nat → Option (List D)) : (mkCtx tab glob).td 191 = .arr 0 16 := rfl
@[simp] theorem sz_191 (glob : Nat → Option (List D)) : (mkCtx tab glob).sz 191 = 0 := rfl
@[simp] theorem ze_191 (glob : Nat → Option (List D)) : (mkCtx tab glob).zero 191 = [] := rfl
@[simp] theorem td_194 (glob : Nat → Option (List D)) : (mkCtx tab glob).td 194 = .func := rfl
@[simp] theorem sz_194 (glob : Nat → Option (List D)) : (mkCtx tab glob).sz 194 = 1 := rfl
@[simp] theorem ze_194 (glob : Nat → Option (List D)) : (mkCtx tab glob).zero 194 = [.v .nilFunc] := rfl
@[simp] theorem td_195 (glob : Nat → Option (List D)) : (mkCtx tab glob).td 195 = .func := rfl
@[simp] theorem sz_195 (glob : Nat → Option (List D)) : (mkCtx tab glob).sz 195 = 1 := rfl
@[simp] theorem ze_195 (glob : Nat → Option (List D)) : (mkCtx tab glob).zero 195 = [.v .nilFunc] := rfl
@[simp] theorem td_196 (glob : Nat → Option (List D)) : (mkCtx tab glob).td 196 = .int .u8 := rfl
@[simp] theorem sz_196 (glob : Nat → Option (List D)) : (mkCtx tab glob).sz 196 = 1 := rfl
@[simp] theorem ze_196 (glob : Nat → Option (List D)) : (mkCtx tab glob).zero 196 = [.v (.int .u8 0)] := rfl
@[simp] theorem td_197 (glob : Nat → Option (List D)) : (mkCtx tab glob).td 197 = .func := rfl
@[simp] theorem sz_197 (glob : Nat → Option (List D)) : (mkCtx tab glob).sz 197 = 1 := rfl
@[simp] theorem ze_197 (glob : Nat → Option (List D)) : (mkCtx tab glob).zero 197 = [.v .nilFunc] := rfl
@[simp] theorem td_198 (glob : Nat → Option (List D)) : (mkCtx tab glob).td 198 = .int .i32 := rfl
@[simp] theorem sz_198 (glob : Nat → Option (List D)) : (mkCtx tab glob).sz 198 = 1 := rfl
@[simp] theorem ze_198 (glob : Nat → Option (List D)) : (mkCtx tab glob).zero 198 = [.v (.int .i32 0)] := rfl
@[simp] theorem td_199 (glob : Nat → Option (List D)) : (mkCtx tab glob).td 199 = .int .i32 := rfl
@[simp] theorem sz_199 (glob : Nat → Option (List D)) : (mkCtx tab glob).sz 199 = 1 := rfl
@[simp] theorem ze_199 (glob : Nat → Option (List D)) : (mkCtx tab glob).zero 199 = [.v (.int .i32 0)] := rfl
@[simp] theorem td_200 (glob : Nat → Option (List D)) : (mkCtx tab glob).td 200 = .strct [(12, 0), (12, 1), (182, 2), (196, 3), (5, 4), (5, 5), (113, 6), (197, 7), (185, 8), (198, 9), (199, 10)] := rfl
@[simp] theorem sz_200 (glob : Nat → Option (List D)) : (mkCtx tab glob).sz 200 = 11 := rfl
@[simp] theorem eq_200 (glob : Nat → Option (List D)) : (mkCtx tab glob).eqt 200 = [] := rfl
@[simp] theorem ze_200 (glob : Nat → Option (List D)) : (mkCtx tab glob).zero 200 = [.v (.int .u64 0), .v (.int .u64 0), .v (.int .u32 0), .v (.int .u8 0), .v (.int .u8 0), .v (.int .u8 0), .v (.int .u8 0), .v .nilFunc, .v (.pointer none), .v (.int .i32 0), .v (.int .i32 0)] := rfl
@[simp] theorem td_201 (glob : Nat → Option (List D)) : (mkCtx tab glob).td 201 = .strct [(12, 0), (12, 1), (182, 2), (196, 3), (5, 4), (5, 5), (113, 6), (197, 7), (185, 8), (198, 9), (199, 10)] := rfl
@[simp] theorem sz_201 (glob : Nat → Option (List D)) : (mkCtx tab glob).sz 201 = 11 := rfl
@[simp] theorem eq_201 (glob : Nat → Option (List D)) : (mkCtx tab glob).eqt 201 = [] := rfl
@[simp] theorem ze_201 (glob : Nat → Option (List D)) : (mkCtx tab glob).zero 201 = [.v (.int .u64 0), .v (.int .u64 0), .v (.int .u32 0), .v (.int .u8 0), .v (.int .u8 0), .v (.int .u8 0), .v (.int .u8 0), .v .nilFunc, .v (.pointer none), .v (.int .i32 0), .v (.int .i32 0)] := rfl
@[simp] theorem td_202 (glob : Nat → Option (List D)) : (mkCtx tab glob).td 202 = .func := rfl
@[simp] theorem sz_202 (glob : Nat → Option (List D)) : (mkCtx tab glob).sz 202 = 1 := rfl
@[simp] theorem ze_202 (glob : Nat → Option (List D)) : (mkCtx tab glob).zero 202 = [.v .nilFunc] := rfl
@[simp] theorem td_203 (glob : Nat → Option (List D)) : (mkCtx tab glob).td 203 = .func := rfl
@[simp] theorem sz_203 (glob : Nat → Option (List D)) : (mkCtx tab glob).sz 203 = 1 := rfl
@[simp] theorem ze_203 (glob : Nat → Option (List D)) : (mkCtx tab glob).zero 203 = [.v .nilFunc] := rfl
@[simp] theorem td_204 (glob : Nat → Option (List D)) : (mkCtx tab glob).td 204 = .func := rfl
@[simp] theorem sz_204 (glob : Nat → Option (List D)) : (mkCtx tab glob).sz 204 = 1 := rfl
@[simp] theorem ze_204 (glob : Nat → Option (List D)) : (mkCtx tab glob).zero 204 = [.v .nilFunc] := rfl
@[simp] theorem td_205 (glob : Nat → Option (List D)) : (mkCtx tab glob).td 205 = .strct [(9, 0), (113, 1)] := rfl
@[simp] theorem sz_205 (glob : Nat → Option (List D)) : (mkCtx tab glob).sz 205 = 2 := rfl
@[simp] theorem eq_205 (glob : Nat → Option (List D)) : (mkCtx tab glob).eqt 205 = [] := rfl
@[simp] theorem ze_205 (glob : Nat → Option (List D)) : (mkCtx tab glob).zero 205 = [.s [], .v (.int .u8 0)] := rfl
@[simp] theorem td_206 (glob : Nat → Option (List D)) : (mkCtx tab glob).td 206 = .strct [(9, 0), (113, 1)] := rfl
@[simp] theorem sz_206 (glob : Nat → Option (List D)) : (mkCtx tab glob).sz 206 = 2 := rfl
@[simp] theorem eq_206 (glob : Nat → Option (List D)) : (mkCtx tab glob).eqt 206 = [] := rfl
@[simp] theorem ze_206 (glob : Nat → Option (List D)) : (mkCtx tab glob).zero 206 = [.s [], .v (.int .u8 0)] := rfl
@[simp] theorem td_207 (glob : Nat → Option (List D)) : (mkCtx tab glob).td 207 = .strct [(9, 0)] := rfl
@[simp] theorem sz_207 (glob : Nat → Option (List D)) : (mkCtx tab glob).sz 207 = 1 := rfl
@[simp] theorem eq_207 (glob : Nat → Option (List D)) : (mkCtx tab glob).eqt 207 = [] := rfl
@[simp] theorem ze_207 (glob : Nat → Option (List D)) : (mkCtx tab glob).zero 207 = [.s []] := rfl
@[simp] theorem td_208 (glob : Nat → Option (List D)) : (mkCtx tab glob).td 208 = .strct [(9, 0)] := rfl
@[simp] theorem sz_208 (glob : Nat → Option (List D)) : (mkCtx tab glob).sz 208 = 1 := rfl
@[simp] theorem eq_208 (glob : Nat → Option (List D)) : (mkCtx tab glob).eqt 208 = [] := rfl
@[simp] theorem ze_208 (glob : Nat → Option (List D)) : (mkCtx tab glob).zero 208 = [.s []] := rfl
@[simp] theorem td_209 (glob : Nat → Option (List D)) : (mkCtx tab glob).td 209 = .ptr 213 := rfl
@[simp] theorem sz_209 (glob : Nat → Option (List D)) : (mkCtx tab glob).sz 209 = 1 := rfl
@[simp] theorem ze_209 (glob : Nat → Option (List D)) : (mkCtx tab glob).zero 209 = [.v (.pointer none)] := rfl
@[simp] theorem td_210 (glob : Nat → Option (List D)) : (mkCtx tab glob).td 210 = .func := rfl
@[simp] theorem sz_210 (glob : Nat → Option (List D)) : (mkCtx tab glob).sz 210 = 1 := rfl
@[simp] theorem ze_210 (glob : Nat → Option (List D)) : (mkCtx tab glob).zero 210 = [.v .nilFunc] := rfl
@[simp] theorem td_211 (glob : Nat → Option (List D)) : (mkCtx tab glob).td 211 = .int .u16 := rfl
@[simp] theorem sz_211 (glob : Nat → Option (List D)) : (mkCtx tab glob).sz 211 = 1 := rfl
@[simp] theorem ze_211 (glob : Nat → Option (List D)) : (mkCtx tab glob).zero 211 = [.v (.int .u16 0)] := rfl
@[simp] theorem td_212 (glob : Nat → Option (List D)) : (mkCtx tab glob).td 212 = .strct [(198, 0), (211, 1), (211, 2), (182, 3), (182, 4)] := rfl
@[simp] theorem sz_212 (glob : Nat → Option (List D)) : (mkCtx tab glob).sz 212 = 5 := rfl
@[simp] theorem eq_212 (glob : Nat → Option (List D)) : (mkCtx tab glob).eqt 212 = [] := rfl
@[simp] theorem ze_212 (glob : Nat → Option (List D)) : (mkCtx tab glob).zero 212 = [.v (.int .i32 0), .v (.int .u16 0), .v (.int .u16 0), .v (.int .u32 0), .v (.int .u32 0)] := rfl
@[simp] theorem td_213 (glob : Nat → Option (List D)) : (mkCtx tab glob).td 213 = .strct [(198, 0), (211, 1), (211, 2), (182, 3), (182, 4)] := rfl
@[simp] theorem sz_213 (glob : Nat → Option (List D)) : (mkCtx tab glob).sz 213 = 5 := rfl
@[simp] theorem eq_213 (glob : Nat → Option (List D)) : (mkCtx tab glob).eqt 213 = [] := rfl
@[simp] theorem ze_213 (glob : Nat → Option (List D)) : (mkCtx tab glob).zero 213 = [.v (.int .i32 0), .v (.int .u16 0), .v (.int .u16 0), .v (.int .u32 0), .v (.int .u32 0)] := rfl
@[simp] theorem td_214 (glob : Nat → Option (List D)) : (mkCtx tab glob).td 214 = .slice 217 := rfl
@[simp] theorem sz_214 (glob : Nat → Option (List D)) : (mkCtx tab glob).sz 214 = 1 := rfl
@[simp] theorem ze_214 (glob : Nat → Option (List D)) : (mkCtx tab glob).zero 214 = [.sl 4 []] := rfl
@[simp] theorem td_215 (glob : Nat → Option (List D)) : (mkCtx tab glob).td 215 = .int .i32 := rfl
@[simp] theorem sz_215 (glob : Nat → Option (List D)) : (mkCtx tab glob).sz 215 = 1 := rfl
@[simp] theorem ze_215 (glob : Nat → Option (List D)) : (mkCtx tab glob).zero 215 = [.v (.int .i32 0)] := rfl
@[simp] theorem td_216 (glob : Nat → Option (List D)) : (mkCtx tab glob).td 216 = .strct [(198, 0), (199, 1), (215, 2), (215, 3)] := rfl
@[simp] theorem sz_216 (glob : Nat → Option (List D)) : (mkCtx tab glob).sz 216 = 4 := rfl
@[simp] theorem eq_216 (glob : Nat → Option (List D)) : (mkCtx tab glob).eqt 216 = [] := rfl
@[simp] theorem ze_216 (glob : Nat → Option (List D)) : (mkCtx tab glob).zero 216 = [.v (.int .i32 0), .v (.int .i32 0), .v (.int .i32 0), .v (.int .i32 0)] := rfl
@[simp] theorem td_217 (glob : Nat → Option (List D)) : (mkCtx tab glob).td 217 = .strct [(198, 0), (199, 1), (215, 2), (215, 3)] := rfl
@[simp] theorem sz_217 (glob : Nat → Option (List D)) : (mkCtx tab glob).sz 217 = 4 := rfl
@[simp] theorem eq_217 (glob : Nat → Option (List D)) : (mkCtx tab glob).eqt 217 = [] := rfl
@[simp] theorem ze_217 (glob : Nat → Option (List D)) : (mkCtx tab glob).zero 217 = [.v (.int .i32 0), .v (.int .i32 0), .v (.int .i32 0), .v (.int .i32 0)] := rfl
@[simp] theorem td_218 (glob : Nat → Option (List D)) : (mkCtx tab glob).td 218 = .func := rfl
@[simp] theorem sz_218 (glob : Nat → Option (List D)) : (mkCtx tab glob).sz 218 = 1 := rfl
@[simp] theorem ze_218 (glob : Nat → Option (List D)) : (mkCtx tab glob).zero 218 = [.v .nilFunc] := rfl
@[simp] theorem td_219 (glob : Nat → Option (List D)) : (mkCtx tab glob).td 219 = .ptr 25 := rfl
@[simp] theorem sz_219 (glob : Nat → Option (List D)) : (mkCtx tab glob).sz 219 = 1 := rfl
@[simp] theorem ze_219 (glob : Nat → Option (List D)) : (mkCtx tab glob).zero 219 = [.v (.pointer none)] := rfl
@[simp] theorem cm_63 (glob : Nat → Option (List D)) : (mkCtx tab glob).cmp 63 = false := rfl
@[simp] theorem ha_63_152 (glob : Nat → Option (List D)) : (mkCtx tab glob).has 63 152 = some false := rfl
@[simp] theorem ha_63_149 (glob : Nat → Option (List D)) : (mkCtx tab glob).has 63 149 = some true := rfl
@[simp] theorem me_63_Unwrap (glob : Nat → Option (List D)) : (mkCtx tab glob).meth 63 "Unwrap" = some 150 := by kernel_rfl
@[simp] theorem cm_188 (glob : Nat → Option (List D)) : (mkCtx tab glob).cmp 188 = true := rfl
@[simp] theorem ha_188_152 (glob : Nat → Option (List D)) : (mkCtx tab glob).has 188 152 = some false := rfl
@[simp] theorem ha_188_149 (glob : Nat → Option (List D)) : (mkCtx tab glob).has 188 149 = some false := rfl
@[simp] theorem ha_188_151 (glob : Nat → Option (List D)) : (mkCtx tab glob).has 188 151 = some false := rfl
@[simp] theorem gl_any (glob : Nat → Option (List D)) (g : Nat) : (mkCtx tab glob).glob g = glob g := rfl

end Go.Ab
