/- One text of a proof that a law of this seat says true for every input: an evaluator of code over data, and that it tells the truth. It holds of the given program under the conditions that the row prints. -/
import Derived.Test.YtaiklcijiajkaaaDoorAbC
import Derived.Test.YtaiklcijiajkaaaDoorProg
set_option linter.unusedVariables false
namespace Go.Ab
open Go.Proofs

/-- The types of the program, as far as the evaluator asks. -/
def tab : List TI := [
  ⟨.other, 0, [], [], false, [], []⟩,
  ⟨.func, 1, [.v .nilFunc], [], false, [], []⟩,
  ⟨.int .i64, 1, [.v (.int .i64 0)], [], false, [], []⟩,
  ⟨.int .i64, 1, [.v (.int .i64 0)], [], false, [], []⟩,
  ⟨.bool, 1, [.v (.bool false)], [], false, [], []⟩,
  ⟨.int .u8, 1, [.v (.int .u8 0)], [], false, [], []⟩,
  ⟨.int .u8, 1, [.v (.int .u8 0)], [], false, [], []⟩,
  ⟨.strct [(2, 0), (3, 1), (4, 2), (6, 3)], 4, [.v (.int .i64 0), .v (.int .i64 0), .v (.bool false), .v (.int .u8 0)], [], false, [], []⟩,
  ⟨.strct [(2, 0), (3, 1), (4, 2), (6, 3)], 4, [.v (.int .i64 0), .v (.int .i64 0), .v (.bool false), .v (.int .u8 0)], [], false, [], []⟩,
  ⟨.str, 1, [.s []], [], false, [], []⟩,
  ⟨.str, 1, [.s []], [], false, [], []⟩,
  ⟨.str, 1, [.s []], [], false, [], []⟩,
  ⟨.int .u64, 1, [.v (.int .u64 0)], [], false, [], []⟩,
  ⟨.strct [(9, 0), (12, 1)], 2, [.s [], .v (.int .u64 0)], [], false, [], []⟩,
  ⟨.strct [(9, 0), (12, 1)], 2, [.s [], .v (.int .u64 0)], [], false, [], []⟩,
  ⟨.ptr 123, 1, [.v (.pointer none)], [], false, [], []⟩,
  ⟨.ptr 126, 1, [.v (.pointer none)], [], false, [], []⟩,
  ⟨.ptr 134, 1, [.v (.pointer none)], [], false, [], []⟩,
  ⟨.strct [(17, 0)], 1, [.v (.pointer none)], [], false, [], []⟩,
  ⟨.strct [(17, 0)], 1, [.v (.pointer none)], [], false, [], []⟩,
  ⟨.iface true, 1, [.v .nilIface], [], false, [], []⟩,
  ⟨.int .i32, 1, [.v (.int .i32 0)], [], false, [], []⟩,
  ⟨.func, 1, [.v .nilFunc], [], false, [], []⟩,
  ⟨.slice 32, 1, [.sl 10 []], [], false, [], []⟩,
  ⟨.iface false, 1, [.v .nilIface], [], false, [], []⟩,
  ⟨.iface false, 1, [.v .nilIface], [], false, [], []⟩,
  ⟨.other, 0, [], [], false, [], []⟩,
  ⟨.func, 1, [.v .nilFunc], [], false, [], []⟩,
  ⟨.slice 54, 1, [.sl 1 []], [], false, [], []⟩,
  ⟨.strct [(3, 0), (9, 1)], 2, [.v (.int .i64 0), .s []], [], false, [], []⟩,
  ⟨.strct [(3, 0), (9, 1)], 2, [.v (.int .i64 0), .s []], [.i, .s], false, [], []⟩,
  ⟨.strct [(3, 0), (3, 1), (9, 2), (28, 3), (28, 4), (30, 5), (9, 7), (4, 8), (4, 9)], 10, [.v (.int .i64 0), .v (.int .i64 0), .s [], .sl 1 [], .sl 1 [], .v (.int .i64 0), .s [], .s [], .v (.bool false), .v (.bool false)], [], false, [], []⟩,
  ⟨.strct [(3, 0), (3, 1), (9, 2), (28, 3), (28, 4), (30, 5), (9, 7), (4, 8), (4, 9)], 10, [.v (.int .i64 0), .v (.int .i64 0), .s [], .sl 1 [], .sl 1 [], .v (.int .i64 0), .s [], .s [], .v (.bool false), .v (.bool false)], [], false, [], []⟩,
  ⟨.func, 1, [.v .nilFunc], [], false, [], []⟩,
  ⟨.func, 1, [.v .nilFunc], [], false, [], []⟩,
  ⟨.slice 46, 1, [.sl 3 []], [], false, [], []⟩,
  ⟨.other, 0, [], [], false, [], []⟩,
  ⟨.func, 1, [.v .nilFunc], [], false, [], []⟩,
  ⟨.func, 1, [.v .nilFunc], [], false, [], []⟩,
  ⟨.func, 1, [.v .nilFunc], [], false, [], []⟩,
  ⟨.ptr 42, 1, [.v (.pointer none)], [], false, [], []⟩,
  ⟨.strct [(3, 0), (25, 1)], 2, [.v (.int .i64 0), .v .nilIface], [], false, [], []⟩,
  ⟨.strct [(3, 0), (25, 1)], 2, [.v (.int .i64 0), .v .nilIface], [], false, [], []⟩,
  ⟨.slice 9, 1, [.sl 1 []], [], false, [], []⟩,
  ⟨.func, 1, [.v .nilFunc], [], false, [], []⟩,
  ⟨.strct [(9, 0), (3, 1), (4, 2)], 3, [.s [], .v (.int .i64 0), .v (.bool false)], [], false, [], []⟩,
  ⟨.strct [(9, 0), (3, 1), (4, 2)], 3, [.s [], .v (.int .i64 0), .v (.bool false)], [], false, [], []⟩,
  ⟨.func, 1, [.v .nilFunc], [], false, [], []⟩,
  ⟨.other, 0, [], [], false, [], []⟩,
  ⟨.func, 1, [.v .nilFunc], [], false, [], []⟩,
  ⟨.func, 1, [.v .nilFunc], [], false, [], []⟩,
  ⟨.other, 0, [], [], false, [], []⟩,
  ⟨.func, 1, [.v .nilFunc], [], false, [], []⟩,
  ⟨.func, 1, [.v .nilFunc], [], false, [], []⟩,
  ⟨.slice 57, 1, [.sl 4 []], [], false, [], []⟩,
  ⟨.func, 1, [.v .nilFunc], [], false, [], []⟩,
  ⟨.strct [(3, 0), (9, 1), (9, 2), (9, 3)], 4, [.v (.int .i64 0), .s [], .s [], .s []], [], false, [], []⟩,
  ⟨.strct [(3, 0), (9, 1), (9, 2), (9, 3)], 4, [.v (.int .i64 0), .s [], .s [], .s []], [.i, .s, .s, .s], false, [], []⟩,
  ⟨.func, 1, [.v .nilFunc], [], false, [], []⟩,
  ⟨.func, 1, [.v .nilFunc], [], false, [], []⟩,
  ⟨.func, 1, [.v .nilFunc], [], false, [], []⟩,
  ⟨.other, 0, [], [], false, [], []⟩,
  ⟨.func, 1, [.v .nilFunc], [], false, [], []⟩,
  ⟨.other, 0, [], [], false, [], []⟩,
  ⟨.func, 1, [.v .nilFunc], [], false, [], []⟩,
  ⟨.func, 1, [.v .nilFunc], [], false, [], []⟩,
  ⟨.other, 0, [], [], false, [], []⟩,
  ⟨.func, 1, [.v .nilFunc], [], false, [], []⟩,
  ⟨.func, 1, [.v .nilFunc], [], false, [], []⟩,
  ⟨.func, 1, [.v .nilFunc], [], false, [], []⟩,
  ⟨.func, 1, [.v .nilFunc], [], false, [], []⟩,
  ⟨.func, 1, [.v .nilFunc], [], false, [], []⟩,
  ⟨.other, 0, [], [], false, [], []⟩,
  ⟨.other, 0, [], [], false, [], []⟩,
  ⟨.other, 0, [], [], false, [], []⟩,
  ⟨.func, 1, [.v .nilFunc], [], false, [], []⟩,
  ⟨.func, 1, [.v .nilFunc], [], false, [], []⟩,
  ⟨.ptr 73, 1, [.v (.pointer none)], [], false, [], []⟩,
  ⟨.ptr 80, 1, [.v (.pointer none)], [], false, [], []⟩,
  ⟨.strct [(9, 0), (3, 1), (25, 2)], 3, [.s [], .v (.int .i64 0), .v .nilIface], [], false, [], []⟩,
  ⟨.strct [(9, 0), (3, 1), (25, 2)], 3, [.s [], .v (.int .i64 0), .v .nilIface], [], false, [], []⟩,
  ⟨.func, 1, [.v .nilFunc], [], false, [], []⟩,
  ⟨.func, 1, [.v .nilFunc], [], false, [], []⟩,
  ⟨.func, 1, [.v .nilFunc], [], false, [], []⟩,
  ⟨.other, 0, [], [], false, [], []⟩,
  ⟨.func, 1, [.v .nilFunc], [], false, [], []⟩,
  ⟨.other, 0, [], [], false, [], []⟩,
  ⟨.func, 1, [.v .nilFunc], [], false, [], []⟩,
  ⟨.func, 1, [.v .nilFunc], [], false, [], []⟩,
  ⟨.other, 0, [], [], false, [], []⟩,
  ⟨.func, 1, [.v .nilFunc], [], false, [], []⟩,
  ⟨.func, 1, [.v .nilFunc], [], false, [], []⟩,
  ⟨.func, 1, [.v .nilFunc], [], false, [], []⟩,
  ⟨.func, 1, [.v .nilFunc], [], false, [], []⟩,
  ⟨.func, 1, [.v .nilFunc], [], false, [], []⟩,
  ⟨.func, 1, [.v .nilFunc], [], false, [], []⟩,
  ⟨.func, 1, [.v .nilFunc], [], false, [], []⟩,
  ⟨.func, 1, [.v .nilFunc], [], false, [], []⟩,
  ⟨.func, 1, [.v .nilFunc], [], false, [], []⟩,
  ⟨.func, 1, [.v .nilFunc], [], false, [], []⟩,
  ⟨.int .u64, 1, [.v (.int .u64 0)], [], false, [], []⟩,
  ⟨.other, 0, [], [], false, [], []⟩,
  ⟨.strct [(5, 0), (5, 1)], 2, [.v (.int .u8 0), .v (.int .u8 0)], [], false, [], []⟩,
  ⟨.strct [(5, 0), (5, 1)], 2, [.v (.int .u8 0), .v (.int .u8 0)], [], false, [], []⟩,
  ⟨.arr 16 103, 32, [.v (.int .u8 0), .v (.int .u8 0), .v (.int .u8 0), .v (.int .u8 0), .v (.int .u8 0), .v (.int .u8 0), .v (.int .u8 0), .v (.int .u8 0), .v (.int .u8 0), .v (.int .u8 0), .v (.int .u8 0), .v (.int .u8 0), .v (.int .u8 0), .v (.int .u8 0), .v (.int .u8 0), .v (.int .u8 0), .v (.int .u8 0), .v (.int .u8 0), .v (.int .u8 0), .v (.int .u8 0), .v (.int .u8 0), .v (.int .u8 0), .v (.int .u8 0), .v (.int .u8 0), .v (.int .u8 0), .v (.int .u8 0), .v (.int .u8 0), .v (.int .u8 0), .v (.int .u8 0), .v (.int .u8 0), .v (.int .u8 0), .v (.int .u8 0)], [], false, [], []⟩,
  ⟨.func, 1, [.v .nilFunc], [], false, [], []⟩,
  ⟨.func, 1, [.v .nilFunc], [], false, [], []⟩,
  ⟨.int .u32, 1, [.v (.int .u32 0)], [], false, [], []⟩,
  ⟨.other, 0, [], [], false, [], []⟩,
  ⟨.func, 1, [.v .nilFunc], [], false, [], []⟩,
  ⟨.ptr 113, 1, [.v (.pointer none)], [], false, [], []⟩,
  ⟨.slice 5, 1, [.sl 1 []], [], false, [], []⟩,
  ⟨.strct [(110, 0), (111, 1)], 2, [.v (.pointer none), .sl 1 []], [], false, [], []⟩,
  ⟨.strct [(110, 0), (111, 1)], 2, [.v (.pointer none), .sl 1 []], [], false, [], []⟩,
  ⟨.func, 1, [.v .nilFunc], [], false, [], []⟩,
  ⟨.other, 0, [], [], false, [], []⟩,
  ⟨.func, 1, [.v .nilFunc], [], false, [], []⟩,
  ⟨.ptr 5, 1, [.v (.pointer none)], [], false, [], []⟩,
  ⟨.other, 0, [], [], false, [], []⟩,
  ⟨.func, 1, [.v .nilFunc], [], false, [], []⟩,
  ⟨.func, 1, [.v .nilFunc], [], false, [], []⟩,
  ⟨.ptr 137, 1, [.v (.pointer none)], [], true, [], []⟩,
  ⟨.strct [(17, 0), (17, 1), (17, 2), (9, 3)], 4, [.v (.pointer none), .v (.pointer none), .v (.pointer none), .s []], [], false, [], []⟩,
  ⟨.strct [(17, 0), (17, 1), (17, 2), (9, 3)], 4, [.v (.pointer none), .v (.pointer none), .v (.pointer none), .s []], [], false, [], []⟩,
  ⟨.arr 0 16, 0, [], [], false, [], []⟩,
  ⟨.other, 0, [], [], false, [], []⟩,
  ⟨.other, 0, [], [], false, [], []⟩,
  ⟨.func, 1, [.v .nilFunc], [], false, [], []⟩,
  ⟨.int .u8, 1, [.v (.int .u8 0)], [], false, [], []⟩,
  ⟨.int .u8, 1, [.v (.int .u8 0)], [], false, [], []⟩,
  ⟨.func, 1, [.v .nilFunc], [], false, [], []⟩,
  ⟨.int .i32, 1, [.v (.int .i32 0)], [], false, [], []⟩,
  ⟨.int .i32, 1, [.v (.int .i32 0)], [], false, [], []⟩,
  ⟨.strct [(12, 0), (12, 1), (107, 2), (128, 3), (5, 4), (5, 5), (129, 6), (130, 7), (117, 8), (131, 9), (132, 10)], 11, [.v (.int .u64 0), .v (.int .u64 0), .v (.int .u32 0), .v (.int .u8 0), .v (.int .u8 0), .v (.int .u8 0), .v (.int .u8 0), .v .nilFunc, .v (.pointer none), .v (.int .i32 0), .v (.int .i32 0)], [], false, [], []⟩,
  ⟨.strct [(12, 0), (12, 1), (107, 2), (128, 3), (5, 4), (5, 5), (129, 6), (130, 7), (117, 8), (131, 9), (132, 10)], 11, [.v (.int .u64 0), .v (.int .u64 0), .v (.int .u32 0), .v (.int .u8 0), .v (.int .u8 0), .v (.int .u8 0), .v (.int .u8 0), .v .nilFunc, .v (.pointer none), .v (.int .i32 0), .v (.int .i32 0)], [], false, [], []⟩,
  ⟨.func, 1, [.v .nilFunc], [], false, [], []⟩,
  ⟨.strct [(9, 0)], 1, [.s []], [], false, [], []⟩,
  ⟨.strct [(9, 0)], 1, [.s []], [], false, [], []⟩,
  ⟨.func, 1, [.v .nilFunc], [], false, [], []⟩]
theorem tab_ok : tabB Tryd.prog tab 0 tab = true := by kernel_rfl
theorem mixed_ok : Tryd.prog.follows .mixedOrders = true := by kernel_rfl
theorem eqs_ok : eqsB Tryd.prog 0 tab = true := by kernel_rfl
theorem dyns_ok : dynB Tryd.prog 0 tab = true := by kernel_rfl
def methL : List (TypeId × String × FuncId) := []
theorem meths_in : methIn methL 0 tab = true := by kernel_rfl
theorem meths_run : ∀ z ∈ methL, ∀ (v : Value) (w : World), (Go.method (Tryd.prog.types.size + Made.depth) z.1 v z.2.1).run Tryd.prog w = .ok (z.2.2, v) w := by
  exact fun z hz => by simp [methL] at hz
theorem T_ok (glob : Nat → Option (List D)) : TOk Tryd.prog (mkCtx tab glob) := mk_ok glob tab_ok mixed_ok eqs_ok dyns_ok (meths_of meths_in meths_run)
@[simp] theorem td_1 (glob : Nat → Option (List D)) : (mkCtx tab glob).td 1 = .func := rfl
@[simp] theorem sz_1 (glob : Nat → Option (List D)) : (mkCtx tab glob).sz 1 = 1 := rfl
@[simp] theorem ze_1 (glob : Nat → Option (List D)) : (mkCtx tab glob).zero 1 = [.v .nilFunc] := rfl
@[simp] theorem td_2 (glob : Nat → Option (List D)) : (mkCtx tab glob).td 2 = .int .i64 := rfl
@[simp] theorem sz_2 (glob : Nat → Option (List D)) : (mkCtx tab glob).sz 2 = 1 := rfl
@[simp] theorem ze_2 (glob : Nat → Option (List D)) : (mkCtx tab glob).zero 2 = [.v (.int .i64 0)] := rfl
@[simp] theorem td_3 (glob : Nat → Option (List D)) : (mkCtx tab glob).td 3 = .int .i64 := rfl
@[simp] theorem sz_3 (glob : Nat → Option (List D)) : (mkCtx tab glob).sz 3 = 1 := rfl
@[simp] theorem ze_3 (glob : Nat → Option (List D)) : (mkCtx tab glob).zero 3 = [.v (.int .i64 0)] := rfl
@[simp] theorem td_4 (glob : Nat → Option (List D)) : (mkCtx tab glob).td 4 = .bool := rfl
@[simp] theorem sz_4 (glob : Nat → Option (List D)) : (mkCtx tab glob).sz 4 = 1 := rfl
@[simp] theorem ze_4 (glob : Nat → Option (List D)) : (mkCtx tab glob).zero 4 = [.v (.bool false)] := rfl
@[simp] theorem td_5 (glob : Nat → Option (List D)) : (mkCtx tab glob).td 5 = .int .u8 := rfl
@[simp] theorem sz_5 (glob : Nat → Option (List D)) : (mkCtx tab glob).sz 5 = 1 := rfl
@[simp] theorem ze_5 (glob : Nat → Option (List D)) : (mkCtx tab glob).zero 5 = [.v (.int .u8 0)] := rfl
@[simp] theorem td_6 (glob : Nat → Option (List D)) : (mkCtx tab glob).td 6 = .int .u8 := rfl
@[simp] theorem sz_6 (glob : Nat → Option (List D)) : (mkCtx tab glob).sz 6 = 1 := rfl
@[simp] theorem ze_6 (glob : Nat → Option (List D)) : (mkCtx tab glob).zero 6 = [.v (.int .u8 0)] := rfl
@[simp] theorem td_7 (glob : Nat → Option (List D)) : (mkCtx tab glob).td 7 = .strct [(2, 0), (3, 1), (4, 2), (6, 3)] := rfl
@[simp] theorem sz_7 (glob : Nat → Option (List D)) : (mkCtx tab glob).sz 7 = 4 := rfl
@[simp] theorem eq_7 (glob : Nat → Option (List D)) : (mkCtx tab glob).eqt 7 = [] := rfl
@[simp] theorem ze_7 (glob : Nat → Option (List D)) : (mkCtx tab glob).zero 7 = [.v (.int .i64 0), .v (.int .i64 0), .v (.bool false), .v (.int .u8 0)] := rfl
@[simp] theorem td_8 (glob : Nat → Option (List D)) : (mkCtx tab glob).td 8 = .strct [(2, 0), (3, 1), (4, 2), (6, 3)] := rfl
@[simp] theorem sz_8 (glob : Nat → Option (List D)) : (mkCtx tab glob).sz 8 = 4 := rfl
@[simp] theorem eq_8 (glob : Nat → Option (List D)) : (mkCtx tab glob).eqt 8 = [] := rfl
@[simp] theorem ze_8 (glob : Nat → Option (List D)) : (mkCtx tab glob).zero 8 = [.v (.int .i64 0), .v (.int .i64 0), .v (.bool false), .v (.int .u8 0)] := rfl
@[simp] theorem td_9 (glob : Nat → Option (List D)) : (mkCtx tab glob).td 9 = .str := rfl
@[simp] theorem sz_9 (glob : Nat → Option (List D)) : (mkCtx tab glob).sz 9 = 1 := rfl
@[simp] theorem ze_9 (glob : Nat → Option (List D)) : (mkCtx tab glob).zero 9 = [.s []] := rfl
@[simp] theorem td_10 (glob : Nat → Option (List D)) : (mkCtx tab glob).td 10 = .str := rfl
@[simp] theorem sz_10 (glob : Nat → Option (List D)) : (mkCtx tab glob).sz 10 = 1 := rfl
@[simp] theorem ze_10 (glob : Nat → Option (List D)) : (mkCtx tab glob).zero 10 = [.s []] := rfl
@[simp] theorem td_11 (glob : Nat → Option (List D)) : (mkCtx tab glob).td 11 = .str := rfl
@[simp] theorem sz_11 (glob : Nat → Option (List D)) : (mkCtx tab glob).sz 11 = 1 := rfl
@[simp] theorem ze_11 (glob : Nat → Option (List D)) : (mkCtx tab glob).zero 11 = [.s []] := rfl
@[simp] theorem td_12 (glob : Nat → Option (List D)) : (mkCtx tab glob).td 12 = .int .u64 := rfl
@[simp] theorem sz_12 (glob : Nat → Option (List D)) : (mkCtx tab glob).sz 12 = 1 := rfl
@[simp] theorem ze_12 (glob : Nat → Option (List D)) : (mkCtx tab glob).zero 12 = [.v (.int .u64 0)] := rfl
@[simp] theorem td_13 (glob : Nat → Option (List D)) : (mkCtx tab glob).td 13 = .strct [(9, 0), (12, 1)] := rfl
@[simp] theorem sz_13 (glob : Nat → Option (List D)) : (mkCtx tab glob).sz 13 = 2 := rfl
@[simp] theorem eq_13 (glob : Nat → Option (List D)) : (mkCtx tab glob).eqt 13 = [] := rfl
@[simp] theorem ze_13 (glob : Nat → Option (List D)) : (mkCtx tab glob).zero 13 = [.s [], .v (.int .u64 0)] := rfl
@[simp] theorem td_14 (glob : Nat → Option (List D)) : (mkCtx tab glob).td 14 = .strct [(9, 0), (12, 1)] := rfl
@[simp] theorem sz_14 (glob : Nat → Option (List D)) : (mkCtx tab glob).sz 14 = 2 := rfl
@[simp] theorem eq_14 (glob : Nat → Option (List D)) : (mkCtx tab glob).eqt 14 = [] := rfl
@[simp] theorem ze_14 (glob : Nat → Option (List D)) : (mkCtx tab glob).zero 14 = [.s [], .v (.int .u64 0)] := rfl
@[simp] theorem td_15 (glob : Nat → Option (List D)) : (mkCtx tab glob).td 15 = .ptr 123 := rfl
@[simp] theorem sz_15 (glob : Nat → Option (List D)) : (mkCtx tab glob).sz 15 = 1 := rfl
@[simp] theorem ze_15 (glob : Nat → Option (List D)) : (mkCtx tab glob).zero 15 = [.v (.pointer none)] := rfl
@[simp] theorem td_16 (glob : Nat → Option (List D)) : (mkCtx tab glob).td 16 = .ptr 126 := rfl
@[simp] theorem sz_16 (glob : Nat → Option (List D)) : (mkCtx tab glob).sz 16 = 1 := rfl
@[simp] theorem ze_16 (glob : Nat → Option (List D)) : (mkCtx tab glob).zero 16 = [.v (.pointer none)] := rfl
@[simp] theorem td_17 (glob : Nat → Option (List D)) : (mkCtx tab glob).td 17 = .ptr 134 := rfl
@[simp] theorem sz_17 (glob : Nat → Option (List D)) : (mkCtx tab glob).sz 17 = 1 := rfl
@[simp] theorem ze_17 (glob : Nat → Option (List D)) : (mkCtx tab glob).zero 17 = [.v (.pointer none)] := rfl
@[simp] theorem td_18 (glob : Nat → Option (List D)) : (mkCtx tab glob).td 18 = .strct [(17, 0)] := rfl
@[simp] theorem sz_18 (glob : Nat → Option (List D)) : (mkCtx tab glob).sz 18 = 1 := rfl
@[simp] theorem eq_18 (glob : Nat → Option (List D)) : (mkCtx tab glob).eqt 18 = [] := rfl
@[simp] theorem ze_18 (glob : Nat → Option (List D)) : (mkCtx tab glob).zero 18 = [.v (.pointer none)] := rfl
@[simp] theorem td_19 (glob : Nat → Option (List D)) : (mkCtx tab glob).td 19 = .strct [(17, 0)] := rfl
@[simp] theorem sz_19 (glob : Nat → Option (List D)) : (mkCtx tab glob).sz 19 = 1 := rfl
@[simp] theorem eq_19 (glob : Nat → Option (List D)) : (mkCtx tab glob).eqt 19 = [] := rfl
@[simp] theorem ze_19 (glob : Nat → Option (List D)) : (mkCtx tab glob).zero 19 = [.v (.pointer none)] := rfl
@[simp] theorem td_20 (glob : Nat → Option (List D)) : (mkCtx tab glob).td 20 = .iface true := rfl
@[simp] theorem sz_20 (glob : Nat → Option (List D)) : (mkCtx tab glob).sz 20 = 1 := rfl
@[simp] theorem ze_20 (glob : Nat → Option (List D)) : (mkCtx tab glob).zero 20 = [.v .nilIface] := rfl
@[simp] theorem td_21 (glob : Nat → Option (List D)) : (mkCtx tab glob).td 21 = .int .i32 := rfl
@[simp] theorem sz_21 (glob : Nat → Option (List D)) : (mkCtx tab glob).sz 21 = 1 := rfl
@[simp] theorem ze_21 (glob : Nat → Option (List D)) : (mkCtx tab glob).zero 21 = [.v (.int .i32 0)] := rfl
@[simp] theorem td_22 (glob : Nat → Option (List D)) : (mkCtx tab glob).td 22 = .func := rfl
@[simp] theorem sz_22 (glob : Nat → Option (List D)) : (mkCtx tab glob).sz 22 = 1 := rfl
@[simp] theorem ze_22 (glob : Nat → Option (List D)) : (mkCtx tab glob).zero 22 = [.v .nilFunc] := rfl
@[simp] theorem td_23 (glob : Nat → Option (List D)) : (mkCtx tab glob).td 23 = .slice 32 := rfl
@[simp] theorem sz_23 (glob : Nat → Option (List D)) : (mkCtx tab glob).sz 23 = 1 := rfl
@[simp] theorem ze_23 (glob : Nat → Option (List D)) : (mkCtx tab glob).zero 23 = [.sl 10 []] := rfl
@[simp] theorem td_24 (glob : Nat → Option (List D)) : (mkCtx tab glob).td 24 = .iface false := rfl
@[simp] theorem sz_24 (glob : Nat → Option (List D)) : (mkCtx tab glob).sz 24 = 1 := rfl
@[simp] theorem ze_24 (glob : Nat → Option (List D)) : (mkCtx tab glob).zero 24 = [.v .nilIface] := rfl
@[simp] theorem td_25 (glob : Nat → Option (List D)) : (mkCtx tab glob).td 25 = .iface false := rfl
@[simp] theorem sz_25 (glob : Nat → Option (List D)) : (mkCtx tab glob).sz 25 = 1 := rfl
@[simp] theorem ze_25 (glob : Nat → Option (List D)) : (mkCtx tab glob).zero 25 = [.v .nilIface] := rfl
@[simp] theorem td_27 (glob : Nat → Option (List D)) : (mkCtx tab glob).td 27 = .func := rfl
@[simp] theorem sz_27 (glob : Nat → Option (List D)) : (mkCtx tab glob).sz 27 = 1 := rfl
@[simp] theorem ze_27 (glob : Nat → Option (List D)) : (mkCtx tab glob).zero 27 = [.v .nilFunc] := rfl
@[simp] theorem td_28 (glob : Nat → Option (List D)) : (mkCtx tab glob).td 28 = .slice 54 := rfl
@[simp] theorem sz_28 (glob : Nat → Option (List D)) : (mkCtx tab glob).sz 28 = 1 := rfl
@[simp] theorem ze_28 (glob : Nat → Option (List D)) : (mkCtx tab glob).zero 28 = [.sl 1 []] := rfl
@[simp] theorem td_29 (glob : Nat → Option (List D)) : (mkCtx tab glob).td 29 = .strct [(3, 0), (9, 1)] := rfl
@[simp] theorem sz_29 (glob : Nat → Option (List D)) : (mkCtx tab glob).sz 29 = 2 := rfl
@[simp] theorem eq_29 (glob : Nat → Option (List D)) : (mkCtx tab glob).eqt 29 = [] := rfl
@[simp] theorem ze_29 (glob : Nat → Option (List D)) : (mkCtx tab glob).zero 29 = [.v (.int .i64 0), .s []] := rfl
@[simp] theorem td_30 (glob : Nat → Option (List D)) : (mkCtx tab glob).td 30 = .strct [(3, 0), (9, 1)] := rfl
@[simp] theorem sz_30 (glob : Nat → Option (List D)) : (mkCtx tab glob).sz 30 = 2 := rfl
@[simp] theorem eq_30 (glob : Nat → Option (List D)) : (mkCtx tab glob).eqt 30 = [.i, .s] := rfl
@[simp] theorem ze_30 (glob : Nat → Option (List D)) : (mkCtx tab glob).zero 30 = [.v (.int .i64 0), .s []] := rfl
@[simp] theorem td_31 (glob : Nat → Option (List D)) : (mkCtx tab glob).td 31 = .strct [(3, 0), (3, 1), (9, 2), (28, 3), (28, 4), (30, 5), (9, 7), (4, 8), (4, 9)] := rfl
@[simp] theorem sz_31 (glob : Nat → Option (List D)) : (mkCtx tab glob).sz 31 = 10 := rfl
@[simp] theorem eq_31 (glob : Nat → Option (List D)) : (mkCtx tab glob).eqt 31 = [] := rfl
@[simp] theorem ze_31 (glob : Nat → Option (List D)) : (mkCtx tab glob).zero 31 = [.v (.int .i64 0), .v (.int .i64 0), .s [], .sl 1 [], .sl 1 [], .v (.int .i64 0), .s [], .s [], .v (.bool false), .v (.bool false)] := rfl
@[simp] theorem td_32 (glob : Nat → Option (List D)) : (mkCtx tab glob).td 32 = .strct [(3, 0), (3, 1), (9, 2), (28, 3), (28, 4), (30, 5), (9, 7), (4, 8), (4, 9)] := rfl
@[simp] theorem sz_32 (glob : Nat → Option (List D)) : (mkCtx tab glob).sz 32 = 10 := rfl
@[simp] theorem eq_32 (glob : Nat → Option (List D)) : (mkCtx tab glob).eqt 32 = [] := rfl
@[simp] theorem ze_32 (glob : Nat → Option (List D)) : (mkCtx tab glob).zero 32 = [.v (.int .i64 0), .v (.int .i64 0), .s [], .sl 1 [], .sl 1 [], .v (.int .i64 0), .s [], .s [], .v (.bool false), .v (.bool false)] := rfl
@[simp] theorem td_33 (glob : Nat → Option (List D)) : (mkCtx tab glob).td 33 = .func := rfl
@[simp] theorem sz_33 (glob : Nat → Option (List D)) : (mkCtx tab glob).sz 33 = 1 := rfl
@[simp] theorem ze_33 (glob : Nat → Option (List D)) : (mkCtx tab glob).zero 33 = [.v .nilFunc] := rfl
@[simp] theorem td_34 (glob : Nat → Option (List D)) : (mkCtx tab glob).td 34 = .func := rfl
@[simp] theorem sz_34 (glob : Nat → Option (List D)) : (mkCtx tab glob).sz 34 = 1 := rfl
@[simp] theorem ze_34 (glob : Nat → Option (List D)) : (mkCtx tab glob).zero 34 = [.v .nilFunc] := rfl
@[simp] theorem td_35 (glob : Nat → Option (List D)) : (mkCtx tab glob).td 35 = .slice 46 := rfl
@[simp] theorem sz_35 (glob : Nat → Option (List D)) : (mkCtx tab glob).sz 35 = 1 := rfl
@[simp] theorem ze_35 (glob : Nat → Option (List D)) : (mkCtx tab glob).zero 35 = [.sl 3 []] := rfl
@[simp] theorem td_37 (glob : Nat → Option (List D)) : (mkCtx tab glob).td 37 = .func := rfl
@[simp] theorem sz_37 (glob : Nat → Option (List D)) : (mkCtx tab glob).sz 37 = 1 := rfl
@[simp] theorem ze_37 (glob : Nat → Option (List D)) : (mkCtx tab glob).zero 37 = [.v .nilFunc] := rfl
@[simp] theorem td_38 (glob : Nat → Option (List D)) : (mkCtx tab glob).td 38 = .func := rfl
@[simp] theorem sz_38 (glob : Nat → Option (List D)) : (mkCtx tab glob).sz 38 = 1 := rfl
@[simp] theorem ze_38 (glob : Nat → Option (List D)) : (mkCtx tab glob).zero 38 = [.v .nilFunc] := rfl
@[simp] theorem td_39 (glob : Nat → Option (List D)) : (mkCtx tab glob).td 39 = .func := rfl
@[simp] theorem sz_39 (glob : Nat → Option (List D)) : (mkCtx tab glob).sz 39 = 1 := rfl
@[simp] theorem ze_39 (glob : Nat → Option (List D)) : (mkCtx tab glob).zero 39 = [.v .nilFunc] := rfl
@[simp] theorem td_40 (glob : Nat → Option (List D)) : (mkCtx tab glob).td 40 = .ptr 42 := rfl
@[simp] theorem sz_40 (glob : Nat → Option (List D)) : (mkCtx tab glob).sz 40 = 1 := rfl
@[simp] theorem ze_40 (glob : Nat → Option (List D)) : (mkCtx tab glob).zero 40 = [.v (.pointer none)] := rfl
@[simp] theorem td_41 (glob : Nat → Option (List D)) : (mkCtx tab glob).td 41 = .strct [(3, 0), (25, 1)] := rfl
@[simp] theorem sz_41 (glob : Nat → Option (List D)) : (mkCtx tab glob).sz 41 = 2 := rfl
@[simp] theorem eq_41 (glob : Nat → Option (List D)) : (mkCtx tab glob).eqt 41 = [] := rfl
@[simp] theorem ze_41 (glob : Nat → Option (List D)) : (mkCtx tab glob).zero 41 = [.v (.int .i64 0), .v .nilIface] := rfl
@[simp] theorem td_42 (glob : Nat → Option (List D)) : (mkCtx tab glob).td 42 = .strct [(3, 0), (25, 1)] := rfl
@[simp] theorem sz_42 (glob : Nat → Option (List D)) : (mkCtx tab glob).sz 42 = 2 := rfl
@[simp] theorem eq_42 (glob : Nat → Option (List D)) : (mkCtx tab glob).eqt 42 = [] := rfl
@[simp] theorem ze_42 (glob : Nat → Option (List D)) : (mkCtx tab glob).zero 42 = [.v (.int .i64 0), .v .nilIface] := rfl
@[simp] theorem td_43 (glob : Nat → Option (List D)) : (mkCtx tab glob).td 43 = .slice 9 := rfl
@[simp] theorem sz_43 (glob : Nat → Option (List D)) : (mkCtx tab glob).sz 43 = 1 := rfl
@[simp] theorem ze_43 (glob : Nat → Option (List D)) : (mkCtx tab glob).zero 43 = [.sl 1 []] := rfl
@[simp] theorem td_44 (glob : Nat → Option (List D)) : (mkCtx tab glob).td 44 = .func := rfl
@[simp] theorem sz_44 (glob : Nat → Option (List D)) : (mkCtx tab glob).sz 44 = 1 := rfl
@[simp] theorem ze_44 (glob : Nat → Option (List D)) : (mkCtx tab glob).zero 44 = [.v .nilFunc] := rfl
@[simp] theorem td_45 (glob : Nat → Option (List D)) : (mkCtx tab glob).td 45 = .strct [(9, 0), (3, 1), (4, 2)] := rfl
@[simp] theorem sz_45 (glob : Nat → Option (List D)) : (mkCtx tab glob).sz 45 = 3 := rfl
@[simp] theorem eq_45 (glob : Nat → Option (List D)) : (mkCtx tab glob).eqt 45 = [] := rfl
@[simp] theorem ze_45 (glob : Nat → Option (List D)) : (mkCtx tab glob).zero 45 = [.s [], .v (.int .i64 0), .v (.bool false)] := rfl
@[simp] theorem td_46 (glob : Nat → Option (List D)) : (mkCtx tab glob).td 46 = .strct [(9, 0), (3, 1), (4, 2)] := rfl
@[simp] theorem sz_46 (glob : Nat → Option (List D)) : (mkCtx tab glob).sz 46 = 3 := rfl
@[simp] theorem eq_46 (glob : Nat → Option (List D)) : (mkCtx tab glob).eqt 46 = [] := rfl
@[simp] theorem ze_46 (glob : Nat → Option (List D)) : (mkCtx tab glob).zero 46 = [.s [], .v (.int .i64 0), .v (.bool false)] := rfl
@[simp] theorem td_47 (glob : Nat → Option (List D)) : (mkCtx tab glob).td 47 = .func := rfl
@[simp] theorem sz_47 (glob : Nat → Option (List D)) : (mkCtx tab glob).sz 47 = 1 := rfl
@[simp] theorem ze_47 (glob : Nat → Option (List D)) : (mkCtx tab glob).zero 47 = [.v .nilFunc] := rfl
@[simp] theorem td_49 (glob : Nat → Option (List D)) : (mkCtx tab glob).td 49 = .func := rfl
@[simp] theorem sz_49 (glob : Nat → Option (List D)) : (mkCtx tab glob).sz 49 = 1 := rfl
@[simp] theorem ze_49 (glob : Nat → Option (List D)) : (mkCtx tab glob).zero 49 = [.v .nilFunc] := rfl
@[simp] theorem td_50 (glob : Nat → Option (List D)) : (mkCtx tab glob).td 50 = .func := rfl
@[simp] theorem sz_50 (glob : Nat → Option (List D)) : (mkCtx tab glob).sz 50 = 1 := rfl
@[simp] theorem ze_50 (glob : Nat → Option (List D)) : (mkCtx tab glob).zero 50 = [.v .nilFunc] := rfl
@[simp] theorem td_52 (glob : Nat → Option (List D)) : (mkCtx tab glob).td 52 = .func := rfl
@[simp] theorem sz_52 (glob : Nat → Option (List D)) : (mkCtx tab glob).sz 52 = 1 := rfl
@[simp] theorem ze_52 (glob : Nat → Option (List D)) : (mkCtx tab glob).zero 52 = [.v .nilFunc] := rfl
@[simp] theorem td_53 (glob : Nat → Option (List D)) : (mkCtx tab glob).td 53 = .func := rfl
@[simp] theorem sz_53 (glob : Nat → Option (List D)) : (mkCtx tab glob).sz 53 = 1 := rfl
@[simp] theorem ze_53 (glob : Nat → Option (List D)) : (mkCtx tab glob).zero 53 = [.v .nilFunc] := rfl
@[simp] theorem td_54 (glob : Nat → Option (List D)) : (mkCtx tab glob).td 54 = .slice 57 := rfl
@[simp] theorem sz_54 (glob : Nat → Option (List D)) : (mkCtx tab glob).sz 54 = 1 := rfl
@[simp] theorem ze_54 (glob : Nat → Option (List D)) : (mkCtx tab glob).zero 54 = [.sl 4 []] := rfl
@[simp] theorem td_55 (glob : Nat → Option (List D)) : (mkCtx tab glob).td 55 = .func := rfl
@[simp] theorem sz_55 (glob : Nat → Option (List D)) : (mkCtx tab glob).sz 55 = 1 := rfl
@[simp] theorem ze_55 (glob : Nat → Option (List D)) : (mkCtx tab glob).zero 55 = [.v .nilFunc] := rfl
@[simp] theorem td_56 (glob : Nat → Option (List D)) : (mkCtx tab glob).td 56 = .strct [(3, 0), (9, 1), (9, 2), (9, 3)] := rfl
@[simp] theorem sz_56 (glob : Nat → Option (List D)) : (mkCtx tab glob).sz 56 = 4 := rfl
@[simp] theorem eq_56 (glob : Nat → Option (List D)) : (mkCtx tab glob).eqt 56 = [] := rfl
@[simp] theorem ze_56 (glob : Nat → Option (List D)) : (mkCtx tab glob).zero 56 = [.v (.int .i64 0), .s [], .s [], .s []] := rfl
@[simp] theorem td_57 (glob : Nat → Option (List D)) : (mkCtx tab glob).td 57 = .strct [(3, 0), (9, 1), (9, 2), (9, 3)] := rfl
@[simp] theorem sz_57 (glob : Nat → Option (List D)) : (mkCtx tab glob).sz 57 = 4 := rfl
@[simp] theorem eq_57 (glob : Nat → Option (List D)) : (mkCtx tab glob).eqt 57 = [.i, .s, .s, .s] := rfl
@[simp] theorem ze_57 (glob : Nat → Option (List D)) : (mkCtx tab glob).zero 57 = [.v (.int .i64 0), .s [], .s [], .s []] := rfl
@[simp] theorem td_58 (glob : Nat → Option (List D)) : (mkCtx tab glob).td 58 = .func := rfl
@[simp] theorem sz_58 (glob : Nat → Option (List D)) : (mkCtx tab glob).sz 58 = 1 := rfl
@[simp] theorem ze_58 (glob : Nat → Option (List D)) : (mkCtx tab glob).zero 58 = [.v .nilFunc] := rfl
@[simp] theorem td_59 (glob : Nat → Option (List D)) : (mkCtx tab glob).td 59 = .func := rfl
@[simp] theorem sz_59 (glob : Nat → Option (List D)) : (mkCtx tab glob).sz 59 = 1 := rfl
@[simp] theorem ze_59 (glob : Nat → Option (List D)) : (mkCtx tab glob).zero 59 = [.v .nilFunc] := rfl
@[simp] theorem td_60 (glob : Nat → Option (List D)) : (mkCtx tab glob).td 60 = .func := rfl
@[simp] theorem sz_60 (glob : Nat → Option (List D)) : (mkCtx tab glob).sz 60 = 1 := rfl
@[simp] theorem ze_60 (glob : Nat → Option (List D)) : (mkCtx tab glob).zero 60 = [.v .nilFunc] := rfl
@[simp] theorem td_62 (glob : Nat → Option (List D)) : (mkCtx tab glob).td 62 = .func := rfl
@[simp] theorem sz_62 (glob : Nat → Option (List D)) : (mkCtx tab glob).sz 62 = 1 := rfl
@[simp] theorem ze_62 (glob : Nat → Option (List D)) : (mkCtx tab glob).zero 62 = [.v .nilFunc] := rfl
@[simp] theorem td_64 (glob : Nat → Option (List D)) : (mkCtx tab glob).td 64 = .func := rfl
@[simp] theorem sz_64 (glob : Nat → Option (List D)) : (mkCtx tab glob).sz 64 = 1 := rfl
@[simp] theorem ze_64 (glob : Nat → Option (List D)) : (mkCtx tab glob).zero 64 = [.v .nilFunc] := rfl
@[simp] theorem td_65 (glob : Nat → Option (List D)) : (mkCtx tab glob).td 65 = .func := rfl
@[simp] theorem sz_65 (glob : Nat → Option (List D)) : (mkCtx tab glob).sz 65 = 1 := rfl
@[simp] theorem ze_65 (glob : Nat → Option (List D)) : (mkCtx tab glob).zero 65 = [.v .nilFunc] := rfl
@[simp] theorem td_67 (glob : Nat → Option (List D)) : (mkCtx tab glob).td 67 = .func := rfl
@[simp] theorem sz_67 (glob : Nat → Option (List D)) : (mkCtx tab glob).sz 67 = 1 := rfl
@[simp] theorem ze_67 (glob : Nat → Option (List D)) : (mkCtx tab glob).zero 67 = [.v .nilFunc] := rfl
@[simp] theorem td_68 (glob : Nat → Option (List D)) : (mkCtx tab glob).td 68 = .func := rfl
@[simp] theorem sz_68 (glob : Nat → Option (List D)) : (mkCtx tab glob).sz 68 = 1 := rfl
@[simp] theorem ze_68 (glob : Nat → Option (List D)) : (mkCtx tab glob).zero 68 = [.v .nilFunc] := rfl
@[simp] theorem td_69 (glob : Nat → Option (List D)) : (mkCtx tab glob).td 69 = .func := rfl
@[simp] theorem sz_69 (glob : Nat → Option (List D)) : (mkCtx tab glob).sz 69 = 1 := rfl
@[simp] theorem ze_69 (glob : Nat → Option (List D)) : (mkCtx tab glob).zero 69 = [.v .nilFunc] := rfl
@[simp] theorem td_70 (glob : Nat → Option (List D)) : (mkCtx tab glob).td 70 = .func := rfl
@[simp] theorem sz_70 (glob : Nat → Option (List D)) : (mkCtx tab glob).sz 70 = 1 := rfl
@[simp] theorem ze_70 (glob : Nat → Option (List D)) : (mkCtx tab glob).zero 70 = [.v .nilFunc] := rfl
@[simp] theorem td_71 (glob : Nat → Option (List D)) : (mkCtx tab glob).td 71 = .func := rfl
@[simp] theorem sz_71 (glob : Nat → Option (List D)) : (mkCtx tab glob).sz 71 = 1 := rfl
@[simp] theorem ze_71 (glob : Nat → Option (List D)) : (mkCtx tab glob).zero 71 = [.v .nilFunc] := rfl
@[simp] theorem td_75 (glob : Nat → Option (List D)) : (mkCtx tab glob).td 75 = .func := rfl
@[simp] theorem sz_75 (glob : Nat → Option (List D)) : (mkCtx tab glob).sz 75 = 1 := rfl
@[simp] theorem ze_75 (glob : Nat → Option (List D)) : (mkCtx tab glob).zero 75 = [.v .nilFunc] := rfl
@[simp] theorem td_76 (glob : Nat → Option (List D)) : (mkCtx tab glob).td 76 = .func := rfl
@[simp] theorem sz_76 (glob : Nat → Option (List D)) : (mkCtx tab glob).sz 76 = 1 := rfl
@[simp] theorem ze_76 (glob : Nat → Option (List D)) : (mkCtx tab glob).zero 76 = [.v .nilFunc] := rfl
@[simp] theorem td_77 (glob : Nat → Option (List D)) : (mkCtx tab glob).td 77 = .ptr 73 := rfl
@[simp] theorem sz_77 (glob : Nat → Option (List D)) : (mkCtx tab glob).sz 77 = 1 := rfl
@[simp] theorem ze_77 (glob : Nat → Option (List D)) : (mkCtx tab glob).zero 77 = [.v (.pointer none)] := rfl
@[simp] theorem td_78 (glob : Nat → Option (List D)) : (mkCtx tab glob).td 78 = .ptr 80 := rfl
@[simp] theorem sz_78 (glob : Nat → Option (List D)) : (mkCtx tab glob).sz 78 = 1 := rfl
@[simp] theorem ze_78 (glob : Nat → Option (List D)) : (mkCtx tab glob).zero 78 = [.v (.pointer none)] := rfl
@[simp] theorem td_79 (glob : Nat → Option (List D)) : (mkCtx tab glob).td 79 = .strct [(9, 0), (3, 1), (25, 2)] := rfl
@[simp] theorem sz_79 (glob : Nat → Option (List D)) : (mkCtx tab glob).sz 79 = 3 := rfl
@[simp] theorem eq_79 (glob : Nat → Option (List D)) : (mkCtx tab glob).eqt 79 = [] := rfl
@[simp] theorem ze_79 (glob : Nat → Option (List D)) : (mkCtx tab glob).zero 79 = [.s [], .v (.int .i64 0), .v .nilIface] := rfl
@[simp] theorem td_80 (glob : Nat → Option (List D)) : (mkCtx tab glob).td 80 = .strct [(9, 0), (3, 1), (25, 2)] := rfl
@[simp] theorem sz_80 (glob : Nat → Option (List D)) : (mkCtx tab glob).sz 80 = 3 := rfl
@[simp] theorem eq_80 (glob : Nat → Option (List D)) : (mkCtx tab glob).eqt 80 = [] := rfl
@[simp] theorem ze_80 (glob : Nat → Option (List D)) : (mkCtx tab glob).zero 80 = [.s [], .v (.int .i64 0), .v .nilIface] := rfl
@[simp] theorem td_81 (glob : Nat → Option (List D)) : (mkCtx tab glob).td 81 = .func := rfl
@[simp] theorem sz_81 (glob : Nat → Option (List D)) : (mkCtx tab glob).sz 81 = 1 := rfl
@[simp] theorem ze_81 (glob : Nat → Option (List D)) : (mkCtx tab glob).zero 81 = [.v .nilFunc] := rfl
@[simp] theorem td_82 (glob : Nat → Option (List D)) : (mkCtx tab glob).td 82 = .func := rfl
@[simp] theorem sz_82 (glob : Nat → Option (List D)) : (mkCtx tab glob).sz 82 = 1 := rfl
@[simp] theorem ze_82 (glob : Nat → Option (List D)) : (mkCtx tab glob).zero 82 = [.v .nilFunc] := rfl
@[simp] theorem td_83 (glob : Nat → Option (List D)) : (mkCtx tab glob).td 83 = .func := rfl
@[simp] theorem sz_83 (glob : Nat → Option (List D)) : (mkCtx tab glob).sz 83 = 1 := rfl
@[simp] theorem ze_83 (glob : Nat → Option (List D)) : (mkCtx tab glob).zero 83 = [.v .nilFunc] := rfl
@[simp] theorem td_85 (glob : Nat → Option (List D)) : (mkCtx tab glob).td 85 = .func := rfl
@[simp] theorem sz_85 (glob : Nat → Option (List D)) : (mkCtx tab glob).sz 85 = 1 := rfl
@[simp] theorem ze_85 (glob : Nat → Option (List D)) : (mkCtx tab glob).zero 85 = [.v .nilFunc] := rfl
@[simp] theorem td_87 (glob : Nat → Option (List D)) : (mkCtx tab glob).td 87 = .func := rfl
@[simp] theorem sz_87 (glob : Nat → Option (List D)) : (mkCtx tab glob).sz 87 = 1 := rfl
@[simp] theorem ze_87 (glob : Nat → Option (List D)) : (mkCtx tab glob).zero 87 = [.v .nilFunc] := rfl
@[simp] theorem td_88 (glob : Nat → Option (List D)) : (mkCtx tab glob).td 88 = .func := rfl
@[simp] theorem sz_88 (glob : Nat → Option (List D)) : (mkCtx tab glob).sz 88 = 1 := rfl
@[simp] theorem ze_88 (glob : Nat → Option (List D)) : (mkCtx tab glob).zero 88 = [.v .nilFunc] := rfl
@[simp] theorem td_90 (glob : Nat → Option (List D)) : (mkCtx tab glob).td 90 = .func := rfl
@[simp] theorem sz_90 (glob : Nat → Option (List D)) : (mkCtx tab glob).sz 90 = 1 := rfl
@[simp] theorem ze_90 (glob : Nat → Option (List D)) : (mkCtx tab glob).zero 90 = [.v .nilFunc] := rfl
@[simp] theorem td_91 (glob : Nat → Option (List D)) : (mkCtx tab glob).td 91 = .func := rfl
@[simp] theorem sz_91 (glob : Nat → Option (List D)) : (mkCtx tab glob).sz 91 = 1 := rfl
@[simp] theorem ze_91 (glob : Nat → Option (List D)) : (mkCtx tab glob).zero 91 = [.v .nilFunc] := rfl
@[simp] theorem td_92 (glob : Nat → Option (List D)) : (mkCtx tab glob).td 92 = .func := rfl
@[simp] theorem sz_92 (glob : Nat → Option (List D)) : (mkCtx tab glob).sz 92 = 1 := rfl
@[simp] theorem ze_92 (glob : Nat → Option (List D)) : (mkCtx tab glob).zero 92 = [.v .nilFunc] := rfl
@[simp] theorem td_93 (glob : Nat → Option (List D)) : (mkCtx tab glob).td 93 = .func := rfl
@[simp] theorem sz_93 (glob : Nat → Option (List D)) : (mkCtx tab glob).sz 93 = 1 := rfl
@[simp] theorem ze_93 (glob : Nat → Option (List D)) : (mkCtx tab glob).zero 93 = [.v .nilFunc] := rfl
@[simp] theorem td_94 (glob : Nat → Option (List D)) : (mkCtx tab glob).td 94 = .func := rfl
@[simp] theorem sz_94 (glob : Nat → Option (List D)) : (mkCtx tab glob).sz 94 = 1 := rfl
@[simp] theorem ze_94 (glob : Nat → Option (List D)) : (mkCtx tab glob).zero 94 = [.v .nilFunc] := rfl
@[simp] theorem td_95 (glob : Nat → Option (List D)) : (mkCtx tab glob).td 95 = .func := rfl
@[simp] theorem sz_95 (glob : Nat → Option (List D)) : (mkCtx tab glob).sz 95 = 1 := rfl
@[simp] theorem ze_95 (glob : Nat → Option (List D)) : (mkCtx tab glob).zero 95 = [.v .nilFunc] := rfl
@[simp] theorem td_96 (glob : Nat → Option (List D)) : (mkCtx tab glob).td 96 = .func := rfl
@[simp] theorem sz_96 (glob : Nat → Option (List D)) : (mkCtx tab glob).sz 96 = 1 := rfl
@[simp] theorem ze_96 (glob : Nat → Option (List D)) : (mkCtx tab glob).zero 96 = [.v .nilFunc] := rfl
@[simp] theorem td_97 (glob : Nat → Option (List D)) : (mkCtx tab glob).td 97 = .func := rfl
@[simp] theorem sz_97 (glob : Nat → Option (List D)) : (mkCtx tab glob).sz 97 = 1 := rfl
@[simp] theorem ze_97 (glob : Nat → Option (List D)) : (mkCtx tab glob).zero 97 = [.v .nilFunc] := rfl
@[simp] theorem td_98 (glob : Nat → Option (List D)) : (mkCtx tab glob).td 98 = .func := rfl
@[simp] theorem sz_98 (glob : Nat → Option (List D)) : (mkCtx tab glob).sz 98 = 1 := rfl
@[simp] theorem ze_98 (glob : Nat → Option (List D)) : (mkCtx tab glob).zero 98 = [.v .nilFunc] := rfl
@[simp] theorem td_99 (glob : Nat → Option (List D)) : (mkCtx tab glob).td 99 = .func := rfl
@[simp] theorem sz_99 (glob : Nat → Option (List D)) : (mkCtx tab glob).sz 99 = 1 := rfl
@[simp] theorem ze_99 (glob : Nat → Option (List D)) : (mkCtx tab glob).zero 99 = [.v .nilFunc] := rfl
@[simp] theorem td_100 (glob : Nat → Option (List D)) : (mkCtx tab glob).td 100 = .int .u64 := rfl
@[simp] theorem sz_100 (glob : Nat → Option (List D)) : (mkCtx tab glob).sz 100 = 1 := rfl
@[simp] theorem ze_100 (glob : Nat → Option (List D)) : (mkCtx tab glob).zero 100 = [.v (.int .u64 0)] := rfl
@[simp] theorem td_102 (glob : Nat → Option (List D)) : (mkCtx tab glob).td 102 = .strct [(5, 0), (5, 1)] := rfl
@[simp] theorem sz_102 (glob : Nat → Option (List D)) : (mkCtx tab glob).sz 102 = 2 := rfl
@[simp] theorem eq_102 (glob : Nat → Option (List D)) : (mkCtx tab glob).eqt 102 = [] := rfl
@[simp] theorem ze_102 (glob : Nat → Option (List D)) : (mkCtx tab glob).zero 102 = [.v (.int .u8 0), .v (.int .u8 0)] := rfl
@[simp] theorem td_103 (glob : Nat → Option (List D)) : (mkCtx tab glob).td 103 = .strct [(5, 0), (5, 1)] := rfl
@[simp] theorem sz_103 (glob : Nat → Option (List D)) : (mkCtx tab glob).sz 103 = 2 := rfl
@[simp] theorem eq_103 (glob : Nat → Option (List D)) : (mkCtx tab glob).eqt 103 = [] := rfl
@[simp] theorem ze_103 (glob : Nat → Option (List D)) : (mkCtx tab glob).zero 103 = [.v (.int .u8 0), .v (.int .u8 0)] := rfl
@[simp] theorem td_104 (glob : Nat → Option (List D)) : (mkCtx tab glob).td 104 = .arr 16 103 := rfl
@[simp] theorem sz_104 (glob : Nat → Option (List D)) : (mkCtx tab glob).sz 104 = 32 := rfl
@[simp] theorem ze_104 (glob : Nat → Option (List D)) : (mkCtx tab glob).zero 104 = [.v (.int .u8 0), .v (.int .u8 0), .v (.int .u8 0), .v (.int .u8 0), .v (.int .u8 0), .v (.int .u8 0), .v (.int .u8 0), .v (.int .u8 0), .v (.int .u8 0), .v (.int .u8 0), .v (.int .u8 0), .v (.int .u8 0), .v (.int .u8 0), .v (.int .u8 0), .v (.int .u8 0), .v (.int .u8 0), .v (.int .u8 0), .v (.int .u8 0), .v (.int .u8 0), .v (.int .u8 0), .v (.int .u8 0), .v (.int .u8 0), .v (.int .u8 0), .v (.int .u8 0), .v (.int .u8 0), .v (.int .u8 0), .v (.int .u8 0), .v (.int .u8 0), .v (.int .u8 0), .v (.int .u8 0), .v (.int .u8 0), .v (.int .u8 0)] := rfl
@[simp] theorem td_105 (glob : Nat → Option (List D)) : (mkCtx tab glob).td 105 = .func := rfl
@[simp] theorem sz_105 (glob : Nat → Option (List D)) : (mkCtx tab glob).sz 105 = 1 := rfl
@[simp] theorem ze_105 (glob : Nat → Option (List D)) : (mkCtx tab glob).zero 105 = [.v .nilFunc] := rfl
@[simp] theorem td_106 (glob : Nat → Option (List D)) : (mkCtx tab glob).td 106 = .func := rfl
@[simp] theorem sz_106 (glob : Nat → Option (List D)) : (mkCtx tab glob).sz 106 = 1 := rfl
@[simp] theorem ze_106 (glob : Nat → Option (List D)) : (mkCtx tab glob).zero 106 = [.v .nilFunc] := rfl
@[simp] theorem td_107 (glob : Nat → Option (List D)) : (mkCtx tab glob).td 107 = .int .u32 := rfl
@[simp] theorem sz_107 (glob : Nat → Option (List D)) : (mkCtx tab glob).sz 107 = 1 := rfl
@[simp] theorem ze_107 (glob : Nat → Option (List D)) : (mkCtx tab glob).zero 107 = [.v (.int .u32 0)] := rfl
@[simp] theorem td_109 (glob : Nat → Option (List D)) : (mkCtx tab glob).td 109 = .func := rfl
@[simp] theorem sz_109 (glob : Nat → Option (List D)) : (mkCtx tab glob).sz 109 = 1 := rfl
@[simp] theorem ze_109 (glob : Nat → Option (List D)) : (mkCtx tab glob).zero 109 = [.v .nilFunc] := rfl
@[simp] theorem td_110 (glob : Nat → Option (List D)) : (mkCtx tab glob).td 110 = .ptr 113 := rfl
@[simp] theorem sz_110 (glob : Nat → Option (List D)) : (mkCtx tab glob).sz 110 = 1 := rfl
@[simp] theorem ze_110 (glob : Nat → Option (List D)) : (mkCtx tab glob).zero 110 = [.v (.pointer none)] := rfl
@[simp] theorem td_111 (glob : Nat → Option (List D)) : (mkCtx tab glob).td 111 = .slice 5 := rfl
@[simp] theorem sz_111 (glob : Nat → Option (List D)) : (mkCtx tab glob).sz 111 = 1 := rfl
@[simp] theorem ze_111 (glob : Nat → Option (List D)) : (mkCtx tab glob).zero 111 = [.sl 1 []] := rfl
@[simp] theorem td_112 (glob : Nat → Option (List D)) : (mkCtx tab glob).td 112 = .strct [(110, 0), (111, 1)] := rfl
@[simp] theorem sz_112 (glob : Nat → Option (List D)) : (mkCtx tab glob).sz 112 = 2 := rfl
@[simp] theorem eq_112 (glob : Nat → Option (List D)) : (mkCtx tab glob).eqt 112 = [] := rfl
@[simp] theorem ze_112 (glob : Nat → Option (List D)) : (mkCtx tab glob).zero 112 = [.v (.pointer none), .sl 1 []] := rfl
@[simp] theorem td_113 (glob : Nat → Option (List D)) : (mkCtx tab glob).td 113 = .strct [(110, 0), (111, 1)] := rfl
@[simp] theorem sz_113 (glob : Nat → Option (List D)) : (mkCtx tab glob).sz 113 = 2 := rfl
@[simp] theorem eq_113 (glob : Nat → Option (List D)) : (mkCtx tab glob).eqt 113 = [] := rfl
@[simp] theorem ze_113 (glob : Nat → Option (List D)) : (mkCtx tab glob).zero 113 = [.v (.pointer none), .sl 1 []] := rfl
@[simp] theorem td_114 (glob : Nat → Option (List D)) : (mkCtx tab glob).td 114 = .func := rfl
@[simp] theorem sz_114 (glob : Nat → Option (List D)) : (mkCtx tab glob).sz 114 = 1 := rfl
@[simp] theorem ze_114 (glob : Nat → Option (List D)) : (mkCtx tab glob).zero 114 = [.v .nilFunc] := rfl
@[simp] theorem td_116 (glob : Nat → Option (List D)) : (mkCtx tab glob).td 116 = .func := rfl
@[simp] theorem sz_116 (glob : Nat → Option (List D)) : (mkCtx tab glob).sz 116 = 1 := rfl
@[simp] theorem ze_116 (glob : Nat → Option (List D)) : (mkCtx tab glob).zero 116 = [.v .nilFunc] := rfl
@[simp] theorem td_117 (glob : Nat → Option (List D)) : (mkCtx tab glob).td 117 = .ptr 5 := rfl
@[simp] theorem sz_117 (glob : Nat → Option (List D)) : (mkCtx tab glob).sz 117 = 1 := rfl
@[simp] theorem ze_117 (glob : Nat → Option (List D)) : (mkCtx tab glob).zero 117 = [.v (.pointer none)] := rfl
@[simp] theorem td_119 (glob : Nat → Option (List D)) : (mkCtx tab glob).td 119 = .func := rfl
@[simp] theorem sz_119 (glob : Nat → Option (List D)) : (mkCtx tab glob).sz 119 = 1 := rfl
@[simp] theorem ze_119 (glob : Nat → Option (List D)) : (mkCtx tab glob).zero 119 = [.v .nilFunc] := rfl
@[simp] theorem td_120 (glob : Nat → Option (List D)) : (mkCtx tab glob).td 120 = .func := rfl
@[simp] theorem sz_120 (glob : Nat → Option (List D)) : (mkCtx tab glob).sz 120 = 1 := rfl
@[simp] theorem ze_120 (glob : Nat → Option (List D)) : (mkCtx tab glob).zero 120 = [.v .nilFunc] := rfl
@[simp] theorem td_121 (glob : Nat → Option (List D)) : (mkCtx tab glob).td 121 = .ptr 137 := rfl
@[simp] theorem sz_121 (glob : Nat → Option (List D)) : (mkCtx tab glob).sz 121 = 1 := rfl
@[simp] theorem ze_121 (glob : Nat → Option (List D)) : (mkCtx tab glob).zero 121 = [.v (.pointer none)] := rfl
@[simp] theorem td_122 (glob : Nat → Option (List D)) : (mkCtx tab glob).td 122 = .strct [(17, 0), (17, 1), (17, 2), (9, 3)] := rfl
@[simp] theorem sz_122 (glob : Nat → Option (List D)) : (mkCtx tab glob).sz 122 = 4 := rfl
@[simp] theorem eq_122 (glob : Nat → Option (List D)) : (mkCtx tab glob).eqt 122 = [] := rfl
@[simp] theorem ze_122 (glob : Nat → Option (List D)) : (mkCtx tab glob).zero 122 = [.v (.pointer none), .v (.pointer none), .v (.pointer none), .s []] := rfl
@[simp] theorem td_123 (glob : Nat → Option (List D)) : (mkCtx tab glob).td 123 = .strct [(17, 0), (17, 1), (17, 2), (9, 3)] := rfl
@[simp] theorem sz_123 (glob : Nat → Option (List D)) : (mkCtx tab glob).sz 123 = 4 := rfl
@[simp] theorem eq_123 (glob : Nat → Option (List D)) : (mkCtx tab glob).eqt 123 = [] := rfl
@[simp] theorem ze_123 (glob : Nat → Option (List D)) : (mkCtx tab glob).zero 123 = [.v (.pointer none), .v (.pointer none), .v (.pointer none), .s []] := rfl
@[simp] theorem td_124 (glob : Nat → Option (List D)) : (mkCtx tab glob).td 124 = .arr 0 16 := rfl
@[simp] theorem sz_124 (glob : Nat → Option (List D)) : (mkCtx tab glob).sz 124 = 0 := rfl
@[simp] theorem ze_124 (glob : Nat → Option (List D)) : (mkCtx tab glob).zero 124 = [] := rfl
@[simp] theorem td_127 (glob : Nat → Option (List D)) : (mkCtx tab glob).td 127 = .func := rfl
@[simp] theorem sz_127 (glob : Nat → Option (List D)) : (mkCtx tab glob).sz 127 = 1 := rfl
@[simp] theorem ze_127 (glob : Nat → Option (List D)) : (mkCtx tab glob).zero 127 = [.v .nilFunc] := rfl
@[simp] theorem td_128 (glob : Nat → Option (List D)) : (mkCtx tab glob).td 128 = .int .u8 := rfl
@[simp] theorem sz_128 (glob : Nat → Option (List D)) : (mkCtx tab glob).sz 128 = 1 := rfl
@[simp] theorem ze_128 (glob : Nat → Option (List D)) : (mkCtx tab glob).zero 128 = [.v (.int .u8 0)] := rfl
@[simp] theorem td_129 (glob : Nat → Option (List D)) : (mkCtx tab glob).td 129 = .int .u8 := rfl
@[simp] theorem sz_129 (glob : Nat → Option (List D)) : (mkCtx tab glob).sz 129 = 1 := rfl
@[simp] theorem ze_129 (glob : Nat → Option (List D)) : (mkCtx tab glob).zero 129 = [.v (.int .u8 0)] := rfl
@[simp] theorem td_130 (glob : Nat → Option (List D)) : (mkCtx tab glob).td 130 = .func := rfl
@[simp] theorem sz_130 (glob : Nat → Option (List D)) : (mkCtx tab glob).sz 130 = 1 := rfl
@[simp] theorem ze_130 (glob : Nat → Option (List D)) : (mkCtx tab glob).zero 130 = [.v .nilFunc] := rfl
@[simp] theorem td_131 (glob : Nat → Option (List D)) : (mkCtx tab glob).td 131 = .int .i32 := rfl
@[simp] theorem sz_131 (glob : Nat → Option (List D)) : (mkCtx tab glob).sz 131 = 1 := rfl
@[simp] theorem ze_131 (glob : Nat → Option (List D)) : (mkCtx tab glob).zero 131 = [.v (.int .i32 0)] := rfl
@[simp] theorem td_132 (glob : Nat → Option (List D)) : (mkCtx tab glob).td 132 = .int .i32 := rfl
@[simp] theorem sz_132 (glob : Nat → Option (List D)) : (mkCtx tab glob).sz 132 = 1 := rfl
@[simp] theorem ze_132 (glob : Nat → Option (List D)) : (mkCtx tab glob).zero 132 = [.v (.int .i32 0)] := rfl
@[simp] theorem td_133 (glob : Nat → Option (List D)) : (mkCtx tab glob).td 133 = .strct [(12, 0), (12, 1), (107, 2), (128, 3), (5, 4), (5, 5), (129, 6), (130, 7), (117, 8), (131, 9), (132, 10)] := rfl
@[simp] theorem sz_133 (glob : Nat → Option (List D)) : (mkCtx tab glob).sz 133 = 11 := rfl
@[simp] theorem eq_133 (glob : Nat → Option (List D)) : (mkCtx tab glob).eqt 133 = [] := rfl
@[simp] theorem ze_133 (glob : Nat → Option (List D)) : (mkCtx tab glob).zero 133 = [.v (.int .u64 0), .v (.int .u64 0), .v (.int .u32 0), .v (.int .u8 0), .v (.int .u8 0), .v (.int .u8 0), .v (.int .u8 0), .v .nilFunc, .v (.pointer none), .v (.int .i32 0), .v (.int .i32 0)] := rfl
@[simp] theorem td_134 (glob : Nat → Option (List D)) : (mkCtx tab glob).td 134 = .strct [(12, 0), (12, 1), (107, 2), (128, 3), (5, 4), (5, 5), (129, 6), (130, 7), (117, 8), (131, 9), (132, 10)] := rfl
@[simp] theorem sz_134 (glob : Nat → Option (List D)) : (mkCtx tab glob).sz 134 = 11 := rfl
@[simp] theorem eq_134 (glob : Nat → Option (List D)) : (mkCtx tab glob).eqt 134 = [] := rfl
@[simp] theorem ze_134 (glob : Nat → Option (List D)) : (mkCtx tab glob).zero 134 = [.v (.int .u64 0), .v (.int .u64 0), .v (.int .u32 0), .v (.int .u8 0), .v (.int .u8 0), .v (.int .u8 0), .v (.int .u8 0), .v .nilFunc, .v (.pointer none), .v (.int .i32 0), .v (.int .i32 0)] := rfl
@[simp] theorem td_135 (glob : Nat → Option (List D)) : (mkCtx tab glob).td 135 = .func := rfl
@[simp] theorem sz_135 (glob : Nat → Option (List D)) : (mkCtx tab glob).sz 135 = 1 := rfl
@[simp] theorem ze_135 (glob : Nat → Option (List D)) : (mkCtx tab glob).zero 135 = [.v .nilFunc] := rfl
@[simp] theorem td_136 (glob : Nat → Option (List D)) : (mkCtx tab glob).td 136 = .strct [(9, 0)] := rfl
@[simp] theorem sz_136 (glob : Nat → Option (List D)) : (mkCtx tab glob).sz 136 = 1 := rfl
@[simp] theorem eq_136 (glob : Nat → Option (List D)) : (mkCtx tab glob).eqt 136 = [] := rfl
@[simp] theorem ze_136 (glob : Nat → Option (List D)) : (mkCtx tab glob).zero 136 = [.s []] := rfl
@[simp] theorem td_137 (glob : Nat → Option (List D)) : (mkCtx tab glob).td 137 = .strct [(9, 0)] := rfl
@[simp] theorem sz_137 (glob : Nat → Option (List D)) : (mkCtx tab glob).sz 137 = 1 := rfl
@[simp] theorem eq_137 (glob : Nat → Option (List D)) : (mkCtx tab glob).eqt 137 = [] := rfl
@[simp] theorem ze_137 (glob : Nat → Option (List D)) : (mkCtx tab glob).zero 137 = [.s []] := rfl
@[simp] theorem td_138 (glob : Nat → Option (List D)) : (mkCtx tab glob).td 138 = .func := rfl
@[simp] theorem sz_138 (glob : Nat → Option (List D)) : (mkCtx tab glob).sz 138 = 1 := rfl
@[simp] theorem ze_138 (glob : Nat → Option (List D)) : (mkCtx tab glob).zero 138 = [.v .nilFunc] := rfl
@[simp] theorem cm_121 (glob : Nat → Option (List D)) : (mkCtx tab glob).cmp 121 = true := rfl
@[simp] theorem gl_any (glob : Nat → Option (List D)) (g : Nat) : (mkCtx tab glob).glob g = glob g := rfl

end Go.Ab
