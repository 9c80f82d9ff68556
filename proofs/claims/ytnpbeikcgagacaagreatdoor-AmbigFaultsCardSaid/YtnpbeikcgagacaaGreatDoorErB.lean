/- One text of a proof that a law of this seat says true for every input: errors and what they wrap. It holds of the given program under the conditions that the row prints. -/
import Derived.Test.YtnpbeikcgagacaaGreatDoorAbSimp
import Derived.WalkKit
import Derived.LaidEql
import Derived.Stop.Asserts
import Derived.RowKitTokens
import Derived.Test.YtnpbeikcgagacaaGreatDoorErA
import Derived.Below
set_option linter.unusedSimpArgs false
set_option linter.unusedVariables false
set_option linter.unusedSectionVars false
set_option maxRecDepth 100000
namespace Go.Ab
open Go.Proofs Go.RowKit Go.Extern.Stop Go.Stop Go.Extern

/-- errors.As(nil, target). -/
theorem as_nil (t : Value) (w : World) :
    Calls Tryz.prog 13 #[.nilIface, t] w fun e w' => e = .returned (.bool false) ∧ w' = w := by
  go_enter Tryz.func13, Tryz.ntmps13
  go_wp2
  go_ret
  exact ⟨rfl, rfl⟩

/-! ### CLOSED FACTS ON THE MODEL's ENTRIES FOR internal/reflectlite, at this program's types: 25: *p.E · 27: **p.E · 23: error · 45: reflectlite's rtype · 1: how many package-level variables the dump has -/
theorem wh_methodKind (h : Value) (w : World) : (Go.method 405 137 (.agg #[h]) "Kind").run Tryz.prog w = .ok (205, h) w := by kernel_rfl
/-! ### THE ENTRIES THAT READ OR WRITE MEMORY: laws with a premise on the cell (after Derived/Lib/ReflectliteSlice.lean's manner: each unfolding a lemma of its own, by rfl) -/
theorem rlm (z : Sem Value) (f : TypeId → Addr → Nat → Nat → Sem Value) (v : Value) :
    ReflectliteValue.method z f #[v] = (do match ← ReflectliteValue.parts v with | none => z | some (t, a, fl) => f t a fl (fl % 32)) := rfl
theorem wh_methodElem (h : Value) (w : World) : (Go.method 405 137 (.agg #[h]) "Elem").run Tryz.prog w = .ok (217, .agg #[h]) w := by kernel_rfl
theorem wh_methodImplements (h : Value) (w : World) : (Go.method 405 137 (.agg #[h]) "Implements").run Tryz.prog w = .ok (218, .agg #[h]) w := by kernel_rfl
theorem wh_methodAssignableTo (h : Value) (w : World) : (Go.method 405 137 (.agg #[h]) "AssignableTo").run Tryz.prog w = .ok (215, .agg #[h]) w := by kernel_rfl
theorem rls (v x : Value) : ReflectliteValue.set #[v, x] = (do
    let (some (dst, a, fl), some (src, b, _)) := (← ReflectliteValue.parts v, ← ReflectliteValue.parts x)
      | unsupported (.noEntry "extern/(internal/reflectlite.Value).Set.zeroValue")
    if fl / ReflectliteValue.flagAddr % 2 == 0 then unsupported (.noEntry "extern/(internal/reflectlite.Value).Set.unaddressable")
    let val ← loadVar src b
    if ← Rtype.directlyAssignable dst src then storeVar dst a val
    else if ← Rtype.implements dst src then
      if (← Rtype.kind src) == 20 then
        match val with
        | .nilIface => unsupported (.noEntry "extern/reflectlite: a nil value of one interface type handed on as a value of another")
        | _ => storeVar dst a val
      else storeVar dst a (.iface src val)
    else panicString ("reflectlite.Set: value of type " ++ (← Rtype.spelt src) ++ " is not assignable to type " ++ (← Rtype.spelt dst))
    pure (.tuple #[])) := rfl
end Go.Ab

set_option maxRecDepth 100000
namespace Go.Ab
open Go.Proofs Go.RowKit Go.Extern.Stop Go.Stop Go.Extern

theorem wh_typeOf228 (v : Value) (w : World) : (ReflectliteType.typeOf #[.iface 273 v]).run Tryz.prog w = .ok (.iface 137 (.agg #[.pointer (some ⟨21, 273, none⟩)])) w := by kernel_rfl
theorem wh_noAs (v : Value) (xT : TypeId) (w : World) : (Instr.typeAssert (.iface 273 v) xT 141 true).run Tryz.prog w = .ok (.tuple #[.nilIface, .bool false]) w := run_typeAssert_lacksB Tryz.underlying141 (by kernel_rfl) (by kernel_rfl) v xT w
theorem wh_noUnwrap (v : Value) (xT : TypeId) (w : World) : (Instr.typeAssert (.iface 273 v) xT 144 true).run Tryz.prog w = .ok (.tuple #[.nilIface, .bool false]) w := run_typeAssert_lacksB Tryz.underlying144 (by kernel_rfl) (by kernel_rfl) v xT w
theorem wh_noUnwraps (v : Value) (xT : TypeId) (w : World) : (Instr.typeAssert (.iface 273 v) xT 145 true).run Tryz.prog w = .ok (.tuple #[.nilIface, .bool false]) w := run_typeAssert_lacksB Tryz.underlying145 (by kernel_rfl) (by kernel_rfl) v xT w
end Go.Ab

set_option maxRecDepth 100000
namespace Go.Ab
open Go.Proofs Go.RowKit Go.Extern.Stop Go.Stop Go.Extern
variable {glob : Nat → Option (List D)} {p : Nat → Addr} {o : Nat → Obj}

/-- The variable in which package errors keeps the handle of the type error. -/
abbrev errTypeV : Value := .iface 137 (.agg #[.pointer (some ⟨21, 30, none⟩)])
/-- lines.Where -/
def whereE : Er → Int × Bool
  | .fault n _ => (n, true)
  | _ => (0, false)
/-- A fault of lines, or an error of the document's. -/
def flatF : Er → Bool
  | .none => true
  | .sent _ => true
  | .fault _ _ => true
  | _ => false
noncomputable def F45 (p : Nat → Addr) (o : Nat → Obj) : List D → Option (List D) := liftG (fun e : Er => e.good = true ∧ flatF e = true) (fun e => [encE p o e]) fun e => some [.v (.int .i64 (whereE e).1), .v (.bool (whereE e).2)]
theorem F45_eq (hs : Sents glob p o) (e : Er) (he : e.good = true) (hf : flatF e = true) : F45 p o [encE p o e] = some [.v (.int .i64 (whereE e).1), .v (.bool (whereE e).2)] :=
  liftG_enc (good := fun e : Er => e.good = true ∧ flatF e = true) (enc := fun e => [encE p o e]) (f := fun e => some [.v (.int .i64 (whereE e).1), .v (.bool (whereE e).2)]) (fun a b ha hb h => by
    simp only [List.cons.injEq, and_true] at h
    rw [encE_inj hs.inj a b ha.1 hb.1 h]) e ⟨he, hf⟩
end Go.Ab
