/- One text of a proof that a law of this seat says true for every input: errors and what they wrap. It holds of the given program under the conditions that the row prints. -/
import Derived.Test.YtnpbeikcgagacaaGreatDoorAbSimp
import Derived.WalkKit
import Derived.LaidEql
import Derived.Stop.Asserts
import Derived.RowKitTokens
import Derived.Test.YtnpbeikcgagacaaGreatDoorErA
import Derived.Below
import Derived.OwnWalk
import Derived.RegionTactic
set_option linter.unusedSimpArgs false
set_option linter.unusedVariables false
set_option linter.unusedSectionVars false
set_option maxRecDepth 100000
namespace Go.Ab
namespace Ac
open Go.Proofs Go.RowKit Go.Extern.Stop Go.Stop Go.Extern

/-- errors.As(nil, target). -/
theorem as_nil (t : Value) (w : World) :
    Calls Tryz.prog 13 #[.nilIface, t] w fun e w' => e = .returned (.bool false) ∧ w' = w := by
  go_enter Tryz.func13, Tryz.ntmps13
  go_wp2
  go_ret
  exact ⟨rfl, rfl⟩

/-! ### CLOSED FACTS ON THE MODEL's ENTRIES FOR internal/reflectlite, at this program's types: 25: *p.E · 27: **p.E · 23: error · 45: reflectlite's rtype · 1: how many package-level variables the dump has -/
theorem wh_valueOf27 (t : Addr) (w : World) : (ReflectliteValue.unpack (.iface 57 (.pointer (some t)))).run Tryz.prog w
    = .ok (.agg #[.pointer (some ⟨21, 57, none⟩), .pointer (some ⟨w.heap.size, 0, none⟩), .int .u64 150]) (w.alloc (.cells #[.pointer (some t)] 57)) := by kernel_rfl
theorem wh_type27 (a : Addr) (w : World) : (ReflectliteValue.methodAny (ReflectliteValue.valueError "reflectlite.Value.Type" 0) (fun t _ _ _ => ReflectliteType.toType t) #[.agg #[.pointer (some ⟨21, 57, none⟩), .pointer (some a), .int .u64 150]]).run Tryz.prog w
    = .ok (.iface 137 (.agg #[.pointer (some ⟨21, 57, none⟩)])) w := by kernel_rfl
theorem wh_methodKind (h : Value) (w : World) : (Go.method 405 137 (.agg #[h]) "Kind").run Tryz.prog w = .ok (205, h) w := by kernel_rfl
theorem wh_kind27 (w : World) : ((ReflectliteType.abiMethod fun t => (fun a : Nat => Value.int IntKind.u8 (a : Int)) <$> Rtype.kind t) #[.pointer (some ⟨21, 57, none⟩)]).run Tryz.prog w = .ok (.int .u8 22) w := by kernel_rfl
theorem wh_kind25 (w : World) : ((ReflectliteType.abiMethod fun t => (fun a : Nat => Value.int IntKind.u8 (a : Int)) <$> Rtype.kind t) #[.pointer (some ⟨21, 23, none⟩)]).run Tryz.prog w = .ok (.int .u8 22) w := by kernel_rfl

/-! ### THE ENTRIES THAT READ OR WRITE MEMORY: laws with a premise on the cell (after Derived/Lib/ReflectliteSlice.lean's manner: each unfolding a lemma of its own, by rfl) -/
theorem rlm (z : Sem Value) (f : TypeId → Addr → Nat → Nat → Sem Value) (v : Value) :
    ReflectliteValue.method z f #[v] = (do match ← ReflectliteValue.parts v with | none => z | some (t, a, fl) => f t a fl (fl % 32)) := rfl
theorem wh_parts27 (a : Addr) (w : World) : (ReflectliteValue.parts (.agg #[.pointer (some ⟨21, 57, none⟩), .pointer (some a), .int .u64 150])).run Tryz.prog w = .ok (some (57, a, 150)) w := by kernel_rfl
/-- (Value).IsNil at the Value of a **p.E that is not nil. -/
theorem wh_isNil27 (a p : Addr) (W : World) (ha : W.cell? a = some (.pointer (some p))) :
    (ReflectliteValue.method (ReflectliteValue.valueError "reflectlite.Value.IsNil" 0) ReflectliteValue.isNil #[.agg #[.pointer (some ⟨21, 57, none⟩), .pointer (some a), .int .u64 150]]).run Tryz.prog W = .ok (.bool false) W := by
  rw [rlm]
  simp only [Sem.run_bind, wh_parts27, Result.andThen]
  simp [ReflectliteValue.isNil, loadVar, isAgg, underlying, Tryz.underlying57, ha, Result.andThen]

theorem wh_methodElem (h : Value) (w : World) : (Go.method 405 137 (.agg #[h]) "Elem").run Tryz.prog w = .ok (217, .agg #[h]) w := by kernel_rfl
theorem wh_methodImplements (h : Value) (w : World) : (Go.method 405 137 (.agg #[h]) "Implements").run Tryz.prog w = .ok (218, .agg #[h]) w := by kernel_rfl
theorem wh_methodAssignableTo (h : Value) (w : World) : (Go.method 405 137 (.agg #[h]) "AssignableTo").run Tryz.prog w = .ok (215, .agg #[h]) w := by kernel_rfl
theorem wh_elem27 (w : World) : (ReflectliteType.method ReflectliteType.elem #[.agg #[.pointer (some ⟨21, 57, none⟩)]]).run Tryz.prog w = .ok (.iface 137 (.agg #[.pointer (some ⟨21, 23, none⟩)])) w := by kernel_rfl
theorem wh_implements25 (w : World) : (ReflectliteType.relation "Implements" ReflectliteType.implements_ #[.agg #[.pointer (some ⟨21, 23, none⟩)], .iface 137 (.agg #[.pointer (some ⟨21, 30, none⟩)])]).run Tryz.prog w = .ok (.bool true) w := by kernel_rfl
theorem wh_typeOf25 (v : Value) (w : World) : (ReflectliteType.typeOf #[.iface 23 v]).run Tryz.prog w = .ok (.iface 137 (.agg #[.pointer (some ⟨21, 23, none⟩)])) w := by kernel_rfl
theorem wh_assignable25 (w : World) : (ReflectliteType.relation "AssignableTo" ReflectliteType.assignableTo #[.agg #[.pointer (some ⟨21, 23, none⟩)], .iface 137 (.agg #[.pointer (some ⟨21, 23, none⟩)])]).run Tryz.prog w = .ok (.bool true) w := by kernel_rfl
theorem wh_valueOf25 (e : Addr) (w : World) : (ReflectliteValue.unpack (.iface 23 (.pointer (some e)))).run Tryz.prog w
    = .ok (.agg #[.pointer (some ⟨21, 23, none⟩), .pointer (some ⟨w.heap.size, 0, none⟩), .int .u64 150]) (w.alloc (.cells #[.pointer (some e)] 23)) := by kernel_rfl

theorem wh_elemOf27 (w : World) : (Rtype.elem? 57).run Tryz.prog w = .ok (some 23) w := by kernel_rfl
theorem wh_mk25 (p : Addr) (w : World) : (ReflectliteValue.mk 23 p ReflectliteValue.flagAddr).run Tryz.prog w = .ok (.agg #[.pointer (some ⟨21, 23, none⟩), .pointer (some p), .int .u64 406]) w := by kernel_rfl
/-- (Value).Elem at the Value of a **p.E that is not nil: the Value of the *p.E variable that it points to, addressable. -/
theorem wh_elemV27 (a p : Addr) (W : World) (ha : W.cell? a = some (.pointer (some p))) :
    (ReflectliteValue.method (ReflectliteValue.valueError "reflectlite.Value.Elem" 0) ReflectliteValue.elem #[.agg #[.pointer (some ⟨21, 57, none⟩), .pointer (some a), .int .u64 150]]).run Tryz.prog W
      = .ok (.agg #[.pointer (some ⟨21, 23, none⟩), .pointer (some p), .int .u64 406]) W := by
  rw [rlm]
  simp only [Sem.run_bind, wh_parts27, Result.andThen]
  simp [ReflectliteValue.elem, loadVar, isAgg, underlying, Tryz.underlying57, ha, Result.andThen, wh_elemOf27, wh_mk25]
theorem rls (v x : Value) : ReflectliteValue.set #[v, x] = (do
    let (some (dst, a, fl), some (src, b, _)) := (← ReflectliteValue.parts v, ← ReflectliteValue.parts x)
      | unsupported (.noEntry "extern/(internal/reflectlite.Value).Set.zeroValue")
    if fl / ReflectliteValue.flagAddr % 2 == 0 then unsupported (.noEntry "extern/(internal/reflectlite.Value).Set.unaddressable")
    let val ← loadVar src b
    if ← Rtype.directlyAssignable dst src then storeVar dst a val
    else if ← Rtype.implements dst src then
      if (← Rtype.kind src) == 20 then
        match val with
        | .nilIface => unsupported (.noEntry "extern/reflectlite: a nil value of one interface type handed on as a value of another")
        | _ => storeVar dst a val
      else storeVar dst a (.iface src val)
    else panicString ("reflectlite.Set: value of type " ++ (← Rtype.spelt src) ++ " is not assignable to type " ++ (← Rtype.spelt dst))
    pure (.tuple #[])) := rfl
theorem wh_parts25a (a : Addr) (w : World) : (ReflectliteValue.parts (.agg #[.pointer (some ⟨21, 23, none⟩), .pointer (some a), .int .u64 406])).run Tryz.prog w = .ok (some (23, a, 406)) w := by kernel_rfl
theorem wh_parts25 (a : Addr) (w : World) : (ReflectliteValue.parts (.agg #[.pointer (some ⟨21, 23, none⟩), .pointer (some a), .int .u64 150])).run Tryz.prog w = .ok (some (23, a, 150)) w := by kernel_rfl
theorem wh_direct25 (w : World) : (Rtype.directlyAssignable 23 23).run Tryz.prog w = .ok true w := by kernel_rfl
theorem wh_size25 (w : World) : (sizeOf 23).run Tryz.prog w = .ok 1 w := by kernel_rfl
/-- (Value).Set: the *p.E variable at 'ta' gets what the Value's own variable 'b' holds. -/
theorem wh_set25 (ta b e : Addr) (old : Value) (W : World) (hb : W.cell? b = some (.pointer (some e))) (ht : W.cell? ta = some old) (hf : W.frozen? ta = false) :
    (ReflectliteValue.set #[.agg #[.pointer (some ⟨21, 23, none⟩), .pointer (some ta), .int .u64 406], .agg #[.pointer (some ⟨21, 23, none⟩), .pointer (some b), .int .u64 150]]).run Tryz.prog W
      = .ok (.tuple #[]) (W.setCell ta (.pointer (some e))) := by
  rw [rls]
  simp only [Sem.run_bind, wh_parts25a, wh_parts25, Result.andThen]
  simp [ReflectliteValue.flagAddr, loadVar, isAgg, underlying, Tryz.underlying23, hb, Result.andThen, wh_direct25, storeVar, Value.cells, storeCells, Addr.add]
  rw [run_store Tryz.prog W ta _ _ (by rfl)]
  simp [ht, hf]

set_option maxHeartbeats 4000000 in
theorem as_hit (e t : Addr) (old : Value) (w : World) (hg : w.cell? ⟨2, 0, none⟩ = some (.iface 137 (.agg #[.pointer (some ⟨21, 30, none⟩)]))) (ht0 : w.cell? t = some old) (hf0 : w.frozen? t = false) :
    Calls Tryz.prog 13 #[.iface 23 (.pointer (some e)), .iface 57 (.pointer (some t))] w fun ev w' => ev = .returned (.bool true) ∧ w' = ((((w.alloc (.cells #[.pointer (some t)] 57)).alloc (.cells #[.pointer (some ⟨21, 57, none⟩), .pointer (some ⟨w.heap.size, 0, none⟩), .int .u64 150] 89)).alloc (.cells #[.pointer (some ⟨21, 57, none⟩), .pointer (some ⟨w.heap.size, 0, none⟩), .int .u64 150] 89)).alloc (.cells #[.pointer (some e)] 23)).setCell t (.pointer (some e)) := by
  have h6 := @run_callFunc_extern Tryz.prog 30 _ (fun args => ReflectliteValue.unpack (args.getD 0 (.tuple #[]))) Tryz.func30 (by kernel_rfl) (by kernel_rfl) (by kernel_rfl) (by kernel_rfl)
  have h7 := @run_callFunc_extern Tryz.prog 31 _ (ReflectliteValue.methodAny (ReflectliteValue.valueError "reflectlite.Value.Type" 0) (fun t _ _ _ => ReflectliteType.toType t)) Tryz.func31 (by kernel_rfl) (by kernel_rfl) (by kernel_rfl) (by kernel_rfl)
  have h8 := @run_callFunc_extern Tryz.prog 32 _ (ReflectliteValue.method (ReflectliteValue.valueError "reflectlite.Value.IsNil" 0) ReflectliteValue.isNil) Tryz.func32 (by kernel_rfl) (by kernel_rfl) (by kernel_rfl) (by kernel_rfl)
  have h27 := @run_callFunc_extern Tryz.prog 205 _ (ReflectliteType.abiMethod fun t => do pure (.int .u8 (← Rtype.kind t))) Tryz.func205 (by kernel_rfl) (by kernel_rfl) (by kernel_rfl) (by kernel_rfl)
  have h37 := @run_callFunc_extern Tryz.prog 217 _ (ReflectliteType.method ReflectliteType.elem) Tryz.func217 (by kernel_rfl) (by kernel_rfl) (by kernel_rfl) (by kernel_rfl)
  have h38 := @run_callFunc_extern Tryz.prog 218 _ (ReflectliteType.relation "Implements" ReflectliteType.implements_) Tryz.func218 (by kernel_rfl) (by kernel_rfl) (by kernel_rfl) (by kernel_rfl)
  have h10 := @run_callFunc_extern Tryz.prog 34 _ ReflectliteType.typeOf Tryz.func34 (by kernel_rfl) (by kernel_rfl) (by kernel_rfl) (by kernel_rfl)
  have h35 := @run_callFunc_extern Tryz.prog 215 _ (ReflectliteType.relation "AssignableTo" ReflectliteType.assignableTo) Tryz.func215 (by kernel_rfl) (by kernel_rfl) (by kernel_rfl) (by kernel_rfl)
  have h11 := @run_callFunc_extern Tryz.prog 62 _ (ReflectliteValue.method (ReflectliteValue.valueError "reflectlite.Value.Elem" 0) ReflectliteValue.elem) Tryz.func62 (by kernel_rfl) (by kernel_rfl) (by kernel_rfl) (by kernel_rfl)
  have h12 := @run_callFunc_extern Tryz.prog 63 _ ReflectliteValue.set Tryz.func63 (by kernel_rfl) (by kernel_rfl) (by kernel_rfl) (by kernel_rfl)
  have tO := wh_typeOf25
  have mA := wh_methodAssignableTo
  have a25 := wh_assignable25
  have v25 := wh_valueOf25
  have f6 := wh_valueOf27
  have f7 := wh_type27
  have mK := wh_methodKind
  have mE := wh_methodElem
  have mI := wh_methodImplements
  have k27 := wh_kind27
  have k25 := wh_kind25
  have e27 := wh_elem27
  have i25 := wh_implements25
  have n8 := wh_isNil27 ⟨w.heap.size, 0, none⟩ t ((w.alloc (.cells #[.pointer (some t)] 57)).alloc (.cells #[.pointer (some ⟨21, 57, none⟩), .pointer (some ⟨w.heap.size, 0, none⟩), .int .u64 150] 89)) (by simp)
  have hlt : 2 < w.heap.size := by
    rcases Nat.lt_or_ge 2 w.heap.size with h | h
    · exact h
    · simp [World.cell?, Array.getElem?_eq_none h] at hg
  have hg2 : ((w.alloc (.cells #[.pointer (some t)] 57)).alloc (.cells #[.pointer (some ⟨21, 57, none⟩), .pointer (some ⟨w.heap.size, 0, none⟩), .int .u64 150] 89)).cell? ⟨2, 0, none⟩ = some (.iface 137 (.agg #[.pointer (some ⟨21, 30, none⟩)])) := by
    rw [World.cell?_alloc_lt _ _ ⟨2, 0, none⟩ (by simp; omega), World.cell?_alloc_lt _ _ ⟨2, 0, none⟩ hlt]; exact hg
  have htl : t.block < w.heap.size := by
    rcases Nat.lt_or_ge t.block w.heap.size with h | h
    · exact h
    · simp [World.cell?, Array.getElem?_eq_none h] at ht0
  have el := wh_elemV27 ⟨w.heap.size, 0, none⟩ t (((w.alloc (.cells #[.pointer (some t)] 57)).alloc (.cells #[.pointer (some ⟨21, 57, none⟩), .pointer (some ⟨w.heap.size, 0, none⟩), .int .u64 150] 89)).alloc (.cells #[.pointer (some ⟨21, 57, none⟩), .pointer (some ⟨w.heap.size, 0, none⟩), .int .u64 150] 89)) (by rw [World.cell?_alloc_lt _ _ ⟨w.heap.size, 0, none⟩ (by simp; omega)]; simp)
  have st := wh_set25 t ⟨w.heap.size + 1 + 1 + 1, 0, none⟩ e old ((((w.alloc (.cells #[.pointer (some t)] 57)).alloc (.cells #[.pointer (some ⟨21, 57, none⟩), .pointer (some ⟨w.heap.size, 0, none⟩), .int .u64 150] 89)).alloc (.cells #[.pointer (some ⟨21, 57, none⟩), .pointer (some ⟨w.heap.size, 0, none⟩), .int .u64 150] 89)).alloc (.cells #[.pointer (some e)] 23))
    (by rw [World.cell?_alloc_at _ _ _ _ (by simp)]; rfl)
    (by rw [World.cell?_alloc_lt _ _ t (by simp; omega), World.cell?_alloc_lt _ _ t (by simp; omega), World.cell?_alloc_lt _ _ t (by simp; omega), World.cell?_alloc_lt _ _ t htl]; exact ht0)
    (by rw [World.frozen?_alloc_old _ _ t (by simp; omega), World.frozen?_alloc_old _ _ t (by simp; omega), World.frozen?_alloc_old _ _ t (by simp; omega), World.frozen?_alloc_old _ _ t (Nat.ne_of_lt htl)]; exact hf0)
  go_enter Tryz.func13, Tryz.ntmps13
  go_wp2
  refine wp_loop_rounds 1 ?_
  rw [rounds_succ]
  go_wp2
  go_ret
  exact ⟨rfl, rfl⟩
end Ac
end Go.Ab

set_option maxRecDepth 100000
namespace Go.Ab
namespace Ac
open Go.Proofs Go.RowKit Go.Extern.Stop Go.Stop Go.Extern

theorem wh_typeOf228 (v : Value) (w : World) : (ReflectliteType.typeOf #[.iface 273 v]).run Tryz.prog w = .ok (.iface 137 (.agg #[.pointer (some ⟨21, 273, none⟩)])) w := by kernel_rfl
theorem wh_assignable228 (w : World) : (ReflectliteType.relation "AssignableTo" ReflectliteType.assignableTo #[.agg #[.pointer (some ⟨21, 273, none⟩)], .iface 137 (.agg #[.pointer (some ⟨21, 23, none⟩)])]).run Tryz.prog w = .ok (.bool false) w := by kernel_rfl
theorem wh_noAs (v : Value) (xT : TypeId) (w : World) : (Instr.typeAssert (.iface 273 v) xT 141 true).run Tryz.prog w = .ok (.tuple #[.nilIface, .bool false]) w := run_typeAssert_lacksB Tryz.underlying141 (by kernel_rfl) (by kernel_rfl) v xT w
theorem wh_noUnwrap (v : Value) (xT : TypeId) (w : World) : (Instr.typeAssert (.iface 273 v) xT 144 true).run Tryz.prog w = .ok (.tuple #[.nilIface, .bool false]) w := run_typeAssert_lacksB Tryz.underlying144 (by kernel_rfl) (by kernel_rfl) v xT w
theorem wh_noUnwraps (v : Value) (xT : TypeId) (w : World) : (Instr.typeAssert (.iface 273 v) xT 145 true).run Tryz.prog w = .ok (.tuple #[.nilIface, .bool false]) w := run_typeAssert_lacksB Tryz.underlying145 (by kernel_rfl) (by kernel_rfl) v xT w
set_option maxHeartbeats 4000000 in
theorem as_miss (v : Value) (t : Addr) (old : Value) (w : World) (hg : w.cell? ⟨2, 0, none⟩ = some (.iface 137 (.agg #[.pointer (some ⟨21, 30, none⟩)]))) (ht0 : w.cell? t = some old) (hf0 : w.frozen? t = false) :
    Calls Tryz.prog 13 #[.iface 273 v, .iface 57 (.pointer (some t))] w fun ev w' => ev = .returned (.bool false) ∧ w' = ((w.alloc (.cells #[.pointer (some t)] 57)).alloc (.cells #[.pointer (some ⟨21, 57, none⟩), .pointer (some ⟨w.heap.size, 0, none⟩), .int .u64 150] 89)).alloc (.cells #[.pointer (some ⟨21, 57, none⟩), .pointer (some ⟨w.heap.size, 0, none⟩), .int .u64 150] 89) := by
  have h6 := @run_callFunc_extern Tryz.prog 30 _ (fun args => ReflectliteValue.unpack (args.getD 0 (.tuple #[]))) Tryz.func30 (by kernel_rfl) (by kernel_rfl) (by kernel_rfl) (by kernel_rfl)
  have h7 := @run_callFunc_extern Tryz.prog 31 _ (ReflectliteValue.methodAny (ReflectliteValue.valueError "reflectlite.Value.Type" 0) (fun t _ _ _ => ReflectliteType.toType t)) Tryz.func31 (by kernel_rfl) (by kernel_rfl) (by kernel_rfl) (by kernel_rfl)
  have h8 := @run_callFunc_extern Tryz.prog 32 _ (ReflectliteValue.method (ReflectliteValue.valueError "reflectlite.Value.IsNil" 0) ReflectliteValue.isNil) Tryz.func32 (by kernel_rfl) (by kernel_rfl) (by kernel_rfl) (by kernel_rfl)
  have h27 := @run_callFunc_extern Tryz.prog 205 _ (ReflectliteType.abiMethod fun t => do pure (.int .u8 (← Rtype.kind t))) Tryz.func205 (by kernel_rfl) (by kernel_rfl) (by kernel_rfl) (by kernel_rfl)
  have h37 := @run_callFunc_extern Tryz.prog 217 _ (ReflectliteType.method ReflectliteType.elem) Tryz.func217 (by kernel_rfl) (by kernel_rfl) (by kernel_rfl) (by kernel_rfl)
  have h38 := @run_callFunc_extern Tryz.prog 218 _ (ReflectliteType.relation "Implements" ReflectliteType.implements_) Tryz.func218 (by kernel_rfl) (by kernel_rfl) (by kernel_rfl) (by kernel_rfl)
  have h10 := @run_callFunc_extern Tryz.prog 34 _ ReflectliteType.typeOf Tryz.func34 (by kernel_rfl) (by kernel_rfl) (by kernel_rfl) (by kernel_rfl)
  have h35 := @run_callFunc_extern Tryz.prog 215 _ (ReflectliteType.relation "AssignableTo" ReflectliteType.assignableTo) Tryz.func215 (by kernel_rfl) (by kernel_rfl) (by kernel_rfl) (by kernel_rfl)
  have h11 := @run_callFunc_extern Tryz.prog 62 _ (ReflectliteValue.method (ReflectliteValue.valueError "reflectlite.Value.Elem" 0) ReflectliteValue.elem) Tryz.func62 (by kernel_rfl) (by kernel_rfl) (by kernel_rfl) (by kernel_rfl)
  have h12 := @run_callFunc_extern Tryz.prog 63 _ ReflectliteValue.set Tryz.func63 (by kernel_rfl) (by kernel_rfl) (by kernel_rfl) (by kernel_rfl)
  have tO := wh_typeOf25
  have mA := wh_methodAssignableTo
  have a25 := wh_assignable25
  have v25 := wh_valueOf25
  have f6 := wh_valueOf27
  have f7 := wh_type27
  have mK := wh_methodKind
  have mE := wh_methodElem
  have mI := wh_methodImplements
  have k27 := wh_kind27
  have k25 := wh_kind25
  have e27 := wh_elem27
  have i25 := wh_implements25
  have n8 := wh_isNil27 ⟨w.heap.size, 0, none⟩ t ((w.alloc (.cells #[.pointer (some t)] 57)).alloc (.cells #[.pointer (some ⟨21, 57, none⟩), .pointer (some ⟨w.heap.size, 0, none⟩), .int .u64 150] 89)) (by simp)
  have hlt : 2 < w.heap.size := by
    rcases Nat.lt_or_ge 2 w.heap.size with h | h
    · exact h
    · simp [World.cell?, Array.getElem?_eq_none h] at hg
  have hg2 : ((w.alloc (.cells #[.pointer (some t)] 57)).alloc (.cells #[.pointer (some ⟨21, 57, none⟩), .pointer (some ⟨w.heap.size, 0, none⟩), .int .u64 150] 89)).cell? ⟨2, 0, none⟩ = some (.iface 137 (.agg #[.pointer (some ⟨21, 30, none⟩)])) := by
    rw [World.cell?_alloc_lt _ _ ⟨2, 0, none⟩ (by simp; omega), World.cell?_alloc_lt _ _ ⟨2, 0, none⟩ hlt]; exact hg
  have htl : t.block < w.heap.size := by
    rcases Nat.lt_or_ge t.block w.heap.size with h | h
    · exact h
    · simp [World.cell?, Array.getElem?_eq_none h] at ht0
  have tO2 := wh_typeOf228
  have a228 := wh_assignable228
  have nA := wh_noAs
  have nU := wh_noUnwrap
  have nUs := wh_noUnwraps
  go_enter Tryz.func13, Tryz.ntmps13
  go_wp2
  refine wp_loop_rounds 1 ?_
  rw [rounds_succ]
  go_wp2
  go_ret
  exact ⟨rfl, rfl⟩
end Ac
end Go.Ab

set_option maxRecDepth 100000
namespace Go.Ab
namespace Ac
open Go.Proofs Go.RowKit Go.Extern.Stop Go.Stop Go.Extern

theorem wh_typeOfL (v : Value) (w : World) : (ReflectliteType.typeOf #[.iface 28 v]).run Tryz.prog w = .ok (.iface 137 (.agg #[.pointer (some ⟨21, 28, none⟩)])) w := by kernel_rfl
theorem wh_assignableL (w : World) : (ReflectliteType.relation "AssignableTo" ReflectliteType.assignableTo #[.agg #[.pointer (some ⟨21, 28, none⟩)], .iface 137 (.agg #[.pointer (some ⟨21, 23, none⟩)])]).run Tryz.prog w = .ok (.bool false) w := by kernel_rfl
theorem wh_noAsL (v : Value) (xT : TypeId) (w : World) : (Instr.typeAssert (.iface 28 v) xT 141 true).run Tryz.prog w = .ok (.tuple #[.nilIface, .bool false]) w := run_typeAssert_lacksB Tryz.underlying141 (by kernel_rfl) (by kernel_rfl) v xT w
theorem wh_UnwrapL (v : Value) (xT : TypeId) (w : World) : (Instr.typeAssert (.iface 28 v) xT 144 true).run Tryz.prog w = .ok (.tuple #[.iface 28 v, .bool true]) w := run_typeAssert_hasB Tryz.underlying144 (by kernel_rfl) v xT w
theorem wh_methodUnwrapL (h : Value) (w : World) : (Go.method 405 28 h "Unwrap").run Tryz.prog w = .ok (209, h) w := by kernel_rfl
/-- (*load.Fault).Unwrap -/
theorem unwrap_at (b off : Nat) (x : Value) (w : World) (h : w.cell? ⟨b, off + 2, none⟩ = some x) : Calls Tryz.prog 209 #[.pointer (some ⟨b, off, none⟩)] w fun e w' => e = .returned x ∧ w' = w := by
  go_enter Tryz.func209, Tryz.ntmps209
  go_wp2
  go_ret
  exact ⟨rfl, rfl⟩
set_option maxHeartbeats 4000000 in
theorem as_wrap (b off : Nat) (e t : Addr) (old : Value) (w : World) (hg : w.cell? ⟨2, 0, none⟩ = some (.iface 137 (.agg #[.pointer (some ⟨21, 30, none⟩)]))) (ht0 : w.cell? t = some old) (hf0 : w.frozen? t = false)
    (hw : w.cell? ⟨b, off + 2, none⟩ = some (.iface 23 (.pointer (some e)))) :
    Calls Tryz.prog 13 #[.iface 28 (.pointer (some ⟨b, off, none⟩)), .iface 57 (.pointer (some t))] w fun ev w' => ev = .returned (.bool true) ∧ w' = ((((w.alloc (.cells #[.pointer (some t)] 57)).alloc (.cells #[.pointer (some ⟨21, 57, none⟩), .pointer (some ⟨w.heap.size, 0, none⟩), .int .u64 150] 89)).alloc (.cells #[.pointer (some ⟨21, 57, none⟩), .pointer (some ⟨w.heap.size, 0, none⟩), .int .u64 150] 89)).alloc (.cells #[.pointer (some e)] 23)).setCell t (.pointer (some e)) := by
  have h6 := @run_callFunc_extern Tryz.prog 30 _ (fun args => ReflectliteValue.unpack (args.getD 0 (.tuple #[]))) Tryz.func30 (by kernel_rfl) (by kernel_rfl) (by kernel_rfl) (by kernel_rfl)
  have h7 := @run_callFunc_extern Tryz.prog 31 _ (ReflectliteValue.methodAny (ReflectliteValue.valueError "reflectlite.Value.Type" 0) (fun t _ _ _ => ReflectliteType.toType t)) Tryz.func31 (by kernel_rfl) (by kernel_rfl) (by kernel_rfl) (by kernel_rfl)
  have h8 := @run_callFunc_extern Tryz.prog 32 _ (ReflectliteValue.method (ReflectliteValue.valueError "reflectlite.Value.IsNil" 0) ReflectliteValue.isNil) Tryz.func32 (by kernel_rfl) (by kernel_rfl) (by kernel_rfl) (by kernel_rfl)
  have h27 := @run_callFunc_extern Tryz.prog 205 _ (ReflectliteType.abiMethod fun t => do pure (.int .u8 (← Rtype.kind t))) Tryz.func205 (by kernel_rfl) (by kernel_rfl) (by kernel_rfl) (by kernel_rfl)
  have h37 := @run_callFunc_extern Tryz.prog 217 _ (ReflectliteType.method ReflectliteType.elem) Tryz.func217 (by kernel_rfl) (by kernel_rfl) (by kernel_rfl) (by kernel_rfl)
  have h38 := @run_callFunc_extern Tryz.prog 218 _ (ReflectliteType.relation "Implements" ReflectliteType.implements_) Tryz.func218 (by kernel_rfl) (by kernel_rfl) (by kernel_rfl) (by kernel_rfl)
  have h10 := @run_callFunc_extern Tryz.prog 34 _ ReflectliteType.typeOf Tryz.func34 (by kernel_rfl) (by kernel_rfl) (by kernel_rfl) (by kernel_rfl)
  have h35 := @run_callFunc_extern Tryz.prog 215 _ (ReflectliteType.relation "AssignableTo" ReflectliteType.assignableTo) Tryz.func215 (by kernel_rfl) (by kernel_rfl) (by kernel_rfl) (by kernel_rfl)
  have h11 := @run_callFunc_extern Tryz.prog 62 _ (ReflectliteValue.method (ReflectliteValue.valueError "reflectlite.Value.Elem" 0) ReflectliteValue.elem) Tryz.func62 (by kernel_rfl) (by kernel_rfl) (by kernel_rfl) (by kernel_rfl)
  have h12 := @run_callFunc_extern Tryz.prog 63 _ ReflectliteValue.set Tryz.func63 (by kernel_rfl) (by kernel_rfl) (by kernel_rfl) (by kernel_rfl)
  have tO := wh_typeOf25
  have mA := wh_methodAssignableTo
  have a25 := wh_assignable25
  have v25 := wh_valueOf25
  have f6 := wh_valueOf27
  have f7 := wh_type27
  have mK := wh_methodKind
  have mE := wh_methodElem
  have mI := wh_methodImplements
  have k27 := wh_kind27
  have k25 := wh_kind25
  have e27 := wh_elem27
  have i25 := wh_implements25
  have n8 := wh_isNil27 ⟨w.heap.size, 0, none⟩ t ((w.alloc (.cells #[.pointer (some t)] 57)).alloc (.cells #[.pointer (some ⟨21, 57, none⟩), .pointer (some ⟨w.heap.size, 0, none⟩), .int .u64 150] 89)) (by simp)
  have hlt : 2 < w.heap.size := by
    rcases Nat.lt_or_ge 2 w.heap.size with h | h
    · exact h
    · simp [World.cell?, Array.getElem?_eq_none h] at hg
  have hg2 : ((w.alloc (.cells #[.pointer (some t)] 57)).alloc (.cells #[.pointer (some ⟨21, 57, none⟩), .pointer (some ⟨w.heap.size, 0, none⟩), .int .u64 150] 89)).cell? ⟨2, 0, none⟩ = some (.iface 137 (.agg #[.pointer (some ⟨21, 30, none⟩)])) := by
    rw [World.cell?_alloc_lt _ _ ⟨2, 0, none⟩ (by simp; omega), World.cell?_alloc_lt _ _ ⟨2, 0, none⟩ hlt]; exact hg
  have htl : t.block < w.heap.size := by
    rcases Nat.lt_or_ge t.block w.heap.size with h | h
    · exact h
    · simp [World.cell?, Array.getElem?_eq_none h] at ht0
  have el := wh_elemV27 ⟨w.heap.size, 0, none⟩ t (((w.alloc (.cells #[.pointer (some t)] 57)).alloc (.cells #[.pointer (some ⟨21, 57, none⟩), .pointer (some ⟨w.heap.size, 0, none⟩), .int .u64 150] 89)).alloc (.cells #[.pointer (some ⟨21, 57, none⟩), .pointer (some ⟨w.heap.size, 0, none⟩), .int .u64 150] 89)) (by rw [World.cell?_alloc_lt _ _ ⟨w.heap.size, 0, none⟩ (by simp; omega)]; simp)
  have st := wh_set25 t ⟨w.heap.size + 1 + 1 + 1, 0, none⟩ e old ((((w.alloc (.cells #[.pointer (some t)] 57)).alloc (.cells #[.pointer (some ⟨21, 57, none⟩), .pointer (some ⟨w.heap.size, 0, none⟩), .int .u64 150] 89)).alloc (.cells #[.pointer (some ⟨21, 57, none⟩), .pointer (some ⟨w.heap.size, 0, none⟩), .int .u64 150] 89)).alloc (.cells #[.pointer (some e)] 23))
    (by rw [World.cell?_alloc_at _ _ _ _ (by simp)]; rfl)
    (by rw [World.cell?_alloc_lt _ _ t (by simp; omega), World.cell?_alloc_lt _ _ t (by simp; omega), World.cell?_alloc_lt _ _ t (by simp; omega), World.cell?_alloc_lt _ _ t htl]; exact ht0)
    (by rw [World.frozen?_alloc_old _ _ t (by simp; omega), World.frozen?_alloc_old _ _ t (by simp; omega), World.frozen?_alloc_old _ _ t (by simp; omega), World.frozen?_alloc_old _ _ t (Nat.ne_of_lt htl)]; exact hf0)
  have tL := wh_typeOfL
  have aL := wh_assignableL
  have nL := wh_noAsL
  have uL := wh_UnwrapL
  have mU := wh_methodUnwrapL
  have hbl : b < w.heap.size := cell_lt hw
  have hwA : ∀ (c1 c2 c3 : Obj), (((w.alloc c1).alloc c2).alloc c3).cell? ⟨b, off + 2, none⟩ = w.cell? ⟨b, off + 2, none⟩ := fun c1 c2 c3 => by
    rw [World.cell?_alloc_lt _ _ ⟨b, off + 2, none⟩ (by simp; omega), World.cell?_alloc_lt _ _ ⟨b, off + 2, none⟩ (by simp; omega), World.cell?_alloc_lt _ _ ⟨b, off + 2, none⟩ hbl]
  go_enter Tryz.func13, Tryz.ntmps13
  go_wp2
  refine wp_loop_rounds 2 ?_
  rw [rounds_succ]
  go_wp2_with (first
    | (go_at_call 209; refine (unwrap_at b off (.iface 23 (.pointer (some e))) _ ((hwA _ _ _).trans hw)).mono ?_; rintro e w' ⟨rfl, rfl⟩))
  rw [rounds_succ]
  go_wp2
  go_ret
  exact ⟨rfl, rfl⟩
set_option maxHeartbeats 4000000 in
theorem as_wrap_miss (b off : Nat) (v : Value) (t : Addr) (old : Value) (w : World) (hg : w.cell? ⟨2, 0, none⟩ = some (.iface 137 (.agg #[.pointer (some ⟨21, 30, none⟩)]))) (ht0 : w.cell? t = some old) (hf0 : w.frozen? t = false)
    (hw : w.cell? ⟨b, off + 2, none⟩ = some (.iface 273 v)) :
    Calls Tryz.prog 13 #[.iface 28 (.pointer (some ⟨b, off, none⟩)), .iface 57 (.pointer (some t))] w fun ev w' => ev = .returned (.bool false) ∧ w' = ((w.alloc (.cells #[.pointer (some t)] 57)).alloc (.cells #[.pointer (some ⟨21, 57, none⟩), .pointer (some ⟨w.heap.size, 0, none⟩), .int .u64 150] 89)).alloc (.cells #[.pointer (some ⟨21, 57, none⟩), .pointer (some ⟨w.heap.size, 0, none⟩), .int .u64 150] 89) := by
  have h6 := @run_callFunc_extern Tryz.prog 30 _ (fun args => ReflectliteValue.unpack (args.getD 0 (.tuple #[]))) Tryz.func30 (by kernel_rfl) (by kernel_rfl) (by kernel_rfl) (by kernel_rfl)
  have h7 := @run_callFunc_extern Tryz.prog 31 _ (ReflectliteValue.methodAny (ReflectliteValue.valueError "reflectlite.Value.Type" 0) (fun t _ _ _ => ReflectliteType.toType t)) Tryz.func31 (by kernel_rfl) (by kernel_rfl) (by kernel_rfl) (by kernel_rfl)
  have h8 := @run_callFunc_extern Tryz.prog 32 _ (ReflectliteValue.method (ReflectliteValue.valueError "reflectlite.Value.IsNil" 0) ReflectliteValue.isNil) Tryz.func32 (by kernel_rfl) (by kernel_rfl) (by kernel_rfl) (by kernel_rfl)
  have h27 := @run_callFunc_extern Tryz.prog 205 _ (ReflectliteType.abiMethod fun t => do pure (.int .u8 (← Rtype.kind t))) Tryz.func205 (by kernel_rfl) (by kernel_rfl) (by kernel_rfl) (by kernel_rfl)
  have h37 := @run_callFunc_extern Tryz.prog 217 _ (ReflectliteType.method ReflectliteType.elem) Tryz.func217 (by kernel_rfl) (by kernel_rfl) (by kernel_rfl) (by kernel_rfl)
  have h38 := @run_callFunc_extern Tryz.prog 218 _ (ReflectliteType.relation "Implements" ReflectliteType.implements_) Tryz.func218 (by kernel_rfl) (by kernel_rfl) (by kernel_rfl) (by kernel_rfl)
  have h10 := @run_callFunc_extern Tryz.prog 34 _ ReflectliteType.typeOf Tryz.func34 (by kernel_rfl) (by kernel_rfl) (by kernel_rfl) (by kernel_rfl)
  have h35 := @run_callFunc_extern Tryz.prog 215 _ (ReflectliteType.relation "AssignableTo" ReflectliteType.assignableTo) Tryz.func215 (by kernel_rfl) (by kernel_rfl) (by kernel_rfl) (by kernel_rfl)
  have h11 := @run_callFunc_extern Tryz.prog 62 _ (ReflectliteValue.method (ReflectliteValue.valueError "reflectlite.Value.Elem" 0) ReflectliteValue.elem) Tryz.func62 (by kernel_rfl) (by kernel_rfl) (by kernel_rfl) (by kernel_rfl)
  have h12 := @run_callFunc_extern Tryz.prog 63 _ ReflectliteValue.set Tryz.func63 (by kernel_rfl) (by kernel_rfl) (by kernel_rfl) (by kernel_rfl)
  have tO := wh_typeOf25
  have mA := wh_methodAssignableTo
  have a25 := wh_assignable25
  have v25 := wh_valueOf25
  have f6 := wh_valueOf27
  have f7 := wh_type27
  have mK := wh_methodKind
  have mE := wh_methodElem
  have mI := wh_methodImplements
  have k27 := wh_kind27
  have k25 := wh_kind25
  have e27 := wh_elem27
  have i25 := wh_implements25
  have n8 := wh_isNil27 ⟨w.heap.size, 0, none⟩ t ((w.alloc (.cells #[.pointer (some t)] 57)).alloc (.cells #[.pointer (some ⟨21, 57, none⟩), .pointer (some ⟨w.heap.size, 0, none⟩), .int .u64 150] 89)) (by simp)
  have hlt : 2 < w.heap.size := by
    rcases Nat.lt_or_ge 2 w.heap.size with h | h
    · exact h
    · simp [World.cell?, Array.getElem?_eq_none h] at hg
  have hg2 : ((w.alloc (.cells #[.pointer (some t)] 57)).alloc (.cells #[.pointer (some ⟨21, 57, none⟩), .pointer (some ⟨w.heap.size, 0, none⟩), .int .u64 150] 89)).cell? ⟨2, 0, none⟩ = some (.iface 137 (.agg #[.pointer (some ⟨21, 30, none⟩)])) := by
    rw [World.cell?_alloc_lt _ _ ⟨2, 0, none⟩ (by simp; omega), World.cell?_alloc_lt _ _ ⟨2, 0, none⟩ hlt]; exact hg
  have htl : t.block < w.heap.size := by
    rcases Nat.lt_or_ge t.block w.heap.size with h | h
    · exact h
    · simp [World.cell?, Array.getElem?_eq_none h] at ht0
  have tO2 := wh_typeOf228
  have a228 := wh_assignable228
  have nA := wh_noAs
  have nU := wh_noUnwrap
  have nUs := wh_noUnwraps
  have tL := wh_typeOfL
  have aL := wh_assignableL
  have nL := wh_noAsL
  have uL := wh_UnwrapL
  have mU := wh_methodUnwrapL
  have hbl : b < w.heap.size := cell_lt hw
  have hwA : ∀ (c1 c2 c3 : Obj), (((w.alloc c1).alloc c2).alloc c3).cell? ⟨b, off + 2, none⟩ = w.cell? ⟨b, off + 2, none⟩ := fun c1 c2 c3 => by
    rw [World.cell?_alloc_lt _ _ ⟨b, off + 2, none⟩ (by simp; omega), World.cell?_alloc_lt _ _ ⟨b, off + 2, none⟩ (by simp; omega), World.cell?_alloc_lt _ _ ⟨b, off + 2, none⟩ hbl]
  go_enter Tryz.func13, Tryz.ntmps13
  go_wp2
  refine wp_loop_rounds 2 ?_
  rw [rounds_succ]
  go_wp2_with (first
    | (go_at_call 209; refine (unwrap_at b off (.iface 273 v) _ ((hwA _ _ _).trans hw)).mono ?_; rintro e w' ⟨rfl, rfl⟩))
  rw [rounds_succ]
  go_wp2
  go_ret
  exact ⟨rfl, rfl⟩
end Ac
end Go.Ab

set_option maxRecDepth 100000
namespace Go.Ab
namespace Ac
open Go.Proofs Go.RowKit Go.Extern.Stop Go.Stop Go.Extern
variable {glob : Nat → Option (List D)} {p : Nat → Addr} {o : Nat → Obj}

/-- The variable in which package errors keeps the handle of the type error. -/
abbrev errTypeV : Value := .iface 137 (.agg #[.pointer (some ⟨21, 30, none⟩)])
theorem hit_below {e t : Addr} {old : Value} {w : World} (ht0 : w.cell? t = some old) {c1 c2 c3 c4 : Obj} : ((((w.alloc c1).alloc c2).alloc c3).alloc c4 |>.setCell t (.pointer (some e))).cell? t = some (.pointer (some e)) ∧ Below t.block w ((((w.alloc c1).alloc c2).alloc c3).alloc c4 |>.setCell t (.pointer (some e))) := by
  have htl : t.block < w.heap.size := cell_lt ht0
  refine ⟨?_, ?_⟩
  · refine World.cell?_setCell_same _ _ _ (?_ : _ = some old)
    rw [World.cell?_alloc_lt _ _ t (by simp; omega), World.cell?_alloc_lt _ _ t (by simp; omega), World.cell?_alloc_lt _ _ t (by simp; omega), World.cell?_alloc_lt _ _ t htl]
    exact ht0
  · refine Below.setCell ?_ (Nat.le_refl _) _
    exact ((((Below.refl t.block w).alloc (by omega) _).alloc (by simp; omega) _).alloc (by simp; omega) _).alloc (by simp; omega) _
theorem as_hit' (e t : Addr) (old : Value) (w : World) (hg : w.cell? ⟨2, 0, none⟩ = some errTypeV) (ht0 : w.cell? t = some old) (hf0 : w.frozen? t = false) :
    Calls Tryz.prog 13 #[.iface 23 (.pointer (some e)), .iface 57 (.pointer (some t))] w fun ev w' => ev = .returned (.bool true) ∧ w'.cell? t = some (.pointer (some e)) ∧ Below t.block w w' := by
  refine (as_hit e t old w hg ht0 hf0).mono ?_
  rintro ev w' ⟨rfl, rfl⟩
  exact ⟨rfl, hit_below ht0⟩
theorem as_wrap' (b off : Nat) (e t : Addr) (old : Value) (w : World) (hg : w.cell? ⟨2, 0, none⟩ = some errTypeV) (ht0 : w.cell? t = some old) (hf0 : w.frozen? t = false) (hw : w.cell? ⟨b, off + 2, none⟩ = some (.iface 23 (.pointer (some e)))) :
    Calls Tryz.prog 13 #[.iface 28 (.pointer (some ⟨b, off, none⟩)), .iface 57 (.pointer (some t))] w fun ev w' => ev = .returned (.bool true) ∧ w'.cell? t = some (.pointer (some e)) ∧ Below t.block w w' := by
  refine (as_wrap b off e t old w hg ht0 hf0 hw).mono ?_
  rintro ev w' ⟨rfl, rfl⟩
  exact ⟨rfl, hit_below ht0⟩
theorem as_wrap_miss' (b off : Nat) (v : Value) (t : Addr) (old : Value) (w : World) (hg : w.cell? ⟨2, 0, none⟩ = some errTypeV) (ht0 : w.cell? t = some old) (hf0 : w.frozen? t = false) (hw : w.cell? ⟨b, off + 2, none⟩ = some (.iface 273 v)) :
    Calls Tryz.prog 13 #[.iface 28 (.pointer (some ⟨b, off, none⟩)), .iface 57 (.pointer (some t))] w fun ev w' => ev = .returned (.bool false) ∧ Below t.block w w' := by
  have htl : t.block < w.heap.size := cell_lt ht0
  refine (as_wrap_miss b off v t old w hg ht0 hf0 hw).mono ?_
  rintro ev w' ⟨rfl, rfl⟩
  exact ⟨rfl, (((Below.refl t.block w).alloc (by omega) _).alloc (by simp; omega) _).alloc (by simp; omega) _⟩
theorem res_clash {w : World} {b : Nat} {x : Value} {us : List Value} (hl : us.length = 3) (hc : ∀ j u, us[j]? = some u → w.cell? ⟨b, j, none⟩ = some u) {tmps : Array Value} (ht : tmps.getD 2 undef = .pointer (some ⟨b, 0, none⟩)) (hx : tmps.getD 3 undef = x) :
    (results Tryz.f5 tmps).run Tryz.prog w = .ok (.tuple #[.agg us.toArray, x]) w := by
  have hsz : (mkCtx tab fun _ => none).sz 25 = 3 := by kernel_rfl
  have hagg : ((mkCtx tab fun _ => none).td 25).agg = true := by kernel_rfl
  have h := run_loadVar (T_ok fun _ => none) w (t := 25) (fun h => by rw [h] at hagg; cases hagg) (.inl hagg) ⟨b, 0, none⟩ us (by rw [hsz, hl]) (fun j u hu => by rw [add_plain, Nat.zero_add]; exact hc j u hu)
  rw [hagg] at h
  simp only [if_true] at h
  have hr : Tryz.f5.results = #[.cell 2 25, .tmp 3] := rfl
  rw [Array.getD_eq_getD_getElem?] at ht hx
  simp [results, hr, ht, hx, asAddr, h, Result.andThen]
theorem three_cells {w : World} {b : Nat} {a0 a1 a2 x0 x1 x2 : Value} (h0 : w.cell? ⟨b, 0, none⟩ = some a0) (h1 : w.cell? ⟨b, 1, none⟩ = some a1) (h2 : w.cell? ⟨b, 2, none⟩ = some a2) :
    ∀ (j : Nat) (u : Value), [x0, x1, x2][j]? = some u → (((w.setCell ⟨b, 0, none⟩ x0).setCell ⟨b, 1, none⟩ x1).setCell ⟨b, 2, none⟩ x2).cell? ⟨b, j, none⟩ = some u := by
  have ne : ∀ (W : World) (i j : Nat) (x : Value), i ≠ j → (W.setCell ⟨b, i, none⟩ x).cell? ⟨b, j, none⟩ = W.cell? ⟨b, j, none⟩ := fun W i j x h => World.cell?_setCell_other W _ _ _ (by intro e; injection e; contradiction)
  intro j u hu
  rcases j with _ | _ | _ | j
  · cases hu
    rw [ne _ _ _ _ (by decide), ne _ _ _ _ (by decide)]
    exact World.cell?_setCell_same _ _ _ h0
  · cases hu
    rw [ne _ _ _ _ (by decide)]
    exact World.cell?_setCell_same _ _ _ ((ne _ _ _ _ (by decide)).trans h1)
  · cases hu
    exact World.cell?_setCell_same _ _ _ (((ne _ _ _ _ (by decide)).trans (ne _ _ _ _ (by decide))).trans h2)
  · simp at hu
section
variable (w : World) (x : Value)
/-- ambig.Where, once errors.As is told. -/
theorem where_of (hit : Option (Addr × ByteArray × Int × Int)) (hg : w.cell? ⟨2, 0, none⟩ = some errTypeV)
    (hc : ∀ e s i j, hit = some (e, s, i, j) → ∃ b off, e = ⟨b, off, none⟩ ∧ w.cell? ⟨b, off, none⟩ = some (.string s) ∧ w.cell? ⟨b, off + 1, none⟩ = some (.int .i64 i) ∧ w.cell? ⟨b, off + 2, none⟩ = some (.int .i64 j))
    (has : ∀ (w1 : World), Below w.heap.size w w1 → w1.cell? ⟨w.heap.size + 1, 0, none⟩ = some (.pointer none) → w1.frozen? ⟨w.heap.size + 1, 0, none⟩ = false →
      Calls Tryz.prog 13 #[x, .iface 57 (.pointer (some ⟨w.heap.size + 1, 0, none⟩))] w1 fun ev w' => ev = .returned (.bool hit.isSome) ∧ (∀ e, hit.map (·.1) = some e → w'.cell? ⟨w.heap.size + 1, 0, none⟩ = some (.pointer (some e))) ∧ Below (w.heap.size + 1) w1 w') :
    Calls Tryz.prog 5 #[x] w fun e w' => e = .returned (.tuple #[(match hit with | some (_, s, i, j) => .agg #[.string s, .int .i64 i, .int .i64 j] | none => .agg #[.string ⟨#[]⟩, .int .i64 0, .int .i64 0]), .bool hit.isSome]) ∧ Below w.heap.size w w' := by
  have h0 : Calls Tryz.prog 13 #[x, .iface 57 (.pointer (some ⟨w.heap.size + 1, 0, none⟩))] ((w.alloc (.cells #[.string ⟨#[]⟩, .int .i64 0, .int .i64 0] 25)).alloc (.cells #[.pointer none] 23)) fun ev w' => ev = .returned (.bool hit.isSome) ∧ (∀ e, hit.map (·.1) = some e → w'.cell? ⟨w.heap.size + 1, 0, none⟩ = some (.pointer (some e))) ∧
      w'.cell? ⟨w.heap.size, 0, none⟩ = some (.string ⟨#[]⟩) ∧ w'.cell? ⟨w.heap.size, 1, none⟩ = some (.int .i64 0) ∧ w'.cell? ⟨w.heap.size, 2, none⟩ = some (.int .i64 0) ∧ w'.frozen? ⟨w.heap.size, 0, none⟩ = false ∧ w'.frozen? ⟨w.heap.size, 1, none⟩ = false ∧ w'.frozen? ⟨w.heap.size, 2, none⟩ = false ∧ Below w.heap.size w w' := by
    refine (has _ (((Below.refl _ _).alloc (Nat.le_refl _) _).alloc (by simp) _) (by simp) (by simp)).mono ?_
    rintro ev w' ⟨rfl, h1, hb⟩
    have hc : ∀ k : Nat, w'.cell? ⟨w.heap.size, k, none⟩ = ((w.alloc (.cells #[.string ⟨#[]⟩, .int .i64 0, .int .i64 0] 25)).alloc (.cells #[.pointer none] 23)).cell? ⟨w.heap.size, k, none⟩ := fun k => hb.cell (p := ⟨w.heap.size, k, none⟩) (Nat.lt_succ_self _)
    have hf : ∀ k : Nat, w'.frozen? ⟨w.heap.size, k, none⟩ = ((w.alloc (.cells #[.string ⟨#[]⟩, .int .i64 0, .int .i64 0] 25)).alloc (.cells #[.pointer none] 23)).frozen? ⟨w.heap.size, k, none⟩ := fun k => hb.frozen (p := ⟨w.heap.size, k, none⟩) (Nat.lt_succ_self _)
    have hc2 : ∀ k : Nat, ((w.alloc (.cells #[.string ⟨#[]⟩, .int .i64 0, .int .i64 0] 25)).alloc (.cells #[.pointer none] 23)).cell? ⟨w.heap.size, k, none⟩ = (#[.string ⟨#[]⟩, .int .i64 0, .int .i64 0] : Array Value)[k]? := fun k => by
      rw [World.cell?_alloc_lt _ _ ⟨w.heap.size, k, none⟩ (by show w.heap.size < _; simp)]
      simp only [World.cell?, heap_alloc]
      rfl
    have hf2 : ∀ k : Nat, ((w.alloc (.cells #[.string ⟨#[]⟩, .int .i64 0, .int .i64 0] 25)).alloc (.cells #[.pointer none] 23)).frozen? ⟨w.heap.size, k, none⟩ = false := fun k => by
      rw [World.frozen?_alloc_old _ _ ⟨w.heap.size, k, none⟩ (by show w.heap.size ≠ _; simp)]
      have h5 := heap_alloc w (.cells #[.string ⟨#[]⟩, .int .i64 0, .int .i64 0] 25)
      simp only [World.frozen?, h5]
      simp
    refine ⟨rfl, h1, ?_, ?_, ?_, by rw [hf, hf2], by rw [hf, hf2], by rw [hf, hf2], (((Below.refl _ _).alloc (Nat.le_refl _) _).alloc (by simp) _).trans (hb.mono (Nat.le_succ _))⟩
    · rw [hc, hc2]; rfl
    · rw [hc, hc2]; rfl
    · rw [hc, hc2]; rfl
  cases hit with
  | none =>
    go_enter Tryz.func5, Tryz.ntmps5
    go_wp2_with (first | (go_at_call 13; refine h0.mono ?_; rintro e w' ⟨rfl, _, c0, c1, c2, f0, f1, f2, hb⟩))
    refine bodyPost_ret (res_clash (b := w.heap.size) (us := [.string ⟨#[]⟩, .int .i64 0, .int .i64 0]) rfl (three_cells c0 c1 c2) rfl rfl) rfl ?_
    exact ⟨rfl, ((hb.setCell (Nat.le_refl _) _).setCell (Nat.le_refl _) _).setCell (Nat.le_refl _) _⟩
  | some q =>
    obtain ⟨e, s, i, j⟩ := q
    obtain ⟨b, off, rfl, h1, h2, h3⟩ := hc e s i j rfl
    have hbl : b < w.heap.size := cell_lt h1
    have h9 : ∀ {w' : World}, Below w.heap.size w w' → w'.cell? ⟨b, off, none⟩ = some (.string s) ∧ w'.cell? ⟨b, off + 1, none⟩ = some (.int .i64 i) ∧ w'.cell? ⟨b, off + 2, none⟩ = some (.int .i64 j) := fun hb => ⟨(hb.cell (p := ⟨b, off, none⟩) hbl).trans h1, (hb.cell (p := ⟨b, off + 1, none⟩) hbl).trans h2, (hb.cell (p := ⟨b, off + 2, none⟩) hbl).trans h3⟩
    go_enter Tryz.func5, Tryz.ntmps5
    go_wp2_with (first | (go_at_call 13; refine h0.mono ?_; rintro e w' ⟨rfl, ht, c0, c1, c2, f0, f1, f2, hb⟩; replace ht := ht _ rfl; obtain ⟨d0, d1, d2⟩ := h9 hb))
    refine bodyPost_ret (res_clash (b := w.heap.size) (us := [.string s, .int .i64 i, .int .i64 j]) rfl (three_cells c0 c1 c2) rfl rfl) rfl ?_
    exact ⟨rfl, ((hb.setCell (Nat.le_refl _) _).setCell (Nat.le_refl _) _).setCell (Nat.le_refl _) _⟩
end
/-- What an error tells of a clash. -/
def whereC : Er → Option (List UInt8 × Int × Int)
  | .am s i j => some (s, i, j)
  | .ld _ _ (.am s i j) => some (s, i, j)
  | _ => none
def flatC : Er → Bool
  | .am _ _ _ => true
  | .ld _ _ (.am _ _ _) => true
  | .ld _ _ (.sent _) => true
  | _ => false
def encC : Option (List UInt8 × Int × Int) → List D
  | some (s, i, j) => [.st [.s s, .v (.int .i64 i), .v (.int .i64 j)], .v (.bool true)]
  | none => [.st [.s [], .v (.int .i64 0), .v (.int .i64 0)], .v (.bool false)]
noncomputable def FWc (p : Nat → Addr) (o : Nat → Obj) : List D → Option (List D) := liftG (fun e : Er => e.good = true ∧ flatC e = true) (fun e => [encE p o e]) fun e => some (encC (whereC e))
theorem FWc_eq (hs : Sents glob p o) (e : Er) (he : e.good = true) (hf : flatC e = true) : FWc p o [encE p o e] = some (encC (whereC e)) :=
  liftG_enc (good := fun e : Er => e.good = true ∧ flatC e = true) (enc := fun e => [encE p o e]) (f := fun e => some (encC (whereC e))) (fun a b ha hb h => by
    simp only [List.cons.injEq, and_true] at h
    rw [encE_inj hs.inj a b ha.1 hb.1 h]) e ⟨he, hf⟩
theorem FWc_ok (h19 : glob 2 = some [.ifc 137 (.st [.v (.pointer (some ⟨21, 30, none⟩))])]) : Pure Tryz.prog (mkCtx tab glob) 5 (FWc p o) := by
  refine Pure.mk' Tryz.func5 (by kernel_rfl) (by kernel_rfl) fun ds rs hF N w vs hN hG hv => ?_
  obtain ⟨e, ⟨hg, hfl⟩, rfl, h⟩ := liftG_some hF
  cases h
  obtain ⟨u, rfl, hu⟩ := rd1 hv
  have hg := hG 2 _ h19
  simp only [RdC, and_true] at hg
  obtain ⟨_, x, hc, _, hx⟩ := hg
  simp only [Rd, RdL] at hx
  obtain ⟨y, rfl, us, rfl, _, _, rfl, rfl, rfl⟩ := hx
  have hc' : w.cell? ⟨2, 0, none⟩ = some errTypeV := by simpa [add_plain] using hc
  have hlt : 2 < w.heap.size := cell_lt hc'
  have fin : ∀ (r : Option (List UInt8 × Int × Int)) (hit : Option (Addr × ByteArray × Int × Int)), hit.map (fun q => (q.2.1.data.toList, q.2.2.1, q.2.2.2)) = r →
      Calls Tryz.prog 5 #[u] w (fun e w' => e = .returned (.tuple #[(match hit with | some (_, s, i, j) => .agg #[.string s, .int .i64 i, .int .i64 j] | none => .agg #[.string ⟨#[]⟩, .int .i64 0, .int .i64 0]), .bool hit.isSome]) ∧ Below w.heap.size w w') →
      Calls Tryz.prog 5 #[u] w fun e_1 w' => ∃ us, RdL N w' (encC r) us ∧ e_1 = .returned (pack us) ∧ Chg (fun _ _ => False) w w' := by
    intro r hit hr hcall
    refine hcall.mono ?_
    rintro e' w' ⟨rfl, hb⟩
    subst hr
    cases hit with
    | none =>
      refine ⟨[_, _], ?_, rfl, Chg.below.2 hb⟩
      simp only [Option.map_none, encC, RdL, Rd]
      exact ⟨_, _, rfl, ⟨_, rfl, _, _, rfl, rfl, _, _, rfl, rfl, _, _, rfl, rfl, rfl⟩, _, _, rfl, rfl, rfl⟩
    | some q =>
      obtain ⟨a, s, i, j⟩ := q
      refine ⟨[_, _], ?_, rfl, Chg.below.2 hb⟩
      simp only [Option.map_some, encC, RdL, Rd]
      exact ⟨_, _, rfl, ⟨_, rfl, _, _, rfl, rfl, _, _, rfl, rfl, _, _, rfl, rfl, rfl⟩, _, _, rfl, rfl, rfl⟩
  -- what lies at a clash
  have at3 : ∀ {s : List UInt8} {i j : Int} {v : Value}, Rd N w (.ptr [.s s, .v (.int .i64 i), .v (.int .i64 j)]) v → ∃ b off, v = .pointer (some ⟨b, off, none⟩) ∧ w.cell? ⟨b, off, none⟩ = some (.string ⟨s.toArray⟩) ∧ w.cell? ⟨b, off + 1, none⟩ = some (.int .i64 i) ∧ w.cell? ⟨b, off + 2, none⟩ = some (.int .i64 j) := by
    intro s i j v hv
    simp only [Rd, RdC] at hv
    obtain ⟨a, rfl, ⟨_, v0, hv0, _, rfl⟩, ⟨_, v1, hv1, _, rfl⟩, ⟨_, v2, hv2, _, rfl⟩, _⟩ := hv
    have e0 : a.add 0 = a := by simp [Addr.add]
    rw [e0] at hv0
    have e := cell_spot hv0
    rw [e] at hv0 hv1 hv2
    simp only [add_plain] at hv1 hv2
    exact ⟨a.block, a.off, by rw [← e], hv0, hv1, hv2⟩
  have hbx : ∀ {w1 : World}, Below w.heap.size w w1 → w1.cell? ⟨2, 0, none⟩ = some errTypeV := fun h => (h.cell (p := ⟨2, 0, none⟩) hlt).trans hc'
  cases e with
  | am s i j =>
    simp only [encE] at hu
    rw [Rd] at hu
    obtain ⟨v, rfl, hu⟩ := hu
    obtain ⟨b, off, rfl, h1, h2, h3⟩ := at3 hu
    refine fin _ (some (⟨b, off, none⟩, ⟨s.toArray⟩, i, j)) (by simp [whereC]) (where_of w _ (some (⟨b, off, none⟩, ⟨s.toArray⟩, i, j)) hc' (fun e s' i' j' h => by cases h; exact ⟨b, off, rfl, h1, h2, h3⟩) fun w1 hb ht hf => ?_)
    refine (as_hit' ⟨b, off, none⟩ _ _ w1 (hbx hb) ht hf).mono ?_
    rintro ev w' ⟨rfl, h4, h5⟩
    exact ⟨rfl, fun e he => by cases he; exact h4, h5⟩
  | ld f n x =>
    simp only [encE] at hu
    rw [Rd] at hu
    obtain ⟨v, rfl, hu⟩ := hu
    simp only [Rd, RdC] at hu
    obtain ⟨a, rfl, ⟨_, v0, hv0, _, rfl⟩, ⟨_, v1, hv1, _, rfl⟩, ⟨_, v2, hv2, _, hx2⟩, _⟩ := hu
    have e0 : a.add 0 = a := by simp [Addr.add]
    rw [e0] at hv0
    have e := cell_spot hv0
    rw [e] at hv2
    have hv2 : w.cell? ⟨a.block, a.off + 2, none⟩ = some v2 := by simpa [add_plain] using hv2
    have hal : (⟨a.block, a.off + 2, none⟩ : Addr).block < w.heap.size := cell_lt hv2
    have hw1 : ∀ {w1 : World}, Below w.heap.size w w1 → w1.cell? ⟨a.block, a.off + 2, none⟩ = some v2 := fun h => (h.cell (p := ⟨a.block, a.off + 2, none⟩) hal).trans hv2
    rw [e]
    cases x with
    | am s i j =>
      simp only [encE] at hx2
      rw [Rd] at hx2
      obtain ⟨v, rfl, hx2⟩ := hx2
      obtain ⟨b, off, rfl, h1, h2, h3⟩ := at3 hx2
      rw [e] at fin
      refine fin _ (some (⟨b, off, none⟩, ⟨s.toArray⟩, i, j)) (by simp [whereC]) (where_of w _ (some (⟨b, off, none⟩, ⟨s.toArray⟩, i, j)) hc' (fun e s' i' j' h => by cases h; exact ⟨b, off, rfl, h1, h2, h3⟩) fun w1 hb ht hf => ?_)
      refine (as_wrap' a.block a.off ⟨b, off, none⟩ _ _ w1 (hbx hb) ht hf (hw1 hb)).mono ?_
      rintro ev w' ⟨rfl, h4, h5⟩
      exact ⟨rfl, fun e he => by cases he; exact h4, h5⟩
    | sent g =>
      simp only [encE, Rd] at hx2
      obtain ⟨v, rfl, hx2⟩ := hx2
      rw [e] at fin
      refine fin _ none (by simp [whereC]) (where_of w _ none hc' (fun e s' i' j' h => by cases h) fun w1 hb ht hf => ?_)
      refine (as_wrap_miss' a.block a.off _ _ _ w1 (hbx hb) ht hf (hw1 hb)).mono ?_
      rintro ev w' ⟨rfl, h5⟩
      exact ⟨rfl, fun e he => (nomatch he), h5⟩
    | none => simp [flatC] at hfl
    | fault m y => simp [flatC] at hfl
    | ld f m y => simp [flatC] at hfl
    | gr l y => simp [flatC] at hfl
  | none => simp [flatC] at hfl
  | sent g => simp [flatC] at hfl
  | fault n x => simp [flatC] at hfl
  | gr l x => simp [flatC] at hfl
end Ac
end Go.Ab
