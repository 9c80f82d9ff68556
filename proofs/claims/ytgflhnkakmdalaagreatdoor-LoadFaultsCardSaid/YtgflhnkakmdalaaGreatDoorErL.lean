/- One text of a proof that a law of this seat says true for every input: errors and what they wrap. It holds of the given program under the conditions that the row prints. -/
import Derived.Test.YtgflhnkakmdalaaGreatDoorAbSimp
import Derived.WalkKit
import Derived.LaidEql
import Derived.Stop.Asserts
import Derived.RowKitTokens
import Derived.Test.YtgflhnkakmdalaaGreatDoorErA
import Derived.Below
import Derived.OwnWalk
import Derived.RegionTactic
set_option linter.unusedSimpArgs false
set_option linter.unusedVariables false
set_option linter.unusedSectionVars false
set_option maxRecDepth 100000
namespace Go.Ab
namespace Ld
open Go.Proofs Go.RowKit Go.Extern.Stop Go.Stop Go.Extern

/-- errors.As(nil, target). -/
theorem as_nil (t : Value) (w : World) :
    Calls Tryz.prog 15 #[.nilIface, t] w fun e w' => e = .returned (.bool false) ∧ w' = w := by
  go_enter Tryz.func15, Tryz.ntmps15
  go_wp2
  go_ret
  exact ⟨rfl, rfl⟩

/-! ### CLOSED FACTS ON THE MODEL's ENTRIES FOR internal/reflectlite, at this program's types: 25: *p.E · 27: **p.E · 23: error · 45: reflectlite's rtype · 1: how many package-level variables the dump has -/
theorem wh_valueOf27 (t : Addr) (w : World) : (ReflectliteValue.unpack (.iface 51 (.pointer (some t)))).run Tryz.prog w
    = .ok (.agg #[.pointer (some ⟨25, 51, none⟩), .pointer (some ⟨w.heap.size, 0, none⟩), .int .u64 150]) (w.alloc (.cells #[.pointer (some t)] 51)) := by kernel_rfl
theorem wh_type27 (a : Addr) (w : World) : (ReflectliteValue.methodAny (ReflectliteValue.valueError "reflectlite.Value.Type" 0) (fun t _ _ _ => ReflectliteType.toType t) #[.agg #[.pointer (some ⟨25, 51, none⟩), .pointer (some a), .int .u64 150]]).run Tryz.prog w
    = .ok (.iface 91 (.agg #[.pointer (some ⟨25, 51, none⟩)])) w := by kernel_rfl
theorem wh_methodKind (h : Value) (w : World) : (Go.method 363 91 (.agg #[h]) "Kind").run Tryz.prog w = .ok (178, h) w := by kernel_rfl
theorem wh_kind27 (w : World) : ((ReflectliteType.abiMethod fun t => (fun a : Nat => Value.int IntKind.u8 (a : Int)) <$> Rtype.kind t) #[.pointer (some ⟨25, 51, none⟩)]).run Tryz.prog w = .ok (.int .u8 22) w := by kernel_rfl
theorem wh_kind25 (w : World) : ((ReflectliteType.abiMethod fun t => (fun a : Nat => Value.int IntKind.u8 (a : Int)) <$> Rtype.kind t) #[.pointer (some ⟨25, 24, none⟩)]).run Tryz.prog w = .ok (.int .u8 22) w := by kernel_rfl

/-! ### THE ENTRIES THAT READ OR WRITE MEMORY: laws with a premise on the cell (after Derived/Lib/ReflectliteSlice.lean's manner: each unfolding a lemma of its own, by rfl) -/
theorem rlm (z : Sem Value) (f : TypeId → Addr → Nat → Nat → Sem Value) (v : Value) :
    ReflectliteValue.method z f #[v] = (do match ← ReflectliteValue.parts v with | none => z | some (t, a, fl) => f t a fl (fl % 32)) := rfl
theorem wh_parts27 (a : Addr) (w : World) : (ReflectliteValue.parts (.agg #[.pointer (some ⟨25, 51, none⟩), .pointer (some a), .int .u64 150])).run Tryz.prog w = .ok (some (51, a, 150)) w := by kernel_rfl
/-- (Value).IsNil at the Value of a **p.E that is not nil. -/
theorem wh_isNil27 (a p : Addr) (W : World) (ha : W.cell? a = some (.pointer (some p))) :
    (ReflectliteValue.method (ReflectliteValue.valueError "reflectlite.Value.IsNil" 0) ReflectliteValue.isNil #[.agg #[.pointer (some ⟨25, 51, none⟩), .pointer (some a), .int .u64 150]]).run Tryz.prog W = .ok (.bool false) W := by
  rw [rlm]
  simp only [Sem.run_bind, wh_parts27, Result.andThen]
  simp [ReflectliteValue.isNil, loadVar, isAgg, underlying, Tryz.underlying51, ha, Result.andThen]

theorem wh_methodElem (h : Value) (w : World) : (Go.method 363 91 (.agg #[h]) "Elem").run Tryz.prog w = .ok (190, .agg #[h]) w := by kernel_rfl
theorem wh_methodImplements (h : Value) (w : World) : (Go.method 363 91 (.agg #[h]) "Implements").run Tryz.prog w = .ok (191, .agg #[h]) w := by kernel_rfl
theorem wh_methodAssignableTo (h : Value) (w : World) : (Go.method 363 91 (.agg #[h]) "AssignableTo").run Tryz.prog w = .ok (188, .agg #[h]) w := by kernel_rfl
theorem wh_elem27 (w : World) : (ReflectliteType.method ReflectliteType.elem #[.agg #[.pointer (some ⟨25, 51, none⟩)]]).run Tryz.prog w = .ok (.iface 91 (.agg #[.pointer (some ⟨25, 24, none⟩)])) w := by kernel_rfl
theorem wh_implements25 (w : World) : (ReflectliteType.relation "Implements" ReflectliteType.implements_ #[.agg #[.pointer (some ⟨25, 24, none⟩)], .iface 91 (.agg #[.pointer (some ⟨25, 26, none⟩)])]).run Tryz.prog w = .ok (.bool true) w := by kernel_rfl
theorem wh_typeOf25 (v : Value) (w : World) : (ReflectliteType.typeOf #[.iface 24 v]).run Tryz.prog w = .ok (.iface 91 (.agg #[.pointer (some ⟨25, 24, none⟩)])) w := by kernel_rfl
theorem wh_assignable25 (w : World) : (ReflectliteType.relation "AssignableTo" ReflectliteType.assignableTo #[.agg #[.pointer (some ⟨25, 24, none⟩)], .iface 91 (.agg #[.pointer (some ⟨25, 24, none⟩)])]).run Tryz.prog w = .ok (.bool true) w := by kernel_rfl
theorem wh_valueOf25 (e : Addr) (w : World) : (ReflectliteValue.unpack (.iface 24 (.pointer (some e)))).run Tryz.prog w
    = .ok (.agg #[.pointer (some ⟨25, 24, none⟩), .pointer (some ⟨w.heap.size, 0, none⟩), .int .u64 150]) (w.alloc (.cells #[.pointer (some e)] 24)) := by kernel_rfl

theorem wh_elemOf27 (w : World) : (Rtype.elem? 51).run Tryz.prog w = .ok (some 24) w := by kernel_rfl
theorem wh_mk25 (p : Addr) (w : World) : (ReflectliteValue.mk 24 p ReflectliteValue.flagAddr).run Tryz.prog w = .ok (.agg #[.pointer (some ⟨25, 24, none⟩), .pointer (some p), .int .u64 406]) w := by kernel_rfl
/-- (Value).Elem at the Value of a **p.E that is not nil: the Value of the *p.E variable that it points to, addressable. -/
theorem wh_elemV27 (a p : Addr) (W : World) (ha : W.cell? a = some (.pointer (some p))) :
    (ReflectliteValue.method (ReflectliteValue.valueError "reflectlite.Value.Elem" 0) ReflectliteValue.elem #[.agg #[.pointer (some ⟨25, 51, none⟩), .pointer (some a), .int .u64 150]]).run Tryz.prog W
      = .ok (.agg #[.pointer (some ⟨25, 24, none⟩), .pointer (some p), .int .u64 406]) W := by
  rw [rlm]
  simp only [Sem.run_bind, wh_parts27, Result.andThen]
  simp [ReflectliteValue.elem, loadVar, isAgg, underlying, Tryz.underlying51, ha, Result.andThen, wh_elemOf27, wh_mk25]
theorem rls (v x : Value) : ReflectliteValue.set #[v, x] = (do
    let (some (dst, a, fl), some (src, b, _)) := (← ReflectliteValue.parts v, ← ReflectliteValue.parts x)
      | unsupported (.noEntry "extern/(internal/reflectlite.Value).Set.zeroValue")
    if fl / ReflectliteValue.flagAddr % 2 == 0 then unsupported (.noEntry "extern/(internal/reflectlite.Value).Set.unaddressable")
    let val ← loadVar src b
    if ← Rtype.directlyAssignable dst src then storeVar dst a val
    else if ← Rtype.implements dst src then
      if (← Rtype.kind src) == 20 then
        match val with
        | .nilIface => unsupported (.noEntry "extern/reflectlite: a nil value of one interface type handed on as a value of another")
        | _ => storeVar dst a val
      else storeVar dst a (.iface src val)
    else panicString ("reflectlite.Set: value of type " ++ (← Rtype.spelt src) ++ " is not assignable to type " ++ (← Rtype.spelt dst))
    pure (.tuple #[])) := rfl
theorem wh_parts25a (a : Addr) (w : World) : (ReflectliteValue.parts (.agg #[.pointer (some ⟨25, 24, none⟩), .pointer (some a), .int .u64 406])).run Tryz.prog w = .ok (some (24, a, 406)) w := by kernel_rfl
theorem wh_parts25 (a : Addr) (w : World) : (ReflectliteValue.parts (.agg #[.pointer (some ⟨25, 24, none⟩), .pointer (some a), .int .u64 150])).run Tryz.prog w = .ok (some (24, a, 150)) w := by kernel_rfl
theorem wh_direct25 (w : World) : (Rtype.directlyAssignable 24 24).run Tryz.prog w = .ok true w := by kernel_rfl
theorem wh_size25 (w : World) : (sizeOf 24).run Tryz.prog w = .ok 1 w := by kernel_rfl
/-- (Value).Set: the *p.E variable at 'ta' gets what the Value's own variable 'b' holds. -/
theorem wh_set25 (ta b e : Addr) (old : Value) (W : World) (hb : W.cell? b = some (.pointer (some e))) (ht : W.cell? ta = some old) (hf : W.frozen? ta = false) :
    (ReflectliteValue.set #[.agg #[.pointer (some ⟨25, 24, none⟩), .pointer (some ta), .int .u64 406], .agg #[.pointer (some ⟨25, 24, none⟩), .pointer (some b), .int .u64 150]]).run Tryz.prog W
      = .ok (.tuple #[]) (W.setCell ta (.pointer (some e))) := by
  rw [rls]
  simp only [Sem.run_bind, wh_parts25a, wh_parts25, Result.andThen]
  simp [ReflectliteValue.flagAddr, loadVar, isAgg, underlying, Tryz.underlying24, hb, Result.andThen, wh_direct25, storeVar, Value.cells, storeCells, Addr.add]
  rw [run_store Tryz.prog W ta _ _ (by rfl)]
  simp [ht, hf]

set_option maxHeartbeats 4000000 in
theorem as_hit (e t : Addr) (old : Value) (w : World) (hg : w.cell? ⟨18, 0, none⟩ = some (.iface 91 (.agg #[.pointer (some ⟨25, 26, none⟩)]))) (ht0 : w.cell? t = some old) (hf0 : w.frozen? t = false) :
    Calls Tryz.prog 15 #[.iface 24 (.pointer (some e)), .iface 51 (.pointer (some t))] w fun ev w' => ev = .returned (.bool true) ∧ w' = ((((w.alloc (.cells #[.pointer (some t)] 51)).alloc (.cells #[.pointer (some ⟨25, 51, none⟩), .pointer (some ⟨w.heap.size, 0, none⟩), .int .u64 150] 69)).alloc (.cells #[.pointer (some ⟨25, 51, none⟩), .pointer (some ⟨w.heap.size, 0, none⟩), .int .u64 150] 69)).alloc (.cells #[.pointer (some e)] 24)).setCell t (.pointer (some e)) := by
  have h6 := @run_callFunc_extern Tryz.prog 20 _ (fun args => ReflectliteValue.unpack (args.getD 0 (.tuple #[]))) Tryz.func20 (by kernel_rfl) (by kernel_rfl) (by kernel_rfl) (by kernel_rfl)
  have h7 := @run_callFunc_extern Tryz.prog 21 _ (ReflectliteValue.methodAny (ReflectliteValue.valueError "reflectlite.Value.Type" 0) (fun t _ _ _ => ReflectliteType.toType t)) Tryz.func21 (by kernel_rfl) (by kernel_rfl) (by kernel_rfl) (by kernel_rfl)
  have h8 := @run_callFunc_extern Tryz.prog 22 _ (ReflectliteValue.method (ReflectliteValue.valueError "reflectlite.Value.IsNil" 0) ReflectliteValue.isNil) Tryz.func22 (by kernel_rfl) (by kernel_rfl) (by kernel_rfl) (by kernel_rfl)
  have h27 := @run_callFunc_extern Tryz.prog 178 _ (ReflectliteType.abiMethod fun t => do pure (.int .u8 (← Rtype.kind t))) Tryz.func178 (by kernel_rfl) (by kernel_rfl) (by kernel_rfl) (by kernel_rfl)
  have h37 := @run_callFunc_extern Tryz.prog 190 _ (ReflectliteType.method ReflectliteType.elem) Tryz.func190 (by kernel_rfl) (by kernel_rfl) (by kernel_rfl) (by kernel_rfl)
  have h38 := @run_callFunc_extern Tryz.prog 191 _ (ReflectliteType.relation "Implements" ReflectliteType.implements_) Tryz.func191 (by kernel_rfl) (by kernel_rfl) (by kernel_rfl) (by kernel_rfl)
  have h10 := @run_callFunc_extern Tryz.prog 25 _ ReflectliteType.typeOf Tryz.func25 (by kernel_rfl) (by kernel_rfl) (by kernel_rfl) (by kernel_rfl)
  have h35 := @run_callFunc_extern Tryz.prog 188 _ (ReflectliteType.relation "AssignableTo" ReflectliteType.assignableTo) Tryz.func188 (by kernel_rfl) (by kernel_rfl) (by kernel_rfl) (by kernel_rfl)
  have h11 := @run_callFunc_extern Tryz.prog 31 _ (ReflectliteValue.method (ReflectliteValue.valueError "reflectlite.Value.Elem" 0) ReflectliteValue.elem) Tryz.func31 (by kernel_rfl) (by kernel_rfl) (by kernel_rfl) (by kernel_rfl)
  have h12 := @run_callFunc_extern Tryz.prog 32 _ ReflectliteValue.set Tryz.func32 (by kernel_rfl) (by kernel_rfl) (by kernel_rfl) (by kernel_rfl)
  have tO := wh_typeOf25
  have mA := wh_methodAssignableTo
  have a25 := wh_assignable25
  have v25 := wh_valueOf25
  have f6 := wh_valueOf27
  have f7 := wh_type27
  have mK := wh_methodKind
  have mE := wh_methodElem
  have mI := wh_methodImplements
  have k27 := wh_kind27
  have k25 := wh_kind25
  have e27 := wh_elem27
  have i25 := wh_implements25
  have n8 := wh_isNil27 ⟨w.heap.size, 0, none⟩ t ((w.alloc (.cells #[.pointer (some t)] 51)).alloc (.cells #[.pointer (some ⟨25, 51, none⟩), .pointer (some ⟨w.heap.size, 0, none⟩), .int .u64 150] 69)) (by simp)
  have hlt : 18 < w.heap.size := by
    rcases Nat.lt_or_ge 18 w.heap.size with h | h
    · exact h
    · simp [World.cell?, Array.getElem?_eq_none h] at hg
  have hg2 : ((w.alloc (.cells #[.pointer (some t)] 51)).alloc (.cells #[.pointer (some ⟨25, 51, none⟩), .pointer (some ⟨w.heap.size, 0, none⟩), .int .u64 150] 69)).cell? ⟨18, 0, none⟩ = some (.iface 91 (.agg #[.pointer (some ⟨25, 26, none⟩)])) := by
    rw [World.cell?_alloc_lt _ _ ⟨18, 0, none⟩ (by simp; omega), World.cell?_alloc_lt _ _ ⟨18, 0, none⟩ hlt]; exact hg
  have htl : t.block < w.heap.size := by
    rcases Nat.lt_or_ge t.block w.heap.size with h | h
    · exact h
    · simp [World.cell?, Array.getElem?_eq_none h] at ht0
  have el := wh_elemV27 ⟨w.heap.size, 0, none⟩ t (((w.alloc (.cells #[.pointer (some t)] 51)).alloc (.cells #[.pointer (some ⟨25, 51, none⟩), .pointer (some ⟨w.heap.size, 0, none⟩), .int .u64 150] 69)).alloc (.cells #[.pointer (some ⟨25, 51, none⟩), .pointer (some ⟨w.heap.size, 0, none⟩), .int .u64 150] 69)) (by rw [World.cell?_alloc_lt _ _ ⟨w.heap.size, 0, none⟩ (by simp; omega)]; simp)
  have st := wh_set25 t ⟨w.heap.size + 1 + 1 + 1, 0, none⟩ e old ((((w.alloc (.cells #[.pointer (some t)] 51)).alloc (.cells #[.pointer (some ⟨25, 51, none⟩), .pointer (some ⟨w.heap.size, 0, none⟩), .int .u64 150] 69)).alloc (.cells #[.pointer (some ⟨25, 51, none⟩), .pointer (some ⟨w.heap.size, 0, none⟩), .int .u64 150] 69)).alloc (.cells #[.pointer (some e)] 24))
    (by rw [World.cell?_alloc_at _ _ _ _ (by simp)]; rfl)
    (by rw [World.cell?_alloc_lt _ _ t (by simp; omega), World.cell?_alloc_lt _ _ t (by simp; omega), World.cell?_alloc_lt _ _ t (by simp; omega), World.cell?_alloc_lt _ _ t htl]; exact ht0)
    (by rw [World.frozen?_alloc_old _ _ t (by simp; omega), World.frozen?_alloc_old _ _ t (by simp; omega), World.frozen?_alloc_old _ _ t (by simp; omega), World.frozen?_alloc_old _ _ t (Nat.ne_of_lt htl)]; exact hf0)
  go_enter Tryz.func15, Tryz.ntmps15
  go_wp2
  refine wp_loop_rounds 1 ?_
  rw [rounds_succ]
  go_wp2
  go_ret
  exact ⟨rfl, rfl⟩
end Ld
end Go.Ab

set_option maxRecDepth 100000
namespace Go.Ab
namespace Ld
open Go.Proofs Go.RowKit Go.Extern.Stop Go.Stop Go.Extern

theorem wh_typeOf228 (v : Value) (w : World) : (ReflectliteType.typeOf #[.iface 233 v]).run Tryz.prog w = .ok (.iface 91 (.agg #[.pointer (some ⟨25, 233, none⟩)])) w := by kernel_rfl
theorem wh_assignable228 (w : World) : (ReflectliteType.relation "AssignableTo" ReflectliteType.assignableTo #[.agg #[.pointer (some ⟨25, 233, none⟩)], .iface 91 (.agg #[.pointer (some ⟨25, 24, none⟩)])]).run Tryz.prog w = .ok (.bool false) w := by kernel_rfl
theorem wh_noAs (v : Value) (xT : TypeId) (w : World) : (Instr.typeAssert (.iface 233 v) xT 95 true).run Tryz.prog w = .ok (.tuple #[.nilIface, .bool false]) w := run_typeAssert_lacksB Tryz.underlying95 (by kernel_rfl) (by kernel_rfl) v xT w
theorem wh_noUnwrap (v : Value) (xT : TypeId) (w : World) : (Instr.typeAssert (.iface 233 v) xT 98 true).run Tryz.prog w = .ok (.tuple #[.nilIface, .bool false]) w := run_typeAssert_lacksB Tryz.underlying98 (by kernel_rfl) (by kernel_rfl) v xT w
theorem wh_noUnwraps (v : Value) (xT : TypeId) (w : World) : (Instr.typeAssert (.iface 233 v) xT 99 true).run Tryz.prog w = .ok (.tuple #[.nilIface, .bool false]) w := run_typeAssert_lacksB Tryz.underlying99 (by kernel_rfl) (by kernel_rfl) v xT w
set_option maxHeartbeats 4000000 in
theorem as_miss (v : Value) (t : Addr) (old : Value) (w : World) (hg : w.cell? ⟨18, 0, none⟩ = some (.iface 91 (.agg #[.pointer (some ⟨25, 26, none⟩)]))) (ht0 : w.cell? t = some old) (hf0 : w.frozen? t = false) :
    Calls Tryz.prog 15 #[.iface 233 v, .iface 51 (.pointer (some t))] w fun ev w' => ev = .returned (.bool false) ∧ w' = ((w.alloc (.cells #[.pointer (some t)] 51)).alloc (.cells #[.pointer (some ⟨25, 51, none⟩), .pointer (some ⟨w.heap.size, 0, none⟩), .int .u64 150] 69)).alloc (.cells #[.pointer (some ⟨25, 51, none⟩), .pointer (some ⟨w.heap.size, 0, none⟩), .int .u64 150] 69) := by
  have h6 := @run_callFunc_extern Tryz.prog 20 _ (fun args => ReflectliteValue.unpack (args.getD 0 (.tuple #[]))) Tryz.func20 (by kernel_rfl) (by kernel_rfl) (by kernel_rfl) (by kernel_rfl)
  have h7 := @run_callFunc_extern Tryz.prog 21 _ (ReflectliteValue.methodAny (ReflectliteValue.valueError "reflectlite.Value.Type" 0) (fun t _ _ _ => ReflectliteType.toType t)) Tryz.func21 (by kernel_rfl) (by kernel_rfl) (by kernel_rfl) (by kernel_rfl)
  have h8 := @run_callFunc_extern Tryz.prog 22 _ (ReflectliteValue.method (ReflectliteValue.valueError "reflectlite.Value.IsNil" 0) ReflectliteValue.isNil) Tryz.func22 (by kernel_rfl) (by kernel_rfl) (by kernel_rfl) (by kernel_rfl)
  have h27 := @run_callFunc_extern Tryz.prog 178 _ (ReflectliteType.abiMethod fun t => do pure (.int .u8 (← Rtype.kind t))) Tryz.func178 (by kernel_rfl) (by kernel_rfl) (by kernel_rfl) (by kernel_rfl)
  have h37 := @run_callFunc_extern Tryz.prog 190 _ (ReflectliteType.method ReflectliteType.elem) Tryz.func190 (by kernel_rfl) (by kernel_rfl) (by kernel_rfl) (by kernel_rfl)
  have h38 := @run_callFunc_extern Tryz.prog 191 _ (ReflectliteType.relation "Implements" ReflectliteType.implements_) Tryz.func191 (by kernel_rfl) (by kernel_rfl) (by kernel_rfl) (by kernel_rfl)
  have h10 := @run_callFunc_extern Tryz.prog 25 _ ReflectliteType.typeOf Tryz.func25 (by kernel_rfl) (by kernel_rfl) (by kernel_rfl) (by kernel_rfl)
  have h35 := @run_callFunc_extern Tryz.prog 188 _ (ReflectliteType.relation "AssignableTo" ReflectliteType.assignableTo) Tryz.func188 (by kernel_rfl) (by kernel_rfl) (by kernel_rfl) (by kernel_rfl)
  have h11 := @run_callFunc_extern Tryz.prog 31 _ (ReflectliteValue.method (ReflectliteValue.valueError "reflectlite.Value.Elem" 0) ReflectliteValue.elem) Tryz.func31 (by kernel_rfl) (by kernel_rfl) (by kernel_rfl) (by kernel_rfl)
  have h12 := @run_callFunc_extern Tryz.prog 32 _ ReflectliteValue.set Tryz.func32 (by kernel_rfl) (by kernel_rfl) (by kernel_rfl) (by kernel_rfl)
  have tO := wh_typeOf25
  have mA := wh_methodAssignableTo
  have a25 := wh_assignable25
  have v25 := wh_valueOf25
  have f6 := wh_valueOf27
  have f7 := wh_type27
  have mK := wh_methodKind
  have mE := wh_methodElem
  have mI := wh_methodImplements
  have k27 := wh_kind27
  have k25 := wh_kind25
  have e27 := wh_elem27
  have i25 := wh_implements25
  have n8 := wh_isNil27 ⟨w.heap.size, 0, none⟩ t ((w.alloc (.cells #[.pointer (some t)] 51)).alloc (.cells #[.pointer (some ⟨25, 51, none⟩), .pointer (some ⟨w.heap.size, 0, none⟩), .int .u64 150] 69)) (by simp)
  have hlt : 18 < w.heap.size := by
    rcases Nat.lt_or_ge 18 w.heap.size with h | h
    · exact h
    · simp [World.cell?, Array.getElem?_eq_none h] at hg
  have hg2 : ((w.alloc (.cells #[.pointer (some t)] 51)).alloc (.cells #[.pointer (some ⟨25, 51, none⟩), .pointer (some ⟨w.heap.size, 0, none⟩), .int .u64 150] 69)).cell? ⟨18, 0, none⟩ = some (.iface 91 (.agg #[.pointer (some ⟨25, 26, none⟩)])) := by
    rw [World.cell?_alloc_lt _ _ ⟨18, 0, none⟩ (by simp; omega), World.cell?_alloc_lt _ _ ⟨18, 0, none⟩ hlt]; exact hg
  have htl : t.block < w.heap.size := by
    rcases Nat.lt_or_ge t.block w.heap.size with h | h
    · exact h
    · simp [World.cell?, Array.getElem?_eq_none h] at ht0
  have tO2 := wh_typeOf228
  have a228 := wh_assignable228
  have nA := wh_noAs
  have nU := wh_noUnwrap
  have nUs := wh_noUnwraps
  go_enter Tryz.func15, Tryz.ntmps15
  go_wp2
  refine wp_loop_rounds 1 ?_
  rw [rounds_succ]
  go_wp2
  go_ret
  exact ⟨rfl, rfl⟩
end Ld
end Go.Ab

set_option maxRecDepth 100000
namespace Go.Ab
namespace Ld
open Go.Proofs Go.RowKit Go.Extern.Stop Go.Stop Go.Extern
variable {glob : Nat → Option (List D)} {p : Nat → Addr} {o : Nat → Obj}

/-- The variable in which package errors keeps the handle of the type error. -/
abbrev errTypeV : Value := .iface 91 (.agg #[.pointer (some ⟨25, 26, none⟩)])
theorem as_hit' (e t : Addr) (old : Value) (w : World) (hg : w.cell? ⟨18, 0, none⟩ = some errTypeV) (ht0 : w.cell? t = some old) (hf0 : w.frozen? t = false) :
    Calls Tryz.prog 15 #[.iface 24 (.pointer (some e)), .iface 51 (.pointer (some t))] w fun ev w' => ev = .returned (.bool true) ∧ w'.cell? t = some (.pointer (some e)) ∧ Below t.block w w' := by
  have htl : t.block < w.heap.size := cell_lt ht0
  refine (as_hit e t old w hg ht0 hf0).mono ?_
  rintro ev w' ⟨rfl, rfl⟩
  refine ⟨rfl, ?_, ?_⟩
  · refine World.cell?_setCell_same _ _ _ (?_ : _ = some old)
    rw [World.cell?_alloc_lt _ _ t (by simp; omega), World.cell?_alloc_lt _ _ t (by simp; omega), World.cell?_alloc_lt _ _ t (by simp; omega), World.cell?_alloc_lt _ _ t htl]
    exact ht0
  · refine Below.setCell ?_ (Nat.le_refl _) _
    exact ((((Below.refl t.block w).alloc (by omega) _).alloc (by simp; omega) _).alloc (by simp; omega) _).alloc (by simp; omega) _
theorem as_miss' (v : Value) (t : Addr) (old : Value) (w : World) (hg : w.cell? ⟨18, 0, none⟩ = some errTypeV) (ht0 : w.cell? t = some old) (hf0 : w.frozen? t = false) :
    Calls Tryz.prog 15 #[.iface 233 v, .iface 51 (.pointer (some t))] w fun ev w' => ev = .returned (.bool false) ∧ Below t.block w w' := by
  have htl : t.block < w.heap.size := cell_lt ht0
  refine (as_miss v t old w hg ht0 hf0).mono ?_
  rintro ev w' ⟨rfl, rfl⟩
  exact ⟨rfl, (((Below.refl t.block w).alloc (by omega) _).alloc (by simp; omega) _).alloc (by simp; omega) _⟩
theorem where_nil (w : World) : Calls Tryz.prog 6 #[.nilIface] w fun e w' => e = .returned (.tuple #[.string ⟨#[]⟩, .int .i64 0, .bool false]) ∧ Below w.heap.size w w' := by
  go_enter Tryz.func6, Tryz.ntmps6
  go_wp2_with (first | (go_at_call 15; refine (as_nil _ _).mono ?_; rintro e w' ⟨rfl, rfl⟩))

  go_ret3
  exact ⟨rfl, (Below.refl _ _).alloc (Nat.le_refl _) _⟩
theorem where_miss (v : Value) (w : World) (hg : w.cell? ⟨18, 0, none⟩ = some errTypeV) : Calls Tryz.prog 6 #[.iface 233 v] w fun e w' => e = .returned (.tuple #[.string ⟨#[]⟩, .int .i64 0, .bool false]) ∧ Below w.heap.size w w' := by
  have hlt : 18 < w.heap.size := cell_lt hg
  have hgA : (w.alloc (.cells #[.pointer none] 24)).cell? ⟨18, 0, none⟩ = some errTypeV := by
    rw [World.cell?_alloc_lt _ _ ⟨18, 0, none⟩ hlt]
    exact hg
  have htA : (w.alloc (.cells #[.pointer none] 24)).cell? ⟨w.heap.size, 0, none⟩ = some (.pointer none) := by simp
  have hfA : (w.alloc (.cells #[.pointer none] 24)).frozen? ⟨w.heap.size, 0, none⟩ = false := by simp
  have h0 := as_miss' v ⟨w.heap.size, 0, none⟩ (.pointer none) _ hgA htA hfA
  go_enter Tryz.func6, Tryz.ntmps6
  go_wp2_with (first | (go_at_call 15; refine h0.mono ?_; rintro e w' ⟨rfl, hb⟩))
  go_ret3
  exact ⟨rfl, ((Below.refl _ _).alloc (Nat.le_refl _) _).trans hb⟩
theorem where_hit (s : ByteArray) (n : Int) (a : Addr) (w : World) (hg : w.cell? ⟨18, 0, none⟩ = some errTypeV) (ha : w.cell? a = some (.string s)) (hb : w.cell? (a.add 1) = some (.int .i64 n)) :
    Calls Tryz.prog 6 #[.iface 24 (.pointer (some a))] w fun e w' => e = .returned (.tuple #[.string s, .int .i64 n, .bool true]) ∧ Below w.heap.size w w' := by
  have hlt : 18 < w.heap.size := cell_lt hg
  have hal : a.block < w.heap.size := cell_lt ha
  have hgA : (w.alloc (.cells #[.pointer none] 24)).cell? ⟨18, 0, none⟩ = some errTypeV := by
    rw [World.cell?_alloc_lt _ _ ⟨18, 0, none⟩ hlt]
    exact hg
  have htA : (w.alloc (.cells #[.pointer none] 24)).cell? ⟨w.heap.size, 0, none⟩ = some (.pointer none) := by simp
  have hfA : (w.alloc (.cells #[.pointer none] 24)).frozen? ⟨w.heap.size, 0, none⟩ = false := by simp
  have haA : (w.alloc (.cells #[.pointer none] 24)).cell? a = some (.string s) := by
    rw [World.cell?_alloc_lt _ _ a hal]
    exact ha
  have hbA : (w.alloc (.cells #[.pointer none] 24)).cell? (a.add 1) = some (.int .i64 n) := by
    rw [World.cell?_alloc_lt _ _ (a.add 1) hal]
    exact hb
  have h0 : Calls Tryz.prog 15 #[.iface 24 (.pointer (some a)), .iface 51 (.pointer (some ⟨w.heap.size, 0, none⟩))] (w.alloc (.cells #[.pointer none] 24)) fun ev w' => ev = .returned (.bool true) ∧ w'.cell? ⟨w.heap.size, 0, none⟩ = some (.pointer (some a)) ∧ w'.cell? a = some (.string s) ∧ w'.cell? (a.add 0) = some (.string s) ∧ w'.cell? (a.add 1) = some (.int .i64 n) ∧ Below w.heap.size w w' := by
    refine (as_hit' a ⟨w.heap.size, 0, none⟩ (.pointer none) _ hgA htA hfA).mono ?_
    rintro ev w' ⟨rfl, h1, h2⟩
    have h3 : w'.cell? a = some (.string s) := (h2.cell hal).trans haA
    have h4 : w'.cell? (a.add 1) = some (.int .i64 n) := (h2.cell (p := a.add 1) hal).trans hbA
    exact ⟨rfl, h1, h3, by rw [show a.add 0 = a by simp [Addr.add]]; exact h3, h4, ((Below.refl _ _).alloc (Nat.le_refl _) _).trans h2⟩
  go_enter Tryz.func6, Tryz.ntmps6
  go_wp2_with (first | (go_at_call 15; refine h0.mono ?_; rintro e w' ⟨rfl, h1, h2, h3, h4, hb⟩))
  replace h4 : w'.cell? ⟨a.block, a.off + 1, none⟩ = some (.int .i64 n) := h4
  go_region
  all_goals go_wp2
  all_goals go_ret3
  all_goals exact ⟨rfl, hb.trans ((Below.refl _ _).drew)⟩

/-- load.Where, where nothing but mkfiles' faults is wrapped -/
def whereL : Er → List UInt8 × Int × Bool
  | .ld f n _ => (f, n, true)
  | _ => ([], 0, false)
def flatL : Er → Bool
  | .none => true
  | .sent _ => true
  | .ld _ _ _ => true
  | _ => false
noncomputable def FW (p : Nat → Addr) (o : Nat → Obj) : List D → Option (List D) := liftG (fun e : Er => e.good = true ∧ flatL e = true) (fun e => [encE p o e]) fun e => some [.s (whereL e).1, .v (.int .i64 (whereL e).2.1), .v (.bool (whereL e).2.2)]
theorem FW_eq (hs : Sents glob p o) (e : Er) (he : e.good = true) (hf : flatL e = true) : FW p o [encE p o e] = some [.s (whereL e).1, .v (.int .i64 (whereL e).2.1), .v (.bool (whereL e).2.2)] :=
  liftG_enc (good := fun e : Er => e.good = true ∧ flatL e = true) (enc := fun e => [encE p o e]) (f := fun e => some [.s (whereL e).1, .v (.int .i64 (whereL e).2.1), .v (.bool (whereL e).2.2)]) (fun a b ha hb h => by
    simp only [List.cons.injEq, and_true] at h
    rw [encE_inj hs.inj a b ha.1 hb.1 h]) e ⟨he, hf⟩
theorem FW_ok (h19 : glob 18 = some [.ifc 91 (.st [.v (.pointer (some ⟨25, 26, none⟩))])]) : Pure Tryz.prog (mkCtx tab glob) 6 (FW p o) := by
  refine Pure.mk' Tryz.func6 (by kernel_rfl) (by kernel_rfl) fun ds rs hF N w vs hN hG hv => ?_
  obtain ⟨e, ⟨hg, hfl⟩, rfl, h⟩ := liftG_some hF
  cases h
  obtain ⟨u, rfl, hu⟩ := rd1 hv
  have hg := hG 18 _ h19
  simp only [RdC, and_true] at hg
  obtain ⟨_, x, hc, _, hx⟩ := hg
  simp only [Rd, RdL] at hx
  obtain ⟨y, rfl, us, rfl, _, _, rfl, rfl, rfl⟩ := hx
  have hc' : w.cell? ⟨18, 0, none⟩ = some errTypeV := by simpa [add_plain] using hc
  have fin : ∀ (s : List UInt8) (n : Int) (b : Bool), (s, n, b) = whereL e → Calls Tryz.prog 6 #[u] w (fun e w' => e = .returned (.tuple #[(.string ⟨s.toArray⟩ : Value), .int .i64 n, .bool b]) ∧ Below w.heap.size w w') →
      Calls Tryz.prog 6 #[u] w fun e_1 w' => ∃ us, RdL N w' [D.s (whereL e).1, D.v (.int .i64 (whereL e).2.1), D.v (.bool (whereL e).2.2)] us ∧ e_1 = .returned (pack us) ∧ Chg (fun _ _ => False) w w' := by
    intro s n b hnb hcall
    refine hcall.mono ?_
    rintro e' w' ⟨rfl, hb⟩
    refine ⟨[(.string ⟨s.toArray⟩ : Value), .int .i64 n, .bool b], ?_, rfl, Chg.below.2 hb⟩
    rw [← hnb]
    simp only [RdL, Rd]
    exact ⟨_, _, rfl, rfl, _, _, rfl, rfl, _, _, rfl, rfl, rfl⟩
  cases e with
  | none =>
    simp only [encE, Rd] at hu
    subst hu
    exact fin [] 0 false rfl (where_nil w)
  | sent g =>
    simp only [encE, Rd] at hu
    obtain ⟨_, rfl, rfl, _⟩ := hu
    exact fin [] 0 false rfl (where_miss _ w hc')
  | ld s n x =>
    simp only [encE, Rd, RdC] at hu
    obtain ⟨_, rfl, a, rfl, ⟨_, v, hv0, _, rfl⟩, ⟨_, v1, hv1, _, rfl⟩, _⟩ := hu
    exact fin s n true rfl (where_hit _ n a w hc' (by rwa [show a.add 0 = a by simp [Addr.add]] at hv0) (by simpa [D.cells] using hv1))
  | fault n x => simp [flatL] at hfl
  | gr l x => simp [flatL] at hfl
  | am s i j => simp [flatL] at hfl
end Ld
end Go.Ab
