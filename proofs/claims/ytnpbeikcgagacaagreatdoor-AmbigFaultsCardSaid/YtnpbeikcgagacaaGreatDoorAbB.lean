/- One text of a proof that a law of this seat says true for every input: an evaluator of code over data, and that it tells the truth. It holds of the given program under the conditions that the row prints. -/
import Derived.Test.YtnpbeikcgagacaaGreatDoorAbA
import Derived.Laws.Cells
import Derived.Laws.Entries
import Derived.Stop.Asserts
import Derived.MapKept
import Derived.Laws.BytesArg
import Derived.Deep.Upon
import Derived.LaidEql
import Derived.Laws.Strings
set_option linter.unusedSimpArgs false
set_option linter.unusedVariables false
set_option linter.unusedSectionVars false
namespace Go.Ab

def tdOk (P : Program) (T : Ctx) (t : TypeId) : Prop :=
  match T.td t with
  | .int k => P.underlying t = some (.int k)
  | .bool => P.underlying t = some .bool
  | .str => P.underlying t = some .string
  | .slice e => P.underlying t = some (.slice e) ∧ T.td e ≠ .other
  | .strct fs => ∃ a : Array Field, P.underlying t = some (.struct a) ∧ a.toList.map (fun f => (f.type, f.offset)) = fs ∧ ∀ f ∈ fs, T.td f.1 ≠ .other ∧ T.sz f.1 ≠ 0
  | .ptr e => P.underlying t = some (.pointer e)
  | .iface em => ∃ ms, P.underlying t = some (.interface ms) ∧ ms.isEmpty = em
  | .func => ∃ a b c, P.underlying t = some (.func a b c)
  | .map k e => P.underlying t = some (.map k e)
  | .arr n e => P.underlying t = some (.array n e) ∧ T.td e ≠ .other
  | .other => True

/-- a zero value's cells -/
def zeroL : List D → List Value → Prop
  | [], vs => vs = []
  | .v x :: ds, vs => ∃ vs', vs = x :: vs' ∧ D.cell (.v x) = true ∧ zeroL ds vs'
  | .s [] :: ds, vs => ∃ vs', vs = .string ⟨#[]⟩ :: vs' ∧ zeroL ds vs'
  | .sl _ [] :: ds, vs => ∃ vs', vs = .slice none 0 0 :: vs' ∧ zeroL ds vs'
  | _ :: _, _ => False

structure TOk (P : Program) (T : Ctx) : Prop where
  td : ∀ t, tdOk P T t
  info : ∀ t, T.td t ≠ .other → ∃ i z, P.info? t = some i ∧ i.size = T.sz t ∧ i.bytes ≤ 4096 ∧ i.zero = some z ∧ zeroL (T.zero t) z.cells.toList ∧ (T.zero t).length = T.sz t ∧ ((T.td t).agg = true → ∃ us, z = .agg us) ∧ ((T.td t).agg = false → z.cells = #[z])
  mixed : P.follows .mixedOrders = true
  eqt : ∀ t, T.eqt t ≠ [] → eqB P t (T.eqt t) = true
  cmp : ∀ t, T.cmp t = true → ∃ e i j, P.underlying t = some (.pointer e) ∧ P.info? t = some i ∧ i.comparable = true ∧ P.info? e = some j ∧ j.size ≠ 0
  has : ∀ t i b, T.has t i = some b → ∃ want x j, P.underlying i = some (.interface want) ∧ P.info? t = some x ∧ P.info? i = some j ∧ j.zero = some .nilIface ∧ (lacking want x.methods).isEmpty = b
  mf : ∀ f, Turns P T f (T.mf f)
  small : ∀ e, T.small e = true → ∃ i, P.info? e = some i ∧ i.bytes ≤ 64
  meth : ∀ t n g, T.meth t n = some g → ∀ (v : Value) (w : World), (Go.method (P.types.size + Made.depth) t v n).run P w = .ok (g, v) w

theorem zeroL_rd (M : Mut) (w : World) : ∀ (ds : List D) (vs : List Value), zeroL ds vs → RdL M w ds vs ∧ ∀ d ∈ ds, d.cell = true
  | [], vs, h => by
    simp only [zeroL] at h
    simp [RdL, h]
  | .v x :: ds, vs, h => by
    simp only [zeroL] at h
    obtain ⟨vs', rfl, hc, h⟩ := h
    have ih := zeroL_rd M w ds vs' h
    exact ⟨by simp only [RdL]; exact ⟨_, _, rfl, by simp only [Rd], ih.1⟩, fun d hd => (List.mem_cons.1 hd).elim (fun e => e ▸ hc) (ih.2 d)⟩
  | .s [] :: ds, vs, h => by
    simp only [zeroL] at h
    obtain ⟨vs', rfl, h⟩ := h
    have ih := zeroL_rd M w ds vs' h
    exact ⟨by simp only [RdL]; exact ⟨_, _, rfl, by simp only [Rd], ih.1⟩, fun d hd => (List.mem_cons.1 hd).elim (fun e => by subst e; rfl) (ih.2 d)⟩
  | .sl n [] :: ds, vs, h => by
    simp only [zeroL] at h
    obtain ⟨vs', rfl, h⟩ := h
    have ih := zeroL_rd M w ds vs' h
    exact ⟨by simp only [RdL]; exact ⟨_, _, rfl, by simp only [Rd]; exact ⟨none, 0, 0, rfl, rfl, Nat.le_refl _, fun _ => rfl, fun p hp => by simp at hp⟩, ih.1⟩, fun d hd => (List.mem_cons.1 hd).elim (fun e => by subst e; rfl) (ih.2 d)⟩
  | .s (_ :: _) :: ds, vs, h => by simp [zeroL] at h
  | .sl n (_ :: _) :: ds, vs, h => by simp [zeroL] at h
  | .st cs :: ds, vs, h => by simp [zeroL] at h
  | .ptr cs :: ds, vs, h => by simp [zeroL] at h
  | .ifc t x :: ds, vs, h => by simp [zeroL] at h
  | .fn f as bs :: ds, vs, h => by simp [zeroL] at h

section
variable {P : Program} {T : Ctx} (hT : TOk P T) (w : World)
include hT

theorem run_size {t : TypeId} (h : T.td t ≠ .other) : (sizeOf t).run P w = .ok (T.sz t) w := by
  obtain ⟨i, z, hi, hs, _⟩ := hT.info t h
  unfold sizeOf typeInfo
  simp [hi, hs]
theorem run_zero {t : TypeId} (h : T.td t ≠ .other) : ∃ z, (zeroValue t).run P w = .ok z w ∧ zeroL (T.zero t) z.cells.toList ∧ (T.zero t).length = T.sz t ∧ ((T.td t).agg = true → ∃ us, z = .agg us) ∧ ((T.td t).agg = false → z.cells = #[z]) := by
  obtain ⟨i, z, hi, _, _, hz, h1⟩ := hT.info t h
  refine ⟨z, ?_, h1⟩
  unfold zeroValue typeInfo
  simp [hi, hz]
theorem run_bytes {t : TypeId} (h : T.td t ≠ .other) : ∃ i, (typeInfo t).run P w = .ok i w ∧ i.bytes ≤ 4096 ∧ i.size = T.sz t := by
  obtain ⟨i, z, hi, hs, hb, _⟩ := hT.info t h
  refine ⟨i, ?_, hb, hs⟩
  unfold typeInfo
  simp [hi]
theorem und_agg {t : TypeId} (h : T.td t ≠ .other) : ∃ d, P.underlying t = some d ∧ (match d with | .struct _ | .array _ _ => true | _ => false) = (T.td t).agg := by
  have := hT.td t
  unfold tdOk at this
  split at this <;> rename_i e <;> rw [e]
  · exact ⟨_, this, rfl⟩
  · exact ⟨_, this, rfl⟩
  · exact ⟨_, this, rfl⟩
  · exact ⟨_, this.1, rfl⟩
  · obtain ⟨a, ha, _⟩ := this
    exact ⟨_, ha, rfl⟩
  · exact ⟨_, this, rfl⟩
  · obtain ⟨a, ha, _⟩ := this
    exact ⟨_, ha, rfl⟩
  · obtain ⟨a, b, c, ha⟩ := this
    exact ⟨_, ha, rfl⟩
  · exact ⟨_, this, rfl⟩
  · exact ⟨_, this.1, rfl⟩
  · exact absurd e h
theorem run_agg {t : TypeId} (h : T.td t ≠ .other) : (isAgg t).run P w = .ok (T.td t).agg w := by
  obtain ⟨d, hd, e⟩ := und_agg hT h
  unfold isAgg
  simp only [Sem.run_bind, run_underlying hd, Result.andThen_ok]
  rw [← e]
  cases d <;> rfl
end

/-- A variable that lies in cells is loaded. -/
theorem run_loadVar {P : Program} {T : Ctx} (hT : TOk P T) (w : World) {t : TypeId} (h : T.td t ≠ .other) (hs : (T.td t).agg = true ∨ T.sz t = 1) (p : Addr) (us : List Value) (hl : us.length = T.sz t) (hc : ∀ j u, us[j]? = some u → w.cell? (p.add j) = some u) :
    (loadVar t p).run P w = .ok (if (T.td t).agg = true then .agg us.toArray else us.headD undef) w := by
  unfold loadVar
  simp only [Sem.run_bind, run_agg hT w h, Result.andThen_ok]
  cases ha : (T.td t).agg with
  | true =>
    simp only [if_true, Sem.run_bind, run_size hT w h, Result.andThen_ok]
    rw [← hl, run_loadCells_list w p us hc]
    rfl
  | false =>
    rw [ha] at hs
    have h1 : T.sz t = 1 := by simpa using hs
    match us, hl with
    | [u], _ =>
      have := hc 0 u (by simp)
      simp only [Addr.add, if_true] at this
      simp [this]
    | [], hl => simp [h1] at hl
    | _ :: _ :: _, hl => simp [h1] at hl

theorem RdC_load {M : Mut} {w : World} {cs : List D} {p : Addr} {k : Nat} (h : RdC M w cs p 0) (hk : k ≤ cs.length) : ∃ us : List Value, RdL M w (cs.take k) us ∧ us.length = k ∧ ∀ j u, us[j]? = some u → w.cell? (p.add j) = some u := by
  obtain ⟨us, h1, h2, h3⟩ := RdC_vals M w (cs.take k) p 0 (RdC_take M w cs p 0 k h)
  exact ⟨us, h1, by rw [h2, List.length_take, Nat.min_eq_left hk], fun j u hu => by simpa using h3 j u hu⟩

theorem valD_ok {T : Ctx} {M : Mut} {w : World} {t : TypeId} (hs : (T.td t).agg = true ∨ T.sz t = 1) {cs : List D} {us : List Value} (h : RdL M w cs us) (hl : cs.length = T.sz t) : Rd M w (valD (T.td t).agg cs) (if (T.td t).agg = true then .agg us.toArray else us.headD undef) := by
  unfold valD
  cases ha : (T.td t).agg with
  | true =>
    simp only [if_true, Rd]
    exact ⟨us, rfl, h⟩
  | false =>
    rw [ha] at hs
    have h1 : T.sz t = 1 := by simpa using hs
    match cs, hl with
    | [c], _ =>
      simp only [RdL] at h
      obtain ⟨u, us', rfl, h, _⟩ := h
      simpa using h
    | [], hl => simp [h1] at hl
    | _ :: _ :: _, hl => simp [h1] at hl
theorem valA_ok {T : Ctx} {γ : Gam} {o : Obs} {M : Mut} {w : World} {t : TypeId} (hs : (T.td t).agg = true ∨ T.sz t = 1) {cs : List AV} {us : List Value} (h : RVL γ o M w cs us) (hl : cs.length = T.sz t) : RV γ o M w (valA (T.td t).agg cs) (if (T.td t).agg = true then .agg us.toArray else us.headD undef) := by
  unfold valA
  cases ha : (T.td t).agg with
  | true =>
    simp only [if_true, RV]
    exact ⟨us, rfl, h⟩
  | false =>
    rw [ha] at hs
    have h1 : T.sz t = 1 := by simpa using hs
    match cs, hl with
    | [c], _ =>
      simp only [RVL] at h
      obtain ⟨u, us', rfl, h, _⟩ := h
      simpa using h
    | [], hl => simp [h1] at hl
    | _ :: _ :: _, hl => simp [h1] at hl

theorem RVL_take {γ : Gam} {o : Obs} {M : Mut} {w : World} : ∀ {xs : List AV} {us : List Value} (k : Nat), RVL γ o M w xs us → RVL γ o M w (xs.take k) (us.take k)
  | [], us, k, h => by
    simp only [RVL] at h
    subst h
    simp [RVL]
  | x :: xs, us, 0, h => by simp [RVL]
  | x :: xs, us, k + 1, h => by
    simp only [RVL] at h
    obtain ⟨u, us', rfl, h1, h2⟩ := h
    simp only [List.take_succ_cons, RVL]
    exact ⟨_, _, rfl, h1, RVL_take k h2⟩
theorem RVL_drop {γ : Gam} {o : Obs} {M : Mut} {w : World} : ∀ {xs : List AV} {us : List Value} (k : Nat), RVL γ o M w xs us → RVL γ o M w (xs.drop k) (us.drop k)
  | [], us, k, h => by
    simp only [RVL] at h
    subst h
    simp [RVL]
  | x :: xs, us, 0, h => by simpa using h
  | x :: xs, us, k + 1, h => by
    simp only [RVL] at h
    obtain ⟨u, us', rfl, h1, h2⟩ := h
    simpa using RVL_drop k h2

/-- what a value's cells are -/
theorem cells_ok {γ : Gam} {o : Obs} {M : Mut} {w : World} (hown : ∀ k ob l, lookup k o = some ob → ob.sl = some l → (slVal (γ k) l).oneCell' = true) {v : AV} {u : Value} {cs : List AV} (h : RV γ o M w v u) (hc : v.cells = some cs) : RVL γ o M w cs u.cells.toList ∧ cs.all AV.cell = true := by
  have one : ∀ {v : AV}, RV γ o M w v u → v.cell = true → RVL γ o M w [v] u.cells.toList ∧ [v].all AV.cell = true := by
    intro v h hc
    have h1 := cell_one hown h hc
    have : u.cells = #[u] := by cases u <;> simp_all [Value.oneCell', Value.cells]
    rw [this]
    simp only [RVL, List.all_cons, List.all_nil, hc, Bool.and_self, and_true]
    exact ⟨u, [], rfl, h, rfl⟩
  unfold AV.cells at hc
  split at hc
  · split at hc
    · rename_i ha
      simp only [Option.some.injEq] at hc
      subst hc
      simp only [RV] at h
      obtain ⟨us, rfl, h⟩ := h
      exact ⟨by simpa [Value.cells] using h, ha⟩
    · simp at hc
  · split at hc
    · rename_i ha
      simp only [Option.some.injEq] at hc
      subst hc
      simp only [RV, Rd] at h
      obtain ⟨us, rfl, h⟩ := h
      exact ⟨by simpa [Value.cells] using RVL_data.2 h, ha⟩
    · simp at hc
  · split at hc
    · rename_i hcell
      simp only [Option.some.injEq] at hc
      subst hc
      exact one h hcell
    · simp at hc

end Go.Ab

namespace Go.Ab

theorem wp_val {P : Program} {o : Oper} {a : Act} {w w' : World} {v : Value} {next : Act → World → Prop} {Q : Exit → Act → World → Prop} (hr : (execOp a.eval o).run P w = .ok (.value v) w') (hn : next (a.put o.dst v) w') : o.wp P a w next Q := by
  unfold Oper.wp
  rw [hr]
  exact hn
theorem wp_skip' {P : Program} {o : Oper} {a : Act} {w w' : World} {next : Act → World → Prop} {Q : Exit → Act → World → Prop} (hr : (execOp a.eval o).run P w = .ok .skip w') (hn : next (a.put o.dst undef) w') : o.wp P a w next Q := by
  unfold Oper.wp
  rw [hr]
  exact hn

theorem td_ok {d : TD} (h : d.ok = true) : d ≠ .other := by
  rintro rfl
  simp [TD.ok] at h

/-- What one operation owes. -/
def Owes (P : Program) (T : Ctx) (E : Abs) (op : Oper → Prop) : Prop :=
  ∀ {R : Type} {N : Mut} {X : Fm} {w0 w : World} {γ : Gam} {s : St} {a : Act} {o : Oper} {κ : St → Option R} {r : R} {next : Act → World → Prop} {Q : Exit → Act → World → Prop},
    op o → SR T N w0 X γ w s a → opK T E o s κ = some r → (∀ γ' w' s' a', SR T N w0 X γ' w' s' a' → κ s' = some r → next a' w') → o.wp P a w next Q

section
variable {P : Program} {T : Ctx} (hT : TOk P T) (E : Abs)

theorem owes_move (x : Operand) : Owes P T E (fun o => o.op = .move x) := by
  intro R N X w0 w γ s a o κ r next Q ho h hk hn
  unfold opK at hk
  rw [ho] at hk
  refine wp_val (v := a.eval x) (w' := w) (by simp [execOp, ho]) (hn γ w _ _ (h.put o.dst (nilfix_ok (T := T) o.type (h.get x))) ?_)
  exact hk

theorem owes_pick (c x y : Operand) : Owes P T E (fun o => o.op = .pick c x y) := by
  intro R N X w0 w γ s a o κ r next Q ho h hk hn
  unfold opK at hk
  rw [ho] at hk
  simp only at hk
  split at hk
  · rename_i t hc
    have hcv := h.get c
    rw [hc] at hcv
    simp only [RV, Rd] at hcv
    cases t with
    | true => exact wp_val (v := a.eval x) (w' := w) (by simp [execOp, ho, hcv, asBool]) (hn γ w _ _ (h.put o.dst (h.get x)) hk)
    | false => exact wp_val (v := a.eval y) (w' := w) (by simp [execOp, ho, hcv, asBool]) (hn γ w _ _ (h.put o.dst (h.get y)) hk)
  · simp at hk

theorem owes_unOp (u : UnOp) (t : TypeId) (x : Operand) : Owes P T E (fun o => o.op = .unOp u t x) := by
  intro R N X w0 w γ s a o κ r next Q ho h hk hn
  unfold opK at hk
  rw [ho] at hk
  simp only at hk
  split at hk
  · rename_i b hc
    have hcv := h.get x
    rw [hc] at hcv
    simp only [RV, Rd] at hcv
    split at hk
    · exact wp_val (v := .bool (!b)) (w' := w) (by simp [execOp, ho, hcv, Op.unary]) (hn γ w _ _ (h.put o.dst (by simp only [RV, Rd])) hk)
    · simp at hk
  · rename_i k n hc
    have hcv := h.get x
    rw [hc] at hcv
    simp only [RV, Rd] at hcv
    split at hk
    · exact wp_val (v := .int k (k.wrap (0 - n))) (w' := w) (by simp [execOp, ho, hcv, Op.unary, Op.intArith]) (hn γ w _ _ (h.put o.dst (by simp only [RV, Rd])) hk)
    · simp at hk
  · simp at hk

theorem owes_extract (x : Operand) (i : Nat) : Owes P T E (fun o => o.op = .extract x i) := by
  intro R N X w0 w γ s a o κ r next Q ho h hk hn
  unfold opK at hk
  rw [ho] at hk
  simp only at hk
  split at hk
  · rename_i xs hc
    have hcv := h.get x
    rw [hc] at hcv
    simp only [RV] at hcv
    obtain ⟨us, he, hv⟩ := hcv
    split at hk
    · rename_i v hi
      obtain ⟨u, hu, hvu⟩ := RVL_get hv hi
      exact wp_val (v := u) (w' := w) (by simp [execOp, ho, he, Instr.extract, hu]) (hn γ w _ _ (h.put o.dst hvu) hk)
    · simp at hk
  · simp at hk

theorem owes_nilCheck (x : Operand) : Owes P T E (fun o => o.op = .nilCheck x) := by
  intro R N X w0 w γ s a o κ r next Q ho h hk hn
  unfold opK at hk
  rw [ho] at hk
  simp only at hk
  split at hk
  · rename_i cs hc
    have hcv := h.get x
    rw [hc] at hcv
    have hcv' := hcv
    simp only [RV, Rd] at hcv'
    obtain ⟨p, he, _⟩ := hcv'
    exact wp_val (v := a.eval x) (w' := w) (by simp [execOp, ho, he]) (hn γ w _ _ (h.put o.dst hcv) hk)
  · rename_i i off hc
    have hcv := h.get x
    rw [hc] at hcv
    have hcv' := hcv
    simp only [RV] at hcv'
    obtain ⟨p, _, he⟩ := hcv'
    exact wp_val (v := a.eval x) (w' := w) (by simp [execOp, ho, he]) (hn γ w _ _ (h.put o.dst hcv) hk)
  · rename_i i j off hc
    have hcv := h.get x
    rw [hc] at hcv
    have hcv' := hcv
    simp only [RV] at hcv'
    obtain ⟨p, _, _, _, _, _, he⟩ := hcv'
    exact wp_val (v := a.eval x) (w' := w) (by simp [execOp, ho, he]) (hn γ w _ _ (h.put o.dst hcv) hk)
  · simp at hk

theorem RVL_evals {γ : Gam} {N : Mut} {w0 : World} {X : Fm} {w : World} {s : St} {a : Act} (h : SR T N w0 X γ w s a) : ∀ xs : List Operand, RVL γ s.o (all γ N s.o) w (xs.map (s.get T)) (xs.map a.eval)
  | [] => by simp [RVL]
  | x :: xs => by
    simp only [List.map_cons, RVL]
    exact ⟨_, _, rfl, h.get x, RVL_evals h xs⟩

theorem owes_makeFunc (f : Fn) (xs ys : Array Operand) : Owes P T E (fun o => o.op = .makeFunc f xs ys) := by
  intro R N X w0 w γ s a o κ r next Q ho h hk hn
  unfold opK at hk
  rw [ho] at hk
  simp only at hk
  refine wp_val (v := .func f (xs.map a.eval) (ys.map a.eval)) (w' := w) (by simp [execOp, ho, Instr.makeFunc]) (hn γ w _ _ (h.put o.dst ?_) hk)
  simp only [RV]
  exact ⟨xs.toList.map a.eval, ys.toList.map a.eval, by simp [← Array.toList_map], RVL_evals h _, RVL_evals h _⟩

include hT

theorem owes_load (t : TypeId) (x : Operand) : Owes P T E (fun o => o.op = .load t x) := by
  intro R N X w0 w γ s a o κ r next Q ho h hk hn
  unfold opK at hk
  rw [ho] at hk
  simp only at hk
  have hcv := h.get x
  split at hk
  · rename_i i off hc
    rw [hc] at hcv
    simp only [RV] at hcv
    obtain ⟨b, hb, he⟩ := hcv
    split at hk
    · rename_i cs hl
      split at hk
      · rename_i hfit
        obtain ⟨b', arr, ty, hb', hh, hvs⟩ := h.inv.obs _ (lookup_mem hl)
        have hbb : b' = b := by
          have : some b' = some b := by rw [← hb', hb]
          injection this
        subst hbb
        have hlen : arr.toList.length = cs.length := RVL_length hvs
        have hsub := RVL_take (T.sz t) (RVL_drop off hvs)
        have hto := td_ok hfit.2.2
        · have hrun := run_loadVar hT w hto hfit.2.1 ⟨b', off, none⟩ ((arr.toList.drop off).take (T.sz t)) (by simp at hlen ⊢; omega) fun j u hu => by
            rw [add_plain]
            simp only [World.cell?, hh]
            rw [List.getElem?_take] at hu
            split at hu
            · simpa [List.getElem?_drop] using hu
            · simp at hu
          refine wp_val (w' := w) (by simp only [execOp, ho, he, Instr.loadAt, Instr.sureAddr]; simp only [Sem.run_bind, Sem.run_pure, Result.andThen_ok, hrun]; rfl) (hn γ w _ _ (h.put o.dst ?_) hk)
          exact valA_ok hfit.2.1 hsub (by simp; omega)
      · simp at hk
    · simp at hk
  · rename_i id i off hc
    rw [hc] at hcv
    simp only [RV] at hcv
    obtain ⟨b, g, n, es, hb, hl, he⟩ := hcv
    rw [hl] at hk
    simp only at hk
    split at hk
    · rename_i e hi
      split at hk
      · rename_i hfit
        have hro := h.inv.obs _ (lookup_mem hl)
        simp only [RO, hb] at hro
        obtain ⟨arr, ty, hh, _, _, h3, us, rest, e3, h4⟩ := hro
        have hen := h3 e (List.mem_of_getElem? hi)
        have hcut := flat_cut n es i off (T.sz t) e h3 hi (by omega)
        have hsub := RVL_take (T.sz t) (RVL_drop (i * n + off) h4)
        rw [hcut] at hsub
        have hlen := RVL_length hsub
        have hto := td_ok hfit.2.2
        have hrun := run_loadVar hT w hto hfit.2.1 ⟨b, i * n + off, none⟩ ((us.drop (i * n + off)).take (T.sz t)) (by simp at hlen ⊢; omega) fun j u hu => by
          rw [add_plain]
          simp only [World.cell?, hh]
          rw [List.getElem?_take] at hu
          split at hu
          · rw [List.getElem?_drop] at hu
            have hul := (List.getElem?_eq_some_iff.1 hu).1
            have : arr.toList[i * n + off + j]? = some u := by rw [e3, List.getElem?_append_left hul, hu]
            simpa using this
          · simp at hu
        refine wp_val (w' := w) (by simp only [execOp, ho, he, Instr.loadAt, Instr.sureAddr]; simp only [Sem.run_bind, Sem.run_pure, Result.andThen_ok, hrun]; rfl) (hn γ w _ _ (h.put o.dst ?_) hk)
        exact valA_ok hfit.2.1 hsub (by simp; omega)
      · simp at hk
    · simp at hk
  · rename_i cs hc
    rw [hc] at hcv
    simp only [RV, Rd] at hcv
    obtain ⟨p, he, hrd⟩ := hcv
    split at hk
    · rename_i hfit
      obtain ⟨us, h1, h2, h3⟩ := RdC_load hrd hfit.1
      have hto := td_ok hfit.2.2
      have hrun := run_loadVar hT w hto hfit.2.1 p us h2 h3
      refine wp_val (w' := w) (by simp only [execOp, ho, he, Instr.loadAt, Instr.sureAddr]; simp only [Sem.run_bind, Sem.run_pure, Result.andThen_ok, hrun]; rfl) (hn γ w _ _ (h.put o.dst ?_) hk)
      simp only [RV]
      exact valD_ok hfit.2.1 h1 (by rw [List.length_take, Nat.min_eq_left hfit.1])
    · simp at hk
  · simp at hk

end
end Go.Ab

namespace Go.Ab

section
variable {P : Program} {T : Ctx} (hT : TOk P T) (E : Abs)

theorem owes_assign (x : Operand) : Owes P T E (fun o => o.op = .assign x) := by
  intro R N X w0 w γ s a o κ r next Q ho h hk hn
  unfold opK at hk
  rw [ho] at hk
  simp only at hk
  split at hk
  · rename_i d hd
    have hcv := h.get x
    split at hk
    · rename_i hc
      split at hk
      · rename_i e he
        rw [hc] at hcv
        simp only [RV, Rd] at hcv
        by_cases hw : T.wr d = true
        · rw [if_pos hw] at hk
          obtain ⟨γ', h'⟩ := h.newNilA d (T.td e).agg (T.sz e)
          refine wp_val (v := .slice none 0 0) (w' := w) (by simp [execOp, ho, hcv]) (hn γ' w _ _ ?_ hk)
          rw [hd]
          exact h'
        · rw [if_neg hw] at hk
          obtain ⟨γ', h'⟩ := h.newNil d (T.sz e)
          refine wp_val (v := .slice none 0 0) (w' := w) (by simp [execOp, ho, hcv]) (hn γ' w _ _ ?_ hk)
          rw [hd]
          exact h'
      · simp at hk
    · rename_i n xs hc
      rw [hc] at hcv
      obtain ⟨γ', h'⟩ := h.newTight d hcv
      refine wp_val (v := a.eval x) (w' := w) (by simp [execOp, ho]) (hn γ' w _ _ ?_ hk)
      rw [hd]
      exact h'
    · refine wp_val (v := a.eval x) (w' := w) (by simp [execOp, ho]) (hn γ w _ _ ?_ hk)
      rw [hd]
      exact h.put (some d) hcv
  · simp at hk

theorem RdL_drop {M : Mut} {w : World} : ∀ {xs : List D} {us : List Value} (k : Nat), RdL M w xs us → RdL M w (xs.drop k) (us.drop k)
  | [], us, k, h => by
    simp only [RdL] at h
    subst h
    simp [RdL]
  | x :: xs, us, 0, h => by simpa using h
  | x :: xs, us, k + 1, h => by
    simp only [RdL] at h
    obtain ⟨u, us', rfl, h1, h2⟩ := h
    simpa using RdL_drop k h2
theorem RdL_take {M : Mut} {w : World} : ∀ {xs : List D} {us : List Value} (k : Nat), RdL M w xs us → RdL M w (xs.take k) (us.take k)
  | [], us, k, h => by
    simp only [RdL] at h
    subst h
    simp [RdL]
  | x :: xs, us, 0, h => by simp [RdL]
  | x :: xs, us, k + 1, h => by
    simp only [RdL] at h
    obtain ⟨u, us', rfl, h1, h2⟩ := h
    simp only [List.take_succ_cons, RdL]
    exact ⟨_, _, rfl, h1, RdL_take k h2⟩

theorem owes_box (t : TypeId) (x : Operand) : Owes P T E (fun o => o.op = .box t x) := by
  intro R N X w0 w γ s a o κ r next Q ho h hk hn
  unfold opK at hk
  rw [ho] at hk
  simp only at hk
  split at hk
  · split at hk
    · rename_i cs hc
      split at hk
      · rename_i ds hds
        split at hk
        · rename_i hcell
          have hcv := nilfix_ok (T := T) t (h.get x)
          obtain ⟨h1, _⟩ := cells_ok h.owns hcv hc
          have h2 := datas_ok h.inv _ _ _ h1 hds
          have c := Chg.alloc w (.cells (a.eval x).cells t)
          have hk0 : Keep (all γ N s.o) (all γ N s.o) w (w.alloc (.cells (a.eval x).cells t)) := c.keep (fun _ _ hf => hf.elim) fun _ _ _ hm => hm
          have hnew : ∀ i, ¬ all γ N s.o w.heap.size i := by
            rintro i (hm | ⟨p, hp, hb, _⟩)
            · exact absurd (h.inv.old _ _ hm) (Nat.lt_irrefl _)
            · exact absurd (own_lt h.inv hp hb) (Nat.lt_irrefl _)
          have h3 := RdC_of (all γ N s.o) (w.alloc (.cells (a.eval x).cells t)) (heap_alloc w _) hnew ds (a.eval x).cells.toList 0 (RdL.keep hk0 _ _ h2) (by simpa using hcell) fun i u hi => by simpa using hi
          refine wp_val (v := .pointer (some ⟨w.heap.size, 0, none⟩)) (w' := w.alloc (.cells (a.eval x).cells t)) ?_ (hn γ _ _ _ ((h.world c).put o.dst (v := .d (.ptr ds)) (u := .pointer (some ⟨w.heap.size, 0, none⟩)) ?_) hk)
          · simp only [execOp, ho, Instr.box, newVar, newRow, Sem.run_bind, Result.andThen_ok, run_newObj, Sem.run_pure]
            rfl
          · simp only [RV, Rd]
            exact ⟨_, rfl, h3⟩
        · simp at hk
      · simp at hk
    · simp at hk
  · split at hk
    · rename_i d cs hd hc
      have hcv := nilfix_ok (T := T) t (h.get x)
      obtain ⟨h1, _⟩ := cells_ok h.owns hcv hc
      obtain ⟨γ', h'⟩ := h.newBox d t h1
      refine wp_val (v := .pointer (some ⟨w.heap.size, 0, none⟩)) (w' := w.alloc (.cells (a.eval x).cells t)) ?_ (hn γ' _ _ _ ?_ hk)
      · simp only [execOp, ho, Instr.box, newVar, newRow, Sem.run_bind, Result.andThen_ok, run_newObj, Sem.run_pure]
        rfl
      · rw [hd]
        simpa using h'
    · simp at hk

include hT

omit hT in
theorem zA_rv {γ : Gam} {o : Obs} {M : Mut} {w : World} : ∀ (ds : List D) (vs : List Value), zeroL ds vs → RVL γ o M w (ds.map zA) vs
  | [], vs, h => by
    simp only [zeroL] at h
    subst h
    simp [RVL]
  | .v x :: ds, vs, h => by
    simp only [zeroL] at h
    obtain ⟨vs', rfl, _, h⟩ := h
    simp only [List.map_cons, RVL]
    exact ⟨_, _, rfl, by simp only [zA, RV, Rd], zA_rv ds vs' h⟩
  | .s [] :: ds, vs, h => by
    simp only [zeroL] at h
    obtain ⟨vs', rfl, h⟩ := h
    simp only [List.map_cons, RVL]
    exact ⟨_, _, rfl, by simp only [zA, RV, Rd], zA_rv ds vs' h⟩
  | .sl n [] :: ds, vs, h => by
    simp only [zeroL] at h
    obtain ⟨vs', rfl, h⟩ := h
    simp only [List.map_cons, RVL]
    refine ⟨_, _, rfl, ?_, zA_rv ds vs' h⟩
    simp only [zA, RV, Rd]
    exact ⟨⟨none, 0, 0, rfl, rfl, Nat.le_refl _, fun _ => rfl, fun p hp => by cases hp⟩, none, 0, rfl⟩
  | .s (_ :: _) :: ds, vs, h => by simp [zeroL] at h
  | .sl n (_ :: _) :: ds, vs, h => by simp [zeroL] at h
  | .st cs :: ds, vs, h => by simp [zeroL] at h
  | .ptr cs :: ds, vs, h => by simp [zeroL] at h
  | .ifc t x :: ds, vs, h => by simp [zeroL] at h
  | .fn f as bs :: ds, vs, h => by simp [zeroL] at h
  | .at p ob :: ds, vs, h => by simp [zeroL] at h
  | .wh x b ob :: ds, vs, h => by simp [zeroL] at h
theorem owes_alloc (t : TypeId) : Owes P T E (fun o => o.op = .alloc t) := by
  intro R N X w0 w γ s a o κ r next Q ho h hk hn
  unfold opK at hk
  rw [ho] at hk
  simp only at hk
  split at hk
  · rename_i d hd
    split at hk
    · rename_i hok
      obtain ⟨z, hz, hzl, _⟩ := run_zero hT w (td_ok hok)
      obtain ⟨γ', h'⟩ := h.newBox d t (cs := (T.zero t).map zA) (us := z.cells.toList) (zA_rv _ _ hzl)
      refine wp_val (v := .pointer (some ⟨w.heap.size, 0, none⟩)) (w' := w.alloc (.cells z.cells t)) ?_ (hn γ' _ _ _ ?_ hk)
      · simp only [execOp, ho, Instr.alloc, newVar, newRow, Sem.run_bind, hz, Result.andThen_ok, run_newObj, Sem.run_pure]
        rfl
      · rw [hd]
        simpa using h'
    · simp at hk
  · simp at hk

theorem owes_store (t : TypeId) (x y : Operand) : Owes P T E (fun o => o.op = .store t x y) := by
  intro R N X w0 w γ s a o κ r next Q ho h hk hn
  unfold opK at hk
  rw [ho] at hk
  simp only at hk
  split at hk
  · rename_i i off vs hx hc
    split at hk
    · rename_i cs hl
      split at hk
      · rename_i hfit
        have hxv := h.get x
        rw [hx] at hxv
        simp only [RV] at hxv
        obtain ⟨b, hb, he⟩ := hxv
        have hcv := nilfix_ok (T := T) t (h.get y)
        obtain ⟨h1, h2⟩ := cells_ok h.owns hcv hc
        obtain ⟨w', hrun, h'⟩ := SR.stores P hb off vs _ 0 w s cs h hl h1 h2 (by omega)
        have hlen := RVL_length h1
        refine wp_skip' (w' := w') ?_ (hn γ w' _ _ (h'.put o.dst (v := .d (.v undef)) (u := undef) (by simp only [RV, Rd])) ?_)
        · simp only [execOp, ho, he, Instr.storeAt, Instr.sureAddr, storeVar, Sem.run_bind, Sem.run_pure, Result.andThen_ok, run_size hT w (td_ok hfit.2.2), Sem.run_ite, run_stuck]
          rw [if_neg (by simp at hlen; rw [hlen, hfit.2.1]; simp)]
          simp only [Result.andThen_ok, hrun]
        · simpa using hk
      · simp at hk
    · simp at hk
  · rename_i id i off vs hx hc
    have hxv := h.get x
    rw [hx] at hxv
    simp only [RV] at hxv
    obtain ⟨b, g, n, es, hb, hl, he⟩ := hxv
    rw [hl] at hk
    simp only at hk
    split at hk
    · rename_i e hi
      split at hk
      · rename_i hfit
        have hcv := nilfix_ok (T := T) t (h.get y)
        obtain ⟨h1, h2⟩ := cells_ok h.owns hcv hc
        obtain ⟨w', hrun, h'⟩ := SR.storesA P hb g n i off vs _ 0 w s es e h hl hi h1 h2 (by omega)
        have hlen := RVL_length h1
        refine wp_skip' (w' := w') ?_ (hn γ w' _ _ (h'.put o.dst (v := .d (.v undef)) (u := undef) (by simp only [RV, Rd])) ?_)
        · simp only [execOp, ho, he, Instr.storeAt, Instr.sureAddr, storeVar, Sem.run_bind, Sem.run_pure, Result.andThen_ok, run_size hT w (td_ok hfit.2.2), Sem.run_ite, run_stuck]
          rw [if_neg (by simp at hlen; rw [hlen, hfit.2.1]; simp)]
          simp only [Result.andThen_ok, hrun]
        · simpa using hk
      · simp at hk
    · simp at hk
  · simp at hk


theorem run_fields {t : TypeId} {fs : List (TypeId × Nat)} (h : T.td t = .strct fs) (w : World) : ∃ a : Array Field, P.underlying t = some (.struct a) ∧ ∀ (i : Nat) (ft : TypeId) (off : Nat), fs[i]? = some (ft, off) → ∃ f : Field, a[i]? = some f ∧ f.type = ft ∧ f.offset = off ∧ T.td ft ≠ .other ∧ T.sz ft ≠ 0 := by
  have := hT.td t
  unfold tdOk at this
  rw [h] at this
  obtain ⟨a, ha, e, hf⟩ := this
  refine ⟨a, ha, fun i ft off hi => ?_⟩
  have hm : (ft, off) ∈ fs := List.mem_of_getElem? hi
  rw [← e, List.getElem?_map] at hi
  cases hfi : a.toList[i]? with
  | none => rw [hfi] at hi; simp at hi
  | some f =>
    rw [hfi] at hi
    simp at hi
    exact ⟨f, by simpa using hfi, hi.1, hi.2, hf _ hm⟩

theorem owes_fieldAddr (t : TypeId) (x : Operand) (i : Nat) : Owes P T E (fun o => o.op = .fieldAddr t x i) := by
  intro R N X w0 w γ s a o κ r next Q ho h hk hn
  unfold opK at hk
  rw [ho] at hk
  simp only at hk
  split at hk
  · rename_i fs ht
    obtain ⟨fa, hu, hf⟩ := run_fields hT ht w
    split at hk
    · rename_i ft off hi
      obtain ⟨f, hfi, hft, hfo, hfok, hfs⟩ := hf i ft off hi
      have hxv := h.get x
      have hplace : ∀ p : Addr, (fieldPlace p f).run P w = .ok (p.add off) w := by
        intro p
        unfold fieldPlace
        simp only [Sem.run_bind, hft, run_size hT w hfok, Result.andThen_ok]
        rw [if_neg hfs, hfo]
        rfl
      split at hk
      · rename_i id o' hx
        rw [hx] at hxv
        simp only [RV] at hxv
        obtain ⟨b, hb, he⟩ := hxv
        refine wp_val (v := .pointer (some ⟨b, o' + off, none⟩)) (w' := w) ?_ (hn γ w _ _ (h.put o.dst (by simp only [RV]; exact ⟨b, hb, rfl⟩)) hk)
        simp only [execOp, ho, he, Instr.fieldAt, Instr.sureAddr, Sem.run_bind, run_underlying hu, Result.andThen_ok, hfi, Sem.run_pure, hplace, add_plain]
      · rename_i id j o' hx
        rw [hx] at hxv
        simp only [RV] at hxv
        obtain ⟨b, g, n, es, hb, hl, he⟩ := hxv
        refine wp_val (v := .pointer (some ⟨b, j * n + (o' + off), none⟩)) (w' := w) ?_ (hn γ w _ _ (h.put o.dst (by simp only [RV]; exact ⟨b, g, n, es, hb, hl, rfl⟩)) hk)
        simp only [execOp, ho, he, Instr.fieldAt, Instr.sureAddr, Sem.run_bind, run_underlying hu, Result.andThen_ok, hfi, Sem.run_pure, hplace, add_plain, Nat.add_assoc]
      · rename_i cs hx
        rw [hx] at hxv
        simp only [RV, Rd] at hxv
        obtain ⟨p, he, hrd⟩ := hxv
        split at hk
        · rename_i hle
          refine wp_val (v := .pointer (some (p.add off))) (w' := w) ?_ (hn γ w _ _ (h.put o.dst ?_) hk)
          · simp only [execOp, ho, he, Instr.fieldAt, Instr.sureAddr, Sem.run_bind, run_underlying hu, Result.andThen_ok, hfi, Sem.run_pure, hplace]
          · simp only [RV, Rd]
            refine ⟨_, rfl, (RdC_shift ..).2 ?_⟩
            simpa using RdC_drop _ _ _ _ _ _ hle hrd
        · simp at hk
      · simp at hk
    · simp at hk
  · simp at hk

theorem run_part {t : TypeId} (ht : T.td t ≠ .other) (w : World) (us : List Value) (off : Nat) (hs : (T.td t).agg = true ∨ T.sz t = 1) (hle : off + T.sz t ≤ us.length) :
    (part t us.toArray off).run P w = .ok (if (T.td t).agg = true then .agg ((us.drop off).take (T.sz t)).toArray else ((us.drop off).take (T.sz t)).headD undef) w := by
  unfold part
  simp only [Sem.run_bind, run_agg hT w ht, Result.andThen_ok]
  cases ha : (T.td t).agg with
  | true =>
    simp only [if_true, Sem.run_bind, run_size hT w ht, Result.andThen_ok, Sem.run_pure]
    simp
  | false =>
    rw [ha] at hs
    have h1 : T.sz t = 1 := by simpa using hs
    rw [h1] at hle ⊢
    have : us[off]? = some us[off] := List.getElem?_eq_getElem (by omega)
    simp only [List.getElem?_toArray, this]
    simp [List.take_one, List.head?_drop, this]

theorem owes_field (t : TypeId) (x : Operand) (i : Nat) : Owes P T E (fun o => o.op = .field t x i) := by
  intro R N X w0 w γ s a o κ r next Q ho h hk hn
  unfold opK at hk
  rw [ho] at hk
  simp only at hk
  split at hk
  · rename_i fs ht
    obtain ⟨fa, hu, hf⟩ := run_fields hT ht w
    split at hk
    · rename_i ft off hi
      obtain ⟨f, hfi, hft, hfo, hfok, hfs⟩ := hf i ft off hi
      split at hk
      · rename_i cs hx
        have hxv := h.data hx
        simp only [Rd] at hxv
        obtain ⟨us, he, hrd⟩ := hxv
        split at hk
        · rename_i hfit
          have hlen := RdL_length hrd
          refine wp_val (v := if (T.td ft).agg = true then .agg ((us.drop off).take (T.sz ft)).toArray else ((us.drop off).take (T.sz ft)).headD undef) (w' := w) ?_ (hn γ w _ _ (h.put o.dst ?_) hk)
          · simp only [execOp, ho, he, Instr.field, asAgg, Sem.run_bind, run_underlying hu, Result.andThen_ok, hfi, Sem.run_pure, hft, hfo, run_part hT hfok w us off hfit.2 (by omega)]
          · simp only [RV]
            exact valD_ok hfit.2 (RdL_take _ (RdL_drop _ hrd)) (by simp; omega)
        · simp at hk
      · simp at hk
      · split at hk
        · rename_i cs hx
          have hxv := h.get x
          rw [hx] at hxv
          simp only [RV] at hxv
          obtain ⟨us, he, hrd⟩ := hxv
          split at hk
          · rename_i hfit
            have hlen := RVL_length hrd
            refine wp_val (v := if (T.td ft).agg = true then .agg ((us.drop off).take (T.sz ft)).toArray else ((us.drop off).take (T.sz ft)).headD undef) (w' := w) ?_ (hn γ w _ _ (h.put o.dst ?_) hk)
            · simp only [execOp, ho, he, Instr.field, asAgg, Sem.run_bind, run_underlying hu, Result.andThen_ok, hfi, Sem.run_pure, hft, hfo, run_part hT hfok w us off hfit.2 (by omega)]
            · exact valA_ok hfit.2 (RVL_take _ (RVL_drop _ hrd)) (by simp; omega)
          · simp at hk
        · simp at hk
    · simp at hk
  · simp at hk

theorem owes_makeInterface (t : TypeId) (x : Operand) : Owes P T E (fun o => o.op = .makeInterface t x) := by
  intro R N X w0 w γ s a o κ r next Q ho h hk hn
  unfold opK at hk
  rw [ho] at hk
  simp only at hk
  have hrun : ∀ (hi : ∀ b, T.td t ≠ .iface b) (hot : T.td t ≠ .other), (execOp a.eval o).run P w = .ok (.value (.iface t (a.eval x))) w := by
    intro hi hot
    obtain ⟨d, hd, _⟩ := und_agg hT hot
    have hne : ∀ ms, d ≠ .interface ms := by
      rintro ms rfl
      have := hT.td t
      unfold tdOk at this
      split at this <;> rename_i e <;> (try simp [hd] at this)
      · exact hi _ e
      · exact hot e
    simp only [execOp, ho, Instr.makeInterface, Sem.run_bind, run_underlying hd, Result.andThen_ok]
    cases d <;> first | rfl | exact absurd rfl (hne _)
  split at hk
  · simp at hk
  · simp at hk
  · rename_i h1 h2
    split at hk
    · rename_i dx hx
      have hxv := data_ok h.inv _ _ _ (nilfix_ok (T := T) t (h.get x)) hx
      exact wp_val (hrun h1 h2) (hn γ w _ _ (h.put o.dst (by simp only [RV, Rd]; exact ⟨_, rfl, hxv⟩)) hk)
    · split at hk
      · rename_i id hx
        have hxv := h.get x
        rw [hx] at hxv
        simp only [RV] at hxv
        obtain ⟨b, hb, he⟩ := hxv
        split at hk
        · simp at hk
        · rename_i hid
          split at hk
          · rename_i cs hl
            split at hk
            · rename_i ds hds
              split at hk
              · rename_i hcell
                obtain ⟨h', hrow⟩ := h.ice hl hds (by simpa using hcell) hid
                refine wp_val (hrun h1 h2) (hn γ w _ _ (h'.put o.dst ?_) hk)
                simp only [RV, Rd]
                exact ⟨_, rfl, _, he, hrow b hb⟩
              · simp at hk
            · simp at hk
          · simp at hk
      · simp at hk

end
end Go.Ab

namespace Go.Ab

theorem atK_some {R α : Type} {xs : List α} {i : Int} {κ : α → Option R} {r : R} (h : atK xs i κ = some r) : 0 ≤ i ∧ ∃ x, xs[i.toNat]? = some x ∧ κ x = some r := by
  unfold atK at h
  split at h
  · rename_i h0
    refine ⟨h0, ?_⟩
    split at h
    · rename_i x hx
      exact ⟨x, hx, h⟩
    · simp at h
  · simp at h
theorem cutK_some {R : Type} {len : Nat} {lo hi : Int} {κ : Nat → Nat → Option R} {r : R} (h : cutK len lo hi κ = some r) : 0 ≤ lo ∧ lo ≤ hi ∧ hi ≤ len ∧ κ lo.toNat hi.toNat = some r := by
  unfold cutK at h
  split at h
  · rename_i h0
    exact ⟨h0.1, h0.2.1, h0.2.2, h⟩
  · simp at h

section
variable {P : Program} {T : Ctx} (hT : TOk P T) (E : Abs)
theorem bound_ok {N : Mut} {X : Fm} {w0 w : World} {γ : Gam} {s : St} {a : Act} (h : SR T N w0 X γ w s a) {R : Type} {x : Option Operand} {dflt : Int} {κ : Int → Option R} {r : R} (hk : boundK T s x dflt κ = some r) :
    ∃ i, κ i = some r ∧ (match x.map a.eval with | none => i = dflt | some v => ∃ k, v = .int k i) := by
  unfold boundK at hk
  split at hk
  · exact ⟨dflt, hk, rfl⟩
  · rename_i x
    split at hk
    · rename_i k i hx
      have hxv := h.get x
      rw [hx] at hxv
      simp only [RV, Rd] at hxv
      exact ⟨i, hk, k, hxv⟩
    · simp at hk

theorem run_bounds (w : World) (isSlice : Bool) (len cap : Nat) (hle : len ≤ cap) (lo hi : Option Value) (i j : Int) (hlo : match lo with | none => i = 0 | some v => ∃ k, v = .int k i) (hhi : match hi with | none => j = len | some v => ∃ k, v = .int k j)
    (h0 : 0 ≤ i) (h1 : i ≤ j) (h2 : j ≤ len) : (Instr.sliceBounds isSlice len cap lo hi none).run P w = .ok (i.toNat, j.toNat, cap) w := by
  unfold Instr.sliceBounds
  have hb : ∀ (k : IntKind) (x : Int) (y : Nat) (c : BoundsCode), 0 ≤ x → x ≤ y → (Instr.sliceBound (.int k x) y c).run P w = .ok x.toNat w := by
    intro k x y c hx hy
    unfold Instr.sliceBound
    simp only [asIntOf, Sem.run_bind, Sem.run_pure, Result.andThen_ok, Sem.run_ite]
    rw [if_pos ⟨hx, hy⟩]
  cases lo with
  | none =>
    simp only at hlo
    subst hlo
    cases hi with
    | none =>
      simp only at hhi
      subst hhi
      simp
    | some v =>
      obtain ⟨k, rfl⟩ := hhi
      simp [hb k j cap _ (by omega) (by omega)]
  | some v =>
    obtain ⟨k, rfl⟩ := hlo
    cases hi with
    | none =>
      simp only at hhi
      subst hhi
      simp [hb k i len _ h0 (by omega)]
    | some v =>
      obtain ⟨k', rfl⟩ := hhi
      simp [hb k' j cap _ (by omega) (by omega), hb k i j.toNat _ h0 (by omega)]

theorem run_bounds3 (w : World) (len cap : Nat) (hle : len ≤ cap) (lo : Option Value) (hv mv : Value) (i j : Int) (hlo : match lo with | none => i = 0 | some v => ∃ k, v = .int k i) (hhi : ∃ k, hv = .int k j) (hmx : ∃ k, mv = .int k j)
    (h0 : 0 ≤ i) (h1 : i ≤ j) (h2 : j ≤ len) : (Instr.sliceBounds true len cap lo (some hv) (some mv)).run P w = .ok (i.toNat, j.toNat, j.toNat) w := by
  unfold Instr.sliceBounds
  have hb : ∀ (k : IntKind) (x : Int) (y : Nat) (c : BoundsCode), 0 ≤ x → x ≤ y → (Instr.sliceBound (.int k x) y c).run P w = .ok x.toNat w := by
    intro k x y c hx hy
    unfold Instr.sliceBound
    simp only [asIntOf, Sem.run_bind, Sem.run_pure, Result.andThen_ok, Sem.run_ite]
    rw [if_pos ⟨hx, hy⟩]
  obtain ⟨k, rfl⟩ := hhi
  obtain ⟨k', rfl⟩ := hmx
  cases lo with
  | none =>
    simp only at hlo
    subst hlo
    simp [hb k' j cap _ (by omega) (by omega), hb k j j.toNat _ (by omega) (by omega)]
  | some v =>
    obtain ⟨k2, rfl⟩ := hlo
    simp [hb k' j cap _ (by omega) (by omega), hb k j j.toNat _ (by omega) (by omega), hb k2 i j.toNat _ h0 (by omega)]

include hT

theorem und_slice {t e : TypeId} (h : T.td t = .slice e) : P.underlying t = some (.slice e) ∧ T.td e ≠ .other := by
  have := hT.td t
  unfold tdOk at this
  rw [h] at this
  exact this
theorem und_arr {t e : TypeId} {n : Nat} (h : T.td t = .arr n e) : P.underlying t = some (.array n e) ∧ T.td e ≠ .other := by
  have := hT.td t
  unfold tdOk at this
  rw [h] at this
  exact this
theorem und_str {t : TypeId} (h : T.td t = .str) : P.underlying t = some .string := by
  have := hT.td t
  unfold tdOk at this
  rw [h] at this
  exact this
theorem und_int {t : TypeId} {k : IntKind} (h : T.td t = .int k) : P.underlying t = some (.int k) := by
  have := hT.td t
  unfold tdOk at this
  rw [h] at this
  exact this
theorem und_ptr {t e : TypeId} (h : T.td t = .ptr e) : P.underlying t = some (.pointer e) := by
  have := hT.td t
  unfold tdOk at this
  rw [h] at this
  exact this
theorem und_iface {t : TypeId} {b : Bool} (h : T.td t = .iface b) : ∃ ms, P.underlying t = some (.interface ms) ∧ ms.isEmpty = b := by
  have := hT.td t
  unfold tdOk at this
  rw [h] at this
  exact this

theorem owes_indexAddr (t : TypeId) (x y : Operand) : Owes P T E (fun o => o.op = .indexAddr t x y) := by
  intro R N X w0 w γ s a o κ r next Q ho h hk hn
  unfold opK at hk
  rw [ho] at hk
  simp only at hk
  split at hk
  · rename_i e n xs k i ht hx hy
    split at hk
    · rename_i hne
      obtain ⟨hu, hto⟩ := und_slice hT ht
      obtain ⟨h0, d, hd, hk⟩ := atK_some hk
      have hyv := h.get y
      rw [hy] at hyv
      simp only [RV, Rd] at hyv
      have hxv := h.data hx
      simp only [Rd] at hxv
      obtain ⟨ad, len, cap, he, h1, h2, h3, h4⟩ := hxv
      have hlt : i.toNat < xs.length := (List.getElem?_eq_some_iff.1 hd).1
      cases ad with
      | none =>
        have := h3 rfl
        omega
      | some p =>
        have hrd := RdE_get _ _ _ _ _ _ _ _ (h4 p rfl) hd
        refine wp_val (v := .pointer (some (p.add (i.toNat * T.sz e)))) (w' := w) ?_ (hn γ w _ _ (h.put o.dst ?_) hk)
        · simp only [execOp, ho, he, hyv, Instr.indexAt, asIntOf, Sem.run_bind, run_underlying hu, Result.andThen_ok, Sem.run_pure, Sem.run_ite, run_size hT w hto]
          rw [if_pos ⟨h0, by omega⟩]
          rfl
        · simp only [RV, Rd]
          refine ⟨_, rfl, (RdC_shift ..).2 ?_⟩
          rw [← hne]
          simpa using hrd.2
    · simp at hk
  · rename_i e k i ht hx0 hy
    split at hk
    · rename_i id hx
      split at hk
      · rename_i g n es hl
        split at hk
        · rename_i hne
          obtain ⟨hu, hto⟩ := und_slice hT ht
          obtain ⟨h0, d, hd, hk⟩ := atK_some hk
          have hyv := h.get y
          rw [hy] at hyv
          simp only [RV, Rd] at hyv
          have hxv := h.get x
          rw [hx] at hxv
          simp only [RV] at hxv
          obtain ⟨ob, l, hl2, hs, he⟩ := hxv
          rw [hl] at hl2
          injection hl2 with hl2
          subst hl2
          simp only [Ob.sl, Option.some.injEq] at hs
          subst hs
          have hlt : i.toNat < es.length := (List.getElem?_eq_some_iff.1 hd).1
          obtain ⟨b, hb⟩ := arr_block h hl hlt
          simp only [slVal, tokVal, hb, arr_sk h hl hb] at he
          refine wp_val (v := .pointer (some ⟨b, i.toNat * n, none⟩)) (w' := w) ?_ (hn γ w _ _ (h.put o.dst (by simp only [RV]; exact ⟨b, g, n, es, hb, hl, by simp⟩)) hk)
          simp only [execOp, ho, he, hyv, Instr.indexAt, asIntOf, Sem.run_bind, run_underlying hu, Result.andThen_ok, Sem.run_pure, Sem.run_ite, run_size hT w hto]
          rw [if_pos ⟨h0, by omega⟩]
          rw [← hne]
          simp only [add_plain, Nat.zero_add]
          rfl
        · simp at hk
      · simp at hk
    · simp at hk
  · rename_i m e cs k i ht hx hy
    split at hk
    · rename_i hfit
      obtain ⟨hu, hto⟩ := und_arr hT ht
      have hyv := h.get y
      rw [hy] at hyv
      simp only [RV, Rd] at hyv
      have hxv := h.data hx
      simp only [Rd] at hxv
      obtain ⟨p, he, hrd⟩ := hxv
      refine wp_val (v := .pointer (some (p.add (i.toNat * T.sz e)))) (w' := w) ?_ (hn γ w _ _ (h.put o.dst ?_) hk)
      · simp only [execOp, ho, he, hyv, Instr.indexAt, Instr.sureAddr, asIntOf, Sem.run_bind, run_underlying hu, Result.andThen_ok, Sem.run_pure, Sem.run_ite, run_size hT w hto]
        rw [if_pos ⟨hfit.1, hfit.2.1⟩]
        rfl
      · simp only [RV, Rd]
        refine ⟨_, rfl, (RdC_shift ..).2 ?_⟩
        have hle : i.toNat * T.sz e ≤ cs.length := by
          rw [← hfit.2.2.1]
          exact Nat.mul_le_mul_right _ (by omega)
        simpa using RdC_drop _ _ _ _ _ _ hle hrd
    · simp at hk
  · simp at hk

theorem owes_index (t : TypeId) (x y : Operand) : Owes P T E (fun o => o.op = .index t x y) := by
  intro R N X w0 w γ s a o κ r next Q ho h hk hn
  unfold opK at hk
  rw [ho] at hk
  simp only at hk
  split at hk
  · rename_i l k i ht hx hy
    obtain ⟨h0, b, hb, hk⟩ := atK_some hk
    have hyv := h.get y
    rw [hy] at hyv
    simp only [RV, Rd] at hyv
    have hxv := h.get x
    rw [hx] at hxv
    simp only [RV, Rd] at hxv
    have hu := und_str hT ht
    have hs : (⟨l.toArray⟩ : ByteArray)[i.toNat]? = some b := by
      have hlt := (List.getElem?_eq_some_iff.1 hb).1
      have hlt' : i.toNat < (⟨l.toArray⟩ : ByteArray).size := hlt
      rw [getElem?_pos (⟨l.toArray⟩ : ByteArray) i.toNat hlt']
      have hl : ∀ h, l[i.toNat]'h = b := fun h => (List.getElem?_eq_some_iff.1 hb).2
      simp [ByteArray.getElem_eq_getElem_data, hl]
    refine wp_val (v := .int .u8 b.toNat) (w' := w) ?_ (hn γ w _ _ (h.put o.dst (by simp only [RV, encB, Rd])) hk)
    simp only [execOp, ho, hxv, hyv, Instr.index, asIntOf, Sem.run_bind, run_underlying hu, Result.andThen_ok, Sem.run_pure]
    rw [if_pos h0, hs]
    rfl
  · simp at hk

theorem owes_slice (t : TypeId) (x : Operand) (lo hi mx : Option Operand) : Owes P T E (fun o => o.op = .slice t x lo hi mx) := by
  intro R N X w0 w γ s a o κ r next Q ho h hk hn
  unfold opK at hk
  rw [ho] at hk
  simp only at hk
  split at hk
  · rename_i l ht hx
    obtain ⟨i, hk, hlo⟩ := bound_ok h hk
    obtain ⟨j, hk, hhi⟩ := bound_ok h hk
    obtain ⟨h0, h1, h2, hk⟩ := cutK_some hk
    have hxv := h.data hx
    simp only [Rd] at hxv
    have hu := und_str hT ht
    refine wp_val (v := .string ⟨((l.take j.toNat).drop i.toNat).toArray⟩) (w' := w) ?_ (hn γ w _ _ (h.put o.dst (by simp only [RV, Rd])) hk)
    have hb := run_bounds (P := P) w false (⟨l.toArray⟩ : ByteArray).size (⟨l.toArray⟩ : ByteArray).size (Nat.le_refl _) (lo.map a.eval) (hi.map a.eval) i j hlo hhi h0 h1 h2
    simp only [execOp, ho, hxv, Instr.sliceAt, Instr.slice, Sem.run_bind, run_underlying hu, Result.andThen_ok, Option.map_none, Option.isSome_none, Bool.false_eq_true, if_false, hb, Sem.run_pure]
    congr 3
    apply ByteArray.ext
    simp only [ByteArray.data_extract, List.extract_toArray, List.extract_eq_take_drop]
    rw [List.drop_take]
  · rename_i e n xs ht hx
    split at hk
    · rename_i hne
      obtain ⟨i, hk, hlo⟩ := bound_ok h hk
      obtain ⟨j, hk, hhi⟩ := bound_ok h hk
      obtain ⟨h0, h1, h2, hkS⟩ := cutK_some hk
      cases hsh : shiftId T o hi s x with
      | some k =>
        rw [hsh] at hkS
        simp only at hkS
        unfold shiftId at hsh
        split at hsh
        case isFalse => cases hsh
        rename_i hcond
        split at hsh
        case h_2 => cases hsh
        rename_i k' hgx
        injection hsh with hsh
        subst hsh
        have hin : hi = none := by
          simp only [Bool.and_eq_true, Option.isNone_iff_eq_none] at hcond
          exact hcond.2.1
        subst hin
        have hl : lookup k' s.o = some (.tok n xs) := by
          rw [hgx] at hx
          simp only [AV.data] at hx
          split at hx
          · rename_i n' xs' hl
            injection hx with hx
            injection hx with e1 e2
            subst e1 e2
            exact hl
          · cases hx
        have hxv := h.get x
        rw [hgx] at hxv
        simp only [RV] at hxv
        obtain ⟨ob, l, hl2, hs, he⟩ := hxv
        rw [hl] at hl2
        injection hl2 with hl2
        subst hl2
        simp only [Ob.sl, Option.some.injEq] at hs
        subst hs
        simp only [slVal] at he
        have hile : i.toNat ≤ xs.length := by omega
        obtain ⟨γ', base, cap, e1, hcap, h', e2⟩ := h.shift hl hile
        rw [e1] at he
        obtain ⟨hu, hto⟩ := und_slice hT ht
        simp only [Option.map_none] at hhi
        have hb := run_bounds (P := P) w true xs.length cap hcap (lo.map a.eval) none i j hlo hhi h0 h1 h2
        have hj : j.toNat = xs.length := by omega
        refine wp_val (v := .slice (if cap = i.toNat then base else base.map (·.add (i.toNat * T.sz e))) (j.toNat - i.toNat) (cap - i.toNat)) (w' := w) ?_ (hn γ' w _ _ (h'.put o.dst (v := .own k') ?_) hkS)
        · simp only [execOp, ho, he, Instr.sliceAt, Instr.slice, Sem.run_bind, run_underlying hu, Result.andThen_ok, Option.map_none, hb, run_size hT w hto, Sem.run_pure]
        · simp only [RV]
          refine ⟨.tok n (xs.drop i.toNat), .n (xs.drop i.toNat).length, lookup_update_same (y := .tok n xs) _ (by rw [lookup_subO, hl]; rfl), rfl, ?_⟩
          simp only [slVal]
          rw [e2, hj, hne]
      | none =>
      rw [hsh] at hkS
      have hk := hkS
      have hxv := h.data hx
      simp only [Rd] at hxv
      obtain ⟨ad, len, cap, he, h5, h6, h7, h8⟩ := hxv
      subst h5
      obtain ⟨hu, hto⟩ := und_slice hT ht
      have hb := run_bounds (P := P) w true xs.length cap h6 (lo.map a.eval) (hi.map a.eval) i j hlo hhi h0 h1 h2
      refine wp_val (v := .slice (if cap = i.toNat then ad else ad.map (·.add (i.toNat * T.sz e))) (j.toNat - i.toNat) (cap - i.toNat)) (w' := w) ?_ (hn γ w _ _ (h.put o.dst ?_) hk)
      · simp only [execOp, ho, he, Instr.sliceAt, Instr.slice, Sem.run_bind, run_underlying hu, Result.andThen_ok, Option.map_none, hb, run_size hT w hto, Sem.run_pure]
      · simp only [RV, Rd]
        refine ⟨_, _, _, rfl, by simp; omega, by omega, fun hnone => ?_, fun p hp => ?_⟩
        · split at hnone
          · omega
          · cases ad with
            | none => have := h7 rfl; omega
            | some p => simp at hnone
        · split at hp
          · rename_i hc
            have : (xs.take j.toNat).drop i.toNat = [] := by
              apply List.drop_eq_nil_of_le
              simp
              omega
            rw [this]
            simp only [RdE]
          · cases ad with
            | none => simp at hp
            | some q =>
              simp at hp
              subst hp
              rw [RdE_shift, ← hne]
              have h9 := RdE_take _ _ _ _ _ _ j.toNat (h8 q rfl)
              have h10 := RdE_drop _ _ _ _ _ _ i.toNat (by simp; omega) h9
              simpa using h10
    · simp at hk
  · rename_i e n xs mxo ht hx
    split at hk
    · rename_i hne
      obtain ⟨hne, hsome⟩ := hne
      obtain ⟨i, hk, hlo⟩ := bound_ok h hk
      obtain ⟨j, hk, hhi⟩ := bound_ok h hk
      obtain ⟨m, hk, hmx⟩ := bound_ok h hk
      split at hk
      · rename_i hmj
        subst hmj
        obtain ⟨h0, h1, h2, hk4⟩ := cutK_some hk
        have hxv := h.data hx
        simp only [Rd] at hxv
        obtain ⟨ad, len, cap, he, h5, h6, h7, h8⟩ := hxv
        subst h5
        obtain ⟨hu, hto⟩ := und_slice hT ht
        obtain ⟨hio, rfl⟩ := Option.isSome_iff_exists.1 hsome
        simp only [Option.map_some] at hhi hmx
        have hb := run_bounds3 (P := P) w xs.length cap h6 (lo.map a.eval) (a.eval hio) (a.eval mxo) i m hlo hhi hmx h0 h1 h2
        refine wp_val (v := .slice (if m.toNat = i.toNat then ad else ad.map (·.add (i.toNat * T.sz e))) (m.toNat - i.toNat) (m.toNat - i.toNat)) (w' := w) ?_ (hn γ w _ _ (h.put o.dst ?_) hk4)
        · simp only [execOp, ho, he, Instr.sliceAt, Instr.slice, Sem.run_bind, run_underlying hu, Result.andThen_ok, Option.map_some, hb, run_size hT w hto, Sem.run_pure]
        · simp only [RV, Rd]
          refine ⟨⟨_, _, _, rfl, by simp; omega, by omega, fun hnone => ?_, fun p hp => ?_⟩, _, _, rfl⟩
          · split at hnone
            · omega
            · cases ad with
              | none => have := h7 rfl; omega
              | some p => simp at hnone
          · split at hp
            · rename_i hc
              have : (xs.take m.toNat).drop i.toNat = [] := by
                apply List.drop_eq_nil_of_le
                simp
                omega
              rw [this]
              simp only [RdE]
            · cases ad with
              | none => simp at hp
              | some q =>
                simp at hp
                subst hp
                rw [RdE_shift, ← hne]
                have h9 := RdE_take _ _ _ _ _ _ m.toNat (h8 q rfl)
                have h10 := RdE_drop _ _ _ _ _ _ i.toNat (by simp; omega) h9
                simpa using h10
      · simp at hk
    · simp at hk
  · simp at hk

theorem owes_typeAssert (x : Operand) (t t2 : TypeId) (ok : Bool) : Owes P T E (fun o => o.op = .typeAssert x t t2 ok) := by
  intro R N X w0 w γ s a o κ r next Q ho h hk hn
  unfold opK at hk
  rw [ho] at hk
  simp only at hk
  split at hk
  · rename_i v hv
    unfold assertD at hv
    split at hv
    · rename_i t' dx em hx hif
      have hxv := h.get x
      rw [hx] at hxv
      simp only [RV, Rd] at hxv
      obtain ⟨y, he, hy⟩ := hxv
      cases ok with
      | false => simp at hv
      | true =>
        cases hb : T.has t' t2 with
        | none => rw [hb] at hv; simp at hv
        | some b =>
          rw [hb] at hv
          obtain ⟨want, xi, j, g1, g2, g3, g4, g5⟩ := hT.has t' t2 b hb
          cases b with
          | true =>
            simp only [Option.some.injEq] at hv
            subst hv
            have hrun := run_typeAssert_has (P := P) (w := w) (xT := t) (v := y) g1 g2 (List.isEmpty_iff.1 g5)
            refine wp_val (v := .tuple #[.iface t' y, .bool true]) (w' := w) ?_ (hn γ w _ _ (h.put o.dst ?_) hk)
            · simp only [execOp, ho, he, Sem.run_bind, hrun, Result.andThen_ok, Sem.run_pure]
            · simp only [RV]
              exact ⟨[_, _], rfl, by simp only [RVL, RV, Rd]; exact ⟨_, _, rfl, ⟨y, rfl, hy⟩, _, _, rfl, rfl, rfl⟩⟩
          | false =>
            simp only [Option.some.injEq] at hv
            subst hv
            have hrun := run_typeAssert_lacks (P := P) (w := w) (xT := t) (v := y) g1 g2 g3 g4 (fun e => by rw [e] at g5; simp at g5)
            refine wp_val (v := .tuple #[.nilIface, .bool false]) (w' := w) ?_ (hn γ w _ _ (h.put o.dst ?_) hk)
            · simp only [execOp, ho, he, Sem.run_bind, hrun, Result.andThen_ok, Sem.run_pure]
            · simp only [RV]
              exact ⟨[_, _], rfl, by simp only [RVL, RV, Rd]; exact ⟨_, _, rfl, rfl, _, _, rfl, rfl, rfl⟩⟩
    · simp at hv
    · simp at hv
    · rename_i t' dx hx hif hot
      have hot' : T.td t2 ≠ .other := hot
      obtain ⟨d, hd, hda⟩ := und_agg hT hot'
      have hne : ∀ ms, d ≠ .interface ms := by
        rintro ms rfl
        have := hT.td t2
        unfold tdOk at this
        split at this <;> rename_i e <;> (try simp [hd] at this)
        · exact hif _ e
        · exact hot' e
      have hxv := h.get x
      rw [hx] at hxv
      simp only [RV, Rd] at hxv
      obtain ⟨y, he, hy⟩ := hxv
      have hr1 : ∀ (b : Bool), t' = t2 → (Instr.typeAssert (.iface t' y) t t2 b).run P w = .ok (if b then .tuple #[y, .bool true] else y) w := by
        intro b e
        unfold Instr.typeAssert
        simp only [Sem.run_bind, run_underlying hd, Result.andThen_ok]
        cases d <;> first | exact absurd rfl (hne _) | (simp only [if_pos e]; cases b <;> rfl)
      have hr2 : ¬ t' = t2 → (Instr.typeAssert (.iface t' y) t t2 true).run P w = ((zeroValue t2).run P w).andThen fun z w => .ok (.tuple #[z, .bool false]) w := by
        intro e
        unfold Instr.typeAssert
        simp only [Sem.run_bind, run_underlying hd, Result.andThen_ok]
        cases d <;> first | exact absurd rfl (hne _) | (simp only [if_neg e, if_true, Sem.run_bind]; rfl)
      split at hv
      · rename_i hok
        split at hv
        · rename_i e
          simp only [Option.some.injEq] at hv
          subst hv
          refine wp_val (v := .tuple #[y, .bool true]) (w' := w) ?_ (hn γ w _ _ (h.put o.dst ?_) hk)
          · simp only [execOp, ho, he, Sem.run_bind, hr1 _ e, hok, if_true, Result.andThen_ok, Sem.run_pure]
          · simp only [RV]
            exact ⟨[y, .bool true], rfl, by simp only [RVL, RV, Rd]; exact ⟨_, _, rfl, hy, _, _, rfl, rfl, rfl⟩⟩
        · rename_i e
          simp only [Option.some.injEq] at hv
          subst hv
          obtain ⟨z, hz, hzl, hzn, hza, hzs⟩ := run_zero hT w hot'
          refine wp_val (v := .tuple #[z, .bool false]) (w' := w) ?_ (hn γ w _ _ (h.put o.dst ?_) hk)
          · simp only [execOp, ho, he, Sem.run_bind, hok, hr2 e, hz, Result.andThen_ok, Sem.run_pure]
          · have hzr := (zeroL_rd (all γ N s.o) w _ _ hzl).1
            simp only [RV]
            refine ⟨[z, .bool false], rfl, ?_⟩
            simp only [RVL, RV]
            refine ⟨_, _, rfl, ?_, _, _, rfl, by simp only [Rd], rfl⟩
            unfold valD
            cases ha : (T.td t2).agg with
            | true =>
              obtain ⟨us, rfl⟩ := hza ha
              simp only [if_true, Rd]
              exact ⟨us.toList, by simp, by simpa [Value.cells] using hzr⟩
            | false =>
              rw [hzs ha] at hzr
              have hl := RdL_length hzr
              match hT0 : T.zero t2, hl with
              | [c], _ =>
                rw [hT0] at hzr
                simp only [RdL] at hzr
                obtain ⟨u, us', e1, h1, _⟩ := hzr
                simp at e1
                rw [e1.1]
                simpa using h1
              | [], hl => simp at hl
              | _ :: _ :: _, hl => simp at hl
      · rename_i hok
        split at hv
        · rename_i e
          simp only [Option.some.injEq] at hv
          subst hv
          refine wp_val (v := y) (w' := w) ?_ (hn γ w _ _ (h.put o.dst (by simpa only [RV] using hy)) hk)
          simp only [execOp, ho, he, Sem.run_bind, hr1 _ e, if_neg hok, Result.andThen_ok, Sem.run_pure]
        · simp at hv
    · simp at hv
  · simp at hk

end
end Go.Ab

namespace Go.Ab

/-! # Keys: what the model asks of them -/
theorem keyC_inj : ∀ {a b : D} {v : Value}, keyC a = some v → keyC b = some v → a = b := by
  intro a b v ha hb
  unfold keyC at ha hb
  split at ha <;> split at hb <;> simp_all
  all_goals (subst ha; simp_all)
theorem keyCs_inj : ∀ {as bs : List D} {vs : List Value}, keyCs as = some vs → keyCs bs = some vs → as = bs
  | [], [], vs, _, _ => rfl
  | [], b :: bs, vs, ha, hb => by
    simp only [keyCs, Option.some.injEq] at ha
    subst ha
    simp only [keyCs] at hb
    split at hb <;> simp at hb
  | a :: as, [], vs, ha, hb => by
    simp only [keyCs, Option.some.injEq] at hb
    subst hb
    simp only [keyCs] at ha
    split at ha <;> simp at ha
  | a :: as, b :: bs, vs, ha, hb => by
    simp only [keyCs] at ha hb
    split at ha
    · rename_i v r h1 h2
      split at hb
      · rename_i v' r' h1' h2'
        simp only [Option.some.injEq] at ha hb
        rw [← ha] at hb
        injection hb with e1 e2
        subst e1 e2
        rw [keyC_inj h1 h1', keyCs_inj h2 h2']
      · simp at hb
    · simp at ha
theorem keyV_inj {a b : D} {v : Value} (ha : keyV a = some v) (hb : keyV b = some v) : a = b := by
  have hag : ∀ {d : D} {us : Array Value}, keyC d = some (.agg us) → False := by
    intro d us h
    unfold keyC at h
    split at h <;> simp at h
  cases a with
  | st xs =>
    simp only [keyV] at ha
    split at ha
    · rename_i vs hvs
      simp only [Option.some.injEq] at ha
      subst ha
      cases b with
      | st ys =>
        simp only [keyV] at hb
        split at hb
        · rename_i vs' hvs'
          simp only [Option.some.injEq, Value.agg.injEq] at hb
          have : vs' = vs := by simpa using hb
          subst this
          rw [keyCs_inj hvs hvs']
        · simp at hb
      | _ => exact (hag (by simpa only [keyV] using hb)).elim
    · simp at ha
  | _ =>
    cases b with
    | st ys =>
      simp only [keyV] at hb
      split at hb
      · simp only [Option.some.injEq] at hb
        subst hb
        exact (hag (by simpa only [keyV] using ha)).elim
      · simp at hb
    | _ => exact keyC_inj (by simpa only [keyV] using ha) (by simpa only [keyV] using hb)
/-- A key reads as its value, and as nothing else. -/
theorem keyC_rd {M : Mut} {w : World} {d : D} {v u : Value} (h : keyC d = some v) : Rd M w d u ↔ u = v := by
  unfold keyC at h
  split at h <;> simp only [Option.some.injEq, reduceCtorEq] at h
  · subst h; simp only [Rd]
  · subst h; simp only [Rd]
  · subst h; simp only [Rd]
theorem keyCs_rd {M : Mut} {w : World} : ∀ {ds : List D} {vs us : List Value}, keyCs ds = some vs → (RdL M w ds us ↔ us = vs)
  | [], vs, us, h => by
    simp only [keyCs, Option.some.injEq] at h
    subst h
    simp only [RdL]
  | d :: ds, vs, us, h => by
    simp only [keyCs] at h
    split at h
    · rename_i v r h1 h2
      simp only [Option.some.injEq] at h
      subst h
      simp only [RdL, keyC_rd h1, keyCs_rd h2]
      constructor
      · rintro ⟨u, us', rfl, rfl, rfl⟩; rfl
      · rintro rfl; exact ⟨_, _, rfl, rfl, rfl⟩
    · simp at h
theorem keyV_rd {M : Mut} {w : World} {d : D} {v u : Value} (h : keyV d = some v) : Rd M w d u ↔ u = v := by
  cases d with
  | st cs =>
    simp only [keyV] at h
    split at h
    · rename_i vs hvs
      simp only [Option.some.injEq] at h
      subst h
      simp only [Rd, keyCs_rd hvs]
      constructor
      · rintro ⟨us, rfl, rfl⟩; rfl
      · rintro rfl; exact ⟨_, rfl, rfl⟩
    · simp at h
  | _ => exact keyC_rd (by simpa only [keyV] using h)

theorem eqCells_keys : ∀ {ks : List EK} {xs ys : List D} {r : Bool}, eqCells ks xs ys = some r → (∃ vs, keyCs xs = some vs) ∧ (r = true ↔ xs = ys)
  | [], [], [], r, h => by simp [eqCells] at h; subst h; exact ⟨⟨[], rfl⟩, by simp⟩
  | [], [], y :: ys, r, h => by simp [eqCells] at h
  | [], x :: xs, ys, r, h => by simp [eqCells] at h
  | k :: ks, xs, ys, r, h => by
    unfold eqCells at h
    split at h
    · simp_all
    · rename_i ks' a r1 b r1' e0
      split at h
      · rename_i c hc
        simp only [Option.some.injEq] at h
        obtain ⟨⟨vs, hvs⟩, h2⟩ := eqCells_keys hc
        refine ⟨⟨_, by simp only [keyCs, keyC, hvs]; rfl⟩, ?_⟩
        subst h
        simp [h2]
      · simp at h
    · rename_i ks' k1 a r1 k2 b r1' e0
      split at h
      · rename_i hkk
        subst hkk
        split at h
        · rename_i c hc
          simp only [Option.some.injEq] at h
          obtain ⟨⟨vs, hvs⟩, h2⟩ := eqCells_keys hc
          refine ⟨⟨_, by simp only [keyCs, keyC, hvs]; rfl⟩, ?_⟩
          subst h
          simp [h2]
        · simp at h
      · simp at h
    · rename_i ks' a r1 b r1' e0
      split at h
      · rename_i c hc
        simp only [Option.some.injEq] at h
        obtain ⟨⟨vs, hvs⟩, h2⟩ := eqCells_keys hc
        refine ⟨⟨_, by simp only [keyCs, keyC, hvs]; rfl⟩, ?_⟩
        subst h
        simp [h2]
      · simp at h
    · simp at h
theorem keyOk_val {T : Ctx} {kt : TypeId} {k : D} (h : keyOkT T kt k = true) : ∃ v, keyV k = some v := by
  unfold keyOkT at h
  split at h
  · exact ⟨_, rfl⟩
  · exact ⟨_, rfl⟩
  · exact ⟨_, rfl⟩
  · split at h
    · simp at h
    · split at h
      · rename_i r hr
        obtain ⟨⟨vs, hvs⟩, _⟩ := eqCells_keys hr
        exact ⟨_, by simp only [keyV, hvs]; rfl⟩
      · simp at h
  · simp at h
theorem keyEq_iff {T : Ctx} {kt : TypeId} {a b : D} {r : Bool} (h : keyEqT T kt a b = some r) : r = true ↔ a = b := by
  unfold keyEqT at h
  split at h
  · simp only [Option.some.injEq] at h; subst h; simp
  · split at h
    · rename_i hq
      obtain ⟨rfl, rfl⟩ := hq
      simp only [Option.some.injEq] at h; subst h; simp
    · simp at h
  · simp only [Option.some.injEq] at h; subst h; simp
  · split at h
    · simp at h
    · obtain ⟨_, h2⟩ := eqCells_keys h
      simp [h2]
  · simp at h

theorem sameBits_keyC {d : D} {v : Value} (h : keyC d = some v) (n : Nat) : Instr.sameBits n v v = true := by
  unfold keyC at h
  split at h <;> simp only [Option.some.injEq, reduceCtorEq] at h
  · subst h; cases n <;> simp [Instr.sameBits, MapKept.bytes_beq]
  · subst h; cases n <;> simp [Instr.sameBits]
  · subst h; cases n <;> simp [Instr.sameBits]
theorem sameBits_keyCs (n : Nat) : ∀ {ds : List D} {vs : List Value}, keyCs ds = some vs → ∀ v ∈ vs, Instr.sameBits n v v = true
  | [], vs, h, v, hv => by
    simp only [keyCs, Option.some.injEq] at h
    subst h
    simp at hv
  | d :: ds, vs, h, v, hv => by
    simp only [keyCs] at h
    split at h
    · rename_i x r h1 h2
      simp only [Option.some.injEq] at h
      subst h
      rcases List.mem_cons.1 hv with rfl | hv
      · exact sameBits_keyC h1 n
      · exact sameBits_keyCs n h2 v hv
    · simp at h
theorem run_stays {P : Program} {w : World} {d : D} {v : Value} (h : keyV d = some v) : (Instr.keyThatStays v v).run P w = .ok v w := by
  have : Instr.sameBits 10000 v v = true := by
    cases d with
    | st cs =>
      simp only [keyV] at h
      split at h
      · rename_i vs hvs
        simp only [Option.some.injEq] at h
        subst h
        simp only [Instr.sameBits, beq_self_eq_true, Bool.true_and, List.all_eq_true]
        rintro ⟨x, y⟩ hxy
        have hz : ∀ (l : List Value) (p : Value × Value), p ∈ l.zip l → p.1 = p.2 ∧ p.1 ∈ l := by
          intro l
          induction l with
          | nil => intro p hp; simp at hp
          | cons a l ih =>
            intro p hp
            simp only [List.zip_cons_cons, List.mem_cons] at hp
            rcases hp with rfl | hp
            · exact ⟨rfl, by simp⟩
            · obtain ⟨e, hm⟩ := ih p hp
              exact ⟨e, by simp [hm]⟩
        obtain ⟨e, hm⟩ := hz _ _ hxy
        simp only at e hm
        subst e
        exact sameBits_keyCs 9999 hvs x hm
      · simp at h
    | _ => exact sameBits_keyC (by simpa only [keyV] using h) 10000
  simp [Instr.keyThatStays, this]

section
variable {P : Program} {T : Ctx} (hT : TOk P T)
include hT
theorem plain_key {kt : TypeId} {k : D} {v : Value} (h : keyOkT T kt k = true) (hv : keyV k = some v) : (∃ d, P.underlying kt = some d ∧ MapKept.IsKey d v ∧ ∀ k' v' r, keyEqT T kt k k' = some r → keyV k' = some v' → Instr.sameNow d v v' = some r) ∨
    (∃ xs us a, k = .st xs ∧ v = .agg us ∧ P.underlying kt = some (.struct a) ∧ T.eqt kt ≠ [] ∧ ∃ c, eqCells (T.eqt kt) xs xs = some c) := by
  have hu := hT.td kt
  unfold tdOk at hu
  unfold keyOkT at h
  split at h
  · rename_i s ht
    rw [ht] at hu
    simp only [keyV, keyC, Option.some.injEq] at hv
    subst hv
    refine .inl ⟨_, hu, trivial, fun k' v' r he hv' => ?_⟩
    unfold keyEqT at he
    rw [ht] at he
    cases k' with
    | s y =>
      simp only [keyV, keyC, Option.some.injEq] at hv'
      subst hv'
      simp only [Option.some.injEq] at he
      subst he
      simp only [Instr.sameNow]
      congr 1
      rw [Bool.eq_iff_iff, MapKept.bytes_beq]
      simp
    | _ => simp at he
  · rename_i q q' n ht
    rw [ht] at hu
    simp only [decide_eq_true_eq] at h
    subst h
    simp only [keyV, keyC, Option.some.injEq] at hv
    subst hv
    refine .inl ⟨_, hu, rfl, fun k' v' r he hv' => ?_⟩
    unfold keyEqT at he
    rw [ht] at he
    cases k' with
    | v y =>
      cases y with
      | int q2 m =>
        simp only [keyV, keyC, Option.some.injEq] at hv'
        subst hv'
        simp only at he
        split at he
        · rename_i hq
          simp only [Option.some.injEq] at he
          subst he
          simp [Instr.sameNow, hq.2]
        · simp at he
      | _ => simp at he
    | _ => simp at he
  · rename_i b ht
    rw [ht] at hu
    simp only [keyV, keyC, Option.some.injEq] at hv
    subst hv
    refine .inl ⟨_, hu, trivial, fun k' v' r he hv' => ?_⟩
    unfold keyEqT at he
    rw [ht] at he
    cases k' with
    | v y =>
      cases y with
      | bool c =>
        simp only [keyV, keyC, Option.some.injEq] at hv'
        subst hv'
        simp only [Option.some.injEq] at he
        subst he
        simp [Instr.sameNow]
      | _ => simp at he
    | _ => simp at he
  · rename_i fs xs ht
    rw [ht] at hu
    obtain ⟨a, ha, _⟩ := hu
    split at h
    · simp at h
    · rename_i hne
      split at h
      · rename_i c hc
        simp only [keyV] at hv
        split at hv
        · simp only [Option.some.injEq] at hv
          exact .inr ⟨xs, _, a, rfl, hv.symm, ha, hne, c, hc⟩
        · simp at hv
      · simp at h
  · simp at h

omit hT in
theorem run_checkFlat {w : World} (em : Bool) {U : Array Value} : ∀ (ks : List EK) (fs : List Field) (i : Nat) (xs : List D) (us : List Value) (c : Bool), flatB P i ks fs = true → eqCells ks xs xs = some c → RdL (fun _ _ => False) w xs us → U.toList.drop i = us →
    (forIn fs PUnit.unit fun f _ => do
      if f.name ≠ "_" then Instr.checkKey em 9999 f.type (← part f.type U f.offset)
      pure (ForInStep.yield PUnit.unit) : Sem PUnit).run P w = .ok PUnit.unit w
  | [], [], i, xs, us, c, hf, he, hx, hU => by simp
  | [], f :: fs, i, xs, us, c, hf, he, hx, hU => by simp [flatB] at hf
  | k :: ks, [], i, xs, us, c, hf, he, hx, hU => by simp [flatB] at hf
  | k :: ks, f :: fs, i, xs, us, c, hf, he, hx, hU => by
    simp only [flatB, Bool.and_eq_true, bne_iff_ne, ne_eq, beq_iff_eq] at hf
    obtain ⟨⟨⟨h1, h2⟩, h3⟩, h4⟩ := hf
    have fin : ∀ (x : D) (xs' : List D) (c' : Bool), xs = x :: xs' → eqCells ks xs' xs' = some c' → ((P.underlying f.type = some .string) ∨ (∃ q, P.underlying f.type = some (.int q)) ∨ P.underlying f.type = some .bool) →
        (forIn (f :: fs) PUnit.unit fun f _ => do
      if f.name ≠ "_" then Instr.checkKey em 9999 f.type (← part f.type U f.offset)
      pure (ForInStep.yield PUnit.unit) : Sem PUnit).run P w = .ok PUnit.unit w := by
      rintro x xs' c' rfl hc hq
      simp only [RdL] at hx
      obtain ⟨u, us', rfl, hu, hx⟩ := hx
      have gU : U[i]? = some u := by
        have := congrArg (fun l => l[0]?) hU
        simpa using this
      have dU : U.toList.drop (i + 1) = us' := by
        have := congrArg (List.drop 1) hU
        simpa [List.drop_drop, Nat.add_comm] using this
      have p1 := run_part_flat (P := P) (w := w) h3 gU
      have p2 : (Instr.checkKey em 9999 f.type u).run P w = .ok () w := by
        unfold Instr.checkKey
        rcases hq with hd | ⟨q, hd⟩ | hd <;> simp only [Sem.run_bind, run_underlying hd, Result.andThen_ok, Sem.run_pure]
      have ih := run_checkFlat em ks fs (i + 1) xs' us' c' h4 hc hx dU
      rw [List.forIn_cons, h2]
      simp only [Sem.run_bind, ne_eq, h1, not_false_eq_true, if_true, p1, p2, Result.andThen_ok, Sem.run_pure]
      exact ih
    have und : ∀ {k : EK}, k.fits (P.underlying f.type) = true → (k = .s → P.underlying f.type = some .string) ∧ (k = .i → ∃ q, P.underlying f.type = some (.int q)) ∧ (k = .b → P.underlying f.type = some .bool) := by
      intro k hk
      cases hu : P.underlying f.type with
      | none => rw [hu] at hk; cases k <;> simp [EK.fits] at hk
      | some u =>
        rw [hu] at hk
        cases k <;> cases u <;> simp [EK.fits] at hk <;> simp
    cases xs with
    | nil => cases k <;> simp [eqCells] at he
    | cons x xs' =>
      cases k with
      | s =>
        cases x with
        | s l =>
          simp only [eqCells] at he
          split at he
          · rename_i c' hc
            exact fin _ _ c' rfl hc (.inl ((und h3).1 rfl))
          · simp at he
        | _ => simp [eqCells] at he
      | i =>
        cases x with
        | v y =>
          cases y with
          | int q n =>
            simp only [eqCells, if_true] at he
            split at he
            · rename_i c' hc
              exact fin _ _ c' rfl hc (.inr (.inl ((und h3).2.1 rfl)))
            · simp at he
          | _ => simp [eqCells] at he
        | _ => simp [eqCells] at he
      | b =>
        cases x with
        | v y =>
          cases y with
          | bool q =>
            simp only [eqCells] at he
            split at he
            · rename_i c' hc
              exact fin _ _ c' rfl hc (.inr (.inr ((und h3).2.2 rfl)))
            · simp at he
          | _ => simp [eqCells] at he
        | _ => simp [eqCells] at he

theorem run_checkT {w : World} {kt : TypeId} {k : D} {v : Value} (h : keyOkT T kt k = true) (hv : keyV k = some v) (em : Bool) : (Instr.checkKey em 10000 kt v).run P w = .ok () w := by
  rcases plain_key hT h hv with ⟨d, hd, hk, _⟩ | ⟨xs, us, a, rfl, rfl, ha, hne, c, hc⟩
  · exact MapKept.run_checkKey hd hk em 9999
  · have hb := hT.eqt kt hne
    unfold eqB at hb
    rw [ha] at hb
    simp only [Bool.and_eq_true] at hb
    have hrd : Rd (fun _ _ => False) w (.st xs) (.agg us) := (keyV_rd hv).2 rfl
    simp only [Rd] at hrd
    obtain ⟨us', e, hus⟩ := hrd
    injection e with e
    subst e
    have := run_checkFlat (P := P) (w := w) em (U := us'.toArray) (T.eqt kt) a.toList 0 xs us' c hb.2 hc hus (by simp)
    unfold Instr.checkKey
    simp only [Sem.run_bind, run_underlying ha, Result.andThen_ok]
    rw [← Array.forIn_toList]
    simp only [this, Result.andThen_ok, Sem.run_pure]

omit hT in
/-- What a search came to. -/
def Found (P : Program) (w : World) (kt : TypeId) (k : D) (v : Value) (es : List (D × AV)) (ents : List MapEntry) : Option (Nat × AV) → Prop
  | none => (Instr.findKey kt v ents).run P w = .ok none w ∧ ∀ e ∈ ents, e.key ≠ v
  | some (j, x) => ∃ e, ents[j]? = some e ∧ es[j]? = some (k, x) ∧ e.key = v ∧ (Instr.findKey kt v ents).run P w = .ok (some (j, e.val)) w
/-- A key is looked for. -/
theorem run_find {w : World} {kt : TypeId} {k : D} {v : Value} (hk : keyOkT T kt k = true) (hv : keyV k = some v) : ∀ (es : List (D × AV)) (ents : List MapEntry) (r : Option (Nat × AV)), ents.map (fun e => some e.key) = es.map (fun e => keyV e.1) → findM T kt k es 0 = some r →
    Found P w kt k v es ents r := by
  -- what the keys' comparisons come to, entry by entry
  have key : ∀ (Fnd : List MapEntry → Nat → Option (Nat × Value) → Prop), (∀ i, Fnd [] i none) →
      (∀ e ents i k', keyEqT T kt k k' = some true → some e.key = keyV k' → Fnd (e :: ents) i (some (i, e.val))) →
      (∀ e ents i k' r, keyEqT T kt k k' = some false → some e.key = keyV k' → Fnd ents (i + 1) r → Fnd (e :: ents) i r) →
      ∀ (es : List (D × AV)) (ents : List MapEntry) (i : Nat) (r : Option (Nat × AV)), ents.map (fun e => some e.key) = es.map (fun e => keyV e.1) → findM T kt k es i = some r →
      match r with
      | none => Fnd ents i none ∧ ∀ e ∈ ents, e.key ≠ v
      | some (j, x) => ∃ m e, j = i + m ∧ ents[m]? = some e ∧ es[m]? = some (k, x) ∧ e.key = v ∧ Fnd ents i (some (j, e.val)) := by
    intro Fnd f1 f2 f3 es
    induction es with
    | nil =>
      intro ents i r hm hf
      simp only [findM, Option.some.injEq] at hf
      subst hf
      simp only [List.map_nil, List.map_eq_nil_iff] at hm
      subst hm
      exact ⟨f1 i, by simp⟩
    | cons p es ih =>
      obtain ⟨k', x⟩ := p
      intro ents i r hm hf
      cases ents with
      | nil => simp at hm
      | cons e ents =>
        simp only [List.map_cons, List.cons.injEq] at hm
        simp only [findM] at hf
        split at hf
        · rename_i he
          simp only [Option.some.injEq] at hf
          subst hf
          obtain rfl := (keyEq_iff he).1 rfl
          refine ⟨0, e, rfl, rfl, rfl, ?_, f2 e ents i k he hm.1⟩
          rw [hv] at hm
          simpa using hm.1
        · rename_i he
          have hne : e.key ≠ v := by
            intro e1
            rw [e1, ← hv] at hm
            have : k = k' := keyV_inj hv (by rw [← hm.1, hv])
            have := (keyEq_iff he).2 this
            simp at this
          have := ih ents (i + 1) r hm.2 hf
          split at this
          · refine ⟨f3 e ents i k' none he hm.1 this.1, fun e' h' => ?_⟩
            rcases List.mem_cons.1 h' with rfl | h'
            · exact hne
            · exact this.2 e' h'
          · obtain ⟨m, e', h1, h2, h3, h4, h5⟩ := this
            exact ⟨m + 1, e', by omega, by simpa using h2, by simpa using h3, h4, f3 e ents i k' _ he hm.1 h5⟩
        · simp at hf
  intro es ents r hm hf
  have fin : ∀ (Fnd : List MapEntry → Nat → Option (Nat × Value) → Prop), (∀ a, Fnd ents 0 a → (Instr.findKey kt v ents).run P w = .ok a w) → (∀ i, Fnd [] i none) →
      (∀ e ents i k', keyEqT T kt k k' = some true → some e.key = keyV k' → Fnd (e :: ents) i (some (i, e.val))) →
      (∀ e ents i k' r, keyEqT T kt k k' = some false → some e.key = keyV k' → Fnd ents (i + 1) r → Fnd (e :: ents) i r) →
      Found P w kt k v es ents r := by
    intro Fnd f0 f1 f2 f3
    have := key Fnd f1 f2 f3 es ents 0 r hm hf
    split at this
    · exact ⟨f0 _ this.1, this.2⟩
    · obtain ⟨m, e, h1, h2, h3, h4, h5⟩ := this
      simp only [Nat.zero_add] at h1
      subst h1
      exact ⟨e, h2, h3, h4, f0 _ h5⟩
  rcases plain_key hT hk hv with ⟨d, hd, hkd, hsame⟩ | ⟨xs, us, a, rfl, rfl, ha, hne, c, hc⟩
  · refine fin (fun ents i a => Instr.findNow d v ents i = some a) (fun a h => MapKept.run_findKey hd h) (fun i => rfl) (fun e ents i k' h1 h2 => ?_) fun e ents i k' r h1 h2 h3 => ?_
    · simp [Instr.findNow, hsame k' e.key true h1 h2.symm]
    · simp [Instr.findNow, hsame k' e.key false h1 h2.symm, h3]
  · have hb := hT.eqt kt hne
    have heq : ∀ (e : MapEntry) (k' : D) (b : Bool), keyEqT T kt (.st xs) k' = some b → some e.key = keyV k' → (Op.equal kt (.agg us) e.key).run P w = .ok b w := by
      intro e k' b h1 h2
      have h1' := h1
      unfold keyEqT at h1'
      split at h1'
      · simp at *
      · simp at *
      · simp at *
      · rename_i fs xs' ys ht e1
        injection e1 with e1
        subst e1
        rw [if_neg hne] at h1'
        have hx : Rd (fun _ _ => False) w (.st xs) (.agg us) := (keyV_rd hv).2 rfl
        have hy : Rd (fun _ _ => False) w (.st ys) e.key := (keyV_rd h2.symm).2 rfl
        simp only [Rd] at hx hy
        obtain ⟨us1, e2, hx⟩ := hx
        obtain ⟨vs1, e3, hy⟩ := hy
        rw [e2, e3]
        exact (run_eqSt hb h1' hx hy).2
      · simp at h1'
    refine fin (fun ents i a => (Instr.findAsking kt (.agg us) ents i).run P w = .ok a w) (fun a h => ?_) (fun i => rfl) (fun e ents i k' h1 h2 => ?_) fun e ents i k' r h1 h2 h3 => ?_
    · unfold Instr.findKey
      simp only [Sem.run_bind, run_underlying ha, Result.andThen_ok]
      cases ents with
      | nil =>
        simp only [Instr.findAsking, Sem.run_pure] at h
        simp only [Instr.findNow, Sem.run_pure]
        exact h
      | cons e ents =>
        simp only [Instr.findNow, Instr.sameNow]
        exact h
    · unfold Instr.findAsking
      simp only [Sem.run_bind, heq e k' true h1 h2, Result.andThen_ok, if_true, Sem.run_pure]
    · unfold Instr.findAsking
      simp only [Sem.run_bind, heq e k' false h1 h2, Result.andThen_ok, Bool.false_eq_true, if_false]
      exact h3
end
end Go.Ab

namespace Go.Ab

/-! # Maps of the frame's own: read, written -/
theorem heap_setMap {w : World} {b : Nat} {o o' : Obj} (hb : w.heap[b]? = some o) : ({ w with heap := w.heap.setIfInBounds b o' } : World).heap[b]? = some o' := (MapKept.heap_set hb).1
theorem Chg.setMap {w : World} {b : Nat} {ents : Array MapEntry} {clock : Nat} {o' : Obj} (hb : w.heap[b]? = some (.map ents clock)) : Chg (fun n _ => n = b) w { w with heap := w.heap.setIfInBounds b o' } := by
  refine ⟨rfl, rfl, rfl, by simp, fun n hn hx => (MapKept.heap_set hb).2 n (fun e => hx 0 e), fun n i v hc hx => ?_⟩
  simp only [World.cell?] at hc ⊢
  rw [(MapKept.heap_set hb).2 n hx]
  exact hc

/-- A map is put in another's place. -/
theorem SR.setMap {T : Ctx} {N : Mut} {w0 : World} {X : Fm} {γ : Gam} {w : World} {s : St} {a : Act} (h : SR T N w0 X γ w s a) {id : Id} {es es' : List (D × AV)} (hl : lookup id s.o = some (.map es)) {b : Nat} {ents ents' : Array MapEntry} {clock clock' : Nat} (hb : (γ id).b = some b) (hh : w.heap[b]? = some (.map ents clock))
    (hst : MapKept.Stamped ents' clock') (hks : ents'.toList.map (fun e => some e.key) = es'.map (fun e => keyV e.1)) (hv : RVL γ s.o (all γ N s.o) w (es'.map (·.2)) (ents'.toList.map (·.val))) :
    SR T N w0 X γ { w with heap := w.heap.setIfInBounds b (.map ents' clock') } { s with o := update id (.map es') s.o } a := by
  have hmem := lookup_mem hl
  have hown : ∀ n j, own γ (update id (.map es') s.o) n j → own γ s.o n j := by
    rintro n j ⟨p, hp, hpb, hm⟩
    rcases mem_update hp with ⟨e1, e2⟩ | ⟨_, hp⟩
    · exact ⟨_, hmem, by simpa [e1] using hpb, trivial⟩
    · exact ⟨p, hp, hpb, hm⟩
  have ho : ∀ M' w' k u', RV γ s.o (all γ N s.o) w (.own k) u' → RV γ (update id (.map es') s.o) M' w' (.own k) u' := by
    intro M' w' k u' hv'
    simp only [RV] at hv' ⊢
    obtain ⟨ob, l, hlk, hs, e⟩ := hv'
    by_cases hk : k = id
    · subst hk
      rw [hl] at hlk
      injection hlk with hlk
      subst hlk
      exact ⟨_, l, lookup_update_same _ hl, hs, e⟩
    · exact ⟨ob, l, by rw [lookup_update_ne _ hk, hlk], hs, e⟩
  have he : ∀ M' w' k i' off u', RV γ s.o (all γ N s.o) w (.elt k i' off) u' → RV γ (update id (.map es') s.o) M' w' (.elt k i' off) u' := by
    intro M' w' k i' off u' hv'
    simp only [RV] at hv' ⊢
    obtain ⟨b', g, n, es, hb', hlk, e⟩ := hv'
    refine ⟨b', g, n, es, hb', ?_, e⟩
    rw [lookup_update_ne _ (fun e => by subst e; rw [hl] at hlk; simp at hlk), hlk]
  have hh' := h.core (γ' := γ) (o' := update id (.map es') s.o) (fo := .own) (fr := .ref) (Chg.setMap (o' := .map ents' clock') hh) (fun n j hx => ⟨_, hmem, by rw [hb, hx], trivial⟩) (fun n j _ hm => hown n j hm) (fun _ => ho _ _) (fun _ i off u' hv' => by simpa only [RV] using hv') (fun _ => he _ _) (fun i ob _ _ hli => ⟨rfl, by
    by_cases e : i = id
    · subst e
      rw [hl] at hli
      injection hli with hli
      subst hli
      exact ⟨_, lookup_update_same _ hl, rfl⟩
    · exact ⟨ob, by rw [lookup_update_ne _ e, hli], rfl⟩⟩) fun hk => ⟨?_, ?_, ?_, fun n j hn => Nat.lt_of_lt_of_le (h.inv.old n j hn) (by simp), ?_⟩
  · rw [subL_id] at hh'
    exact hh'
  · rw [update_keys]
    exact h.inv.keys
  · intro p hp q hq n hpn hqn
    have key : ∀ p ∈ update id (.map es') s.o, ∃ p' ∈ s.o, p'.1 = p.1 := by
      intro p hp
      rcases mem_update hp with ⟨e1, e2⟩ | ⟨_, hp⟩
      · exact ⟨_, hmem, e1.symm⟩
      · exact ⟨p, hp, rfl⟩
    obtain ⟨p', hp', e⟩ := key p hp
    obtain ⟨q', hq', e'⟩ := key q hq
    rw [← e, ← e']
    exact h.inv.apart p' hp' q' hq' n (by rw [e]; exact hpn) (by rw [e']; exact hqn)
  · intro p hp n hpn j hn
    rcases mem_update hp with ⟨e1, e2⟩ | ⟨_, hp⟩
    · exact h.inv.sep _ hmem n (by simpa [e1] using hpn) j hn
    · exact h.inv.sep p hp n hpn j hn
  · intro p hp
    have hd : ∀ x u', Rd (all γ N s.o) w x u' → Rd (all γ N (update id (.map es') s.o)) { w with heap := w.heap.setIfInBounds b (.map ents' clock') } x u' := fun x u' => Rd.keep hk x u'
    rcases mem_update hp with ⟨e1, e2⟩ | ⟨hne, hp⟩
    · rw [e1, e2]
      exact ⟨b, ents', clock', hb, heap_setMap hh, hst, hks, RVL.same hd (ho _ _) (fun i off u' hv' => by simpa only [RV] using hv') (he _ _) _ _ hv⟩
    · have hne' : ∀ n, (γ p.1).b = some n → n ≠ b := by
        rintro n hn rfl
        exact hne (h.inv.apart p hp _ hmem n hn hb)
      have := RO.sub (fo := .own) (fr := .ref) hk p.1 p.2 rfl (fun n hn => (MapKept.heap_set hh).2 n (hne' n hn)) (ho _ _) (fun i off u' hv' => by simpa only [RV] using hv') (he _ _) (h.inv.obs p hp)
      have e : p.2.sub .own .ref = p.2 := by cases p.2 <;> simp [Ob.sub, subL_id, subE_id, subM_id]
      rwa [e] at this

theorem map_parts {T : Ctx} {N : Mut} {w0 : World} {X : Fm} {γ : Gam} {w : World} {s : St} {a : Act} (h : SR T N w0 X γ w s a) {id : Id} {es : List (D × AV)} (hl : lookup id s.o = some (.map es)) :
    ∃ b ents clock, (γ id).b = some b ∧ w.heap[b]? = some (.map ents clock) ∧ MapKept.Stamped ents clock ∧ ents.toList.map (fun e => some e.key) = es.map (fun e => keyV e.1) ∧ RVL γ s.o (all γ N s.o) w (es.map (·.2)) (ents.toList.map (·.val)) ∧ ∀ u, RV γ s.o (all γ N s.o) w (.own id) u → u = .map (some b) := by
  obtain ⟨b, ents, clock, hb, hh, h1, h2, h3⟩ := h.inv.obs _ (lookup_mem hl)
  have hb' : (γ id).b = some b := hb
  refine ⟨b, ents, clock, hb, hh, h1, h2, h3, fun u hu => ?_⟩
  simp only [RV] at hu
  obtain ⟨ob, l, hl', hs, rfl⟩ := hu
  rw [hl] at hl'
  injection hl' with hl'
  subst hl'
  simp only [Ob.sl, Option.some.injEq] at hs
  subst hs
  simp only [slVal, hb']

/-- A new slice that may be written, in a new block. -/
theorem SR.newArr {T : Ctx} {N : Mut} {w0 : World} {X : Fm} {γ : Gam} {w : World} {s : St} {a : Act} (h : SR T N w0 X γ w s a) (d : Tmp) (g : Bool) (n : Nat) (es : List (List AV)) (us rest : List Value) (cap : Nat) (ty : TypeId) (hlen : es.length ≤ cap)
    (hsz : cap * n = (us ++ rest).length) (hx : ∀ e ∈ es, e.length = n) (hc : RVL γ s.o (all γ N s.o) w es.flatten us) :
    ∃ γ', SR T N w0 X γ' (w.alloc (.cells (us ++ rest).toArray ty)) (s.newArr d g n es) (a.put (some d) (.slice (some ⟨w.heap.size, 0, none⟩) es.length cap)) := by
  have hn := h.new (Chg.alloc w (.cells (us ++ rest).toArray ty)) (1, d) ⟨some w.heap.size, cap, .slice none 0 0, 0⟩ (.arr g n (subE (dropO (1, d) s) (dropR (1, d)) es)) (fun b hb => by
      simp only [Option.some.injEq] at hb
      subst hb
      simp) (fun γ' o' hk hg tr hN hnew => by
      simp only [RO, hg]
      refine ⟨_, ty, heap_alloc _ _, ⟨by rw [subE_len]; exact hlen, trivial⟩, by simpa using hsz, subE_n _ _ hx, us, rest, by simp, ?_⟩
      rw [subE_flat]
      exact RVL.map tr es.flatten us hc)
  exact ⟨_, hn.put (some d) (v := .own (1, d)) (u := .slice (some ⟨w.heap.size, 0, none⟩) es.length cap) (by
    simp only [RV, upd_same, lookup, if_true]
    exact ⟨_, _, rfl, rfl, by simp only [slVal, tokVal, subE_len]⟩)⟩

section
variable {P : Program} {T : Ctx} (hT : TOk P T) (E : Abs)
include hT

theorem und_map {t kt et : TypeId} (ht : T.td t = .map kt et) : P.underlying t = some (.map kt et) := by
  have := hT.td t
  unfold tdOk at this
  rw [ht] at this
  exact this
omit hT in
theorem key_val {N : Mut} {X : Fm} {w0 w : World} {γ : Gam} {s : St} {a : Act} (h : SR T N w0 X γ w s a) {x : Operand} {kt : TypeId} {k : D} (hx : (s.get T x).data s.o = some k) (hk : keyOkT T kt k = true) : keyV k = some (a.eval x) := by
  obtain ⟨v, hv⟩ := keyOk_val hk
  have := (keyV_rd hv).1 (h.data hx)
  rw [this, hv]
theorem zero_val {γ : Gam} {o : Obs} (M : Mut) (w : World) {et : TypeId} (hz : (T.td et).ok = true) : ∃ z, (∀ w', (zeroValue et).run P w' = .ok z w') ∧ RV γ o M w (.d (valD (T.td et).agg (T.zero et))) z := by
  obtain ⟨z, h1, h2, h3, h4, h5⟩ := run_zero hT w (td_ok hz)
  have hrun : ∀ w', (zeroValue et).run P w' = .ok z w' := by
    intro w'
    obtain ⟨i, z', hi, _, _, hz', _⟩ := hT.info et (td_ok hz)
    have e : z' = z := by
      unfold zeroValue typeInfo at h1
      simp [hi, hz'] at h1
      exact h1
    subst e
    unfold zeroValue typeInfo
    simp [hi, hz']
  refine ⟨z, hrun, ?_⟩
  have hr := zeroL_rd M w _ _ h2
  simp only [RV]
  cases hag : (T.td et).agg with
  | true =>
    obtain ⟨us, rfl⟩ := h4 hag
    simp only [valD, if_true, Rd]
    exact ⟨us.toList, by simp, by simpa [Value.cells] using hr.1⟩
  | false =>
    have := h5 hag
    rw [this] at hr
    simp only [valD, Bool.false_eq_true, if_false]
    have hr1 := hr.1
    cases hzz : T.zero et with
    | nil => rw [hzz] at hr1; simp [RdL] at hr1
    | cons d ds =>
      rw [hzz] at hr1
      simp only [RdL] at hr1
      obtain ⟨u, us', e, hu, _⟩ := hr1
      simp only [List.cons.injEq] at e
      simp only [List.headD_cons]
      rw [e.1]
      exact hu

omit hT in
theorem lookA_ok {γ : Gam} {o : Obs} {M : Mut} {w : World} (ok is : Bool) {v : AV} {u : Value} (h : RV γ o M w v u) : RV γ o M w (lookA ok v is) (if ok = true then .tuple #[u, .bool is] else u) := by
  unfold lookA
  cases ok with
  | false => exact h
  | true =>
    simp only [if_true, RV, RVL]
    exact ⟨[u, .bool is], rfl, u, [.bool is], rfl, h, .bool is, [], rfl, by simp only [Rd], rfl⟩

theorem owes_makeMap (t : TypeId) (r : Option Operand) : Owes P T E (fun o => o.op = .makeMap t r) := by
  intro R N X w0 w γ s a o κ rr next Q ho h hk hn
  unfold opK at hk
  rw [ho] at hk
  simp only at hk
  split at hk
  · rename_i kt et d ht hd
    obtain ⟨γ', h'⟩ := h.newMap d
    exact wp_val (v := .map (some w.heap.size)) (w' := w.alloc (.map #[] 0)) (by simp [execOp, ho, show (Instr.makeMap t none).run P w = .ok (.map (some w.heap.size)) (w.alloc (.map #[] 0)) from rfl]) (hn γ' _ _ _ (by rw [hd]; exact h') hk)
  · rename_i kt et d x ht hd
    split at hk
    · rename_i q n hx
      have hxv := h.get x
      rw [hx] at hxv
      simp only [RV, Rd] at hxv
      obtain ⟨γ', h'⟩ := h.newMap d
      refine wp_val (v := .map (some w.heap.size)) (w' := w.alloc (.map #[] 0)) ?_ (hn γ' _ _ _ (by rw [hd]; exact h') hk)
      simp [execOp, ho, Instr.makeMap, run_underlying (und_map hT ht), hxv, asInt, asIntOf]
    · simp at hk
  · simp at hk

theorem owes_lookup (t : TypeId) (x i : Operand) (ok : Bool) : Owes P T E (fun o => o.op = .lookup t x i ok) := by
  intro R N X w0 w γ s a o κ rr next Q ho h hk hn
  unfold opK at hk
  rw [ho] at hk
  simp only at hk
  split at hk
  · rename_i kt et k ht hx
    split at hk
    · rename_i hc
      obtain ⟨hkey, hz⟩ := hc
      have hkv := key_val h hx hkey
      have hu := und_map hT ht
      obtain ⟨z, hzr, hzv⟩ := zero_val hT (γ := γ) (o := s.o) (all γ N s.o) w hz
      have hxv := h.get x
      split at hk
      · rename_i id hid
        rw [hid] at hxv
        split at hk
        · rename_i es hl
          obtain ⟨b, ents, clock, hb, hh, hst, hks, hvs, hval⟩ := map_parts h hl
          have hxm := hval _ hxv
          have hchk := run_checkT hT (w := w) hkey hkv ents.isEmpty
          split at hk
          · rename_i j v hf
            obtain ⟨e, he1, he2, he3, he4⟩ := run_find hT (w := w) hkey hkv es ents.toList _ hks hf
            have hve : RV γ s.o (all γ N s.o) w v e.val := by
              obtain ⟨u, hu1, hu2⟩ := RVL_get hvs (i := j) (d := v) (by rw [List.getElem?_map, he2]; rfl)
              rw [List.getElem?_map, he1] at hu1
              simp only [Option.map_some, Option.some.injEq] at hu1
              rwa [hu1]
            refine wp_val (v := if ok = true then .tuple #[e.val, .bool true] else e.val) (w' := w) ?_ (hn γ w _ _ (h.put o.dst (lookA_ok ok true hve)) hk)
            simp only [execOp, ho, Instr.lookup, Sem.run_bind, run_underlying hu, Result.andThen_ok, hxm, MapKept.run_getObj_map hh, Sem.run_pure, hchk, he4]
          · rename_i hf
            obtain ⟨he4, _⟩ := run_find hT (w := w) hkey hkv es ents.toList _ hks hf
            refine wp_val (v := if ok = true then .tuple #[z, .bool false] else z) (w' := w) ?_ (hn γ w _ _ (h.put o.dst (lookA_ok ok false hzv)) hk)
            simp only [execOp, ho, Instr.lookup, Sem.run_bind, run_underlying hu, Result.andThen_ok, hxm, MapKept.run_getObj_map hh, Sem.run_pure, hchk, he4, hzr]
          · simp at hk
        · simp at hk
      · rename_i hid
        rw [hid] at hxv
        simp only [RV, Rd] at hxv
        have hchk := run_checkT hT (w := w) hkey hkv true
        obtain ⟨he4, _⟩ := run_find hT (w := w) hkey hkv [] [] none rfl rfl
        refine wp_val (v := if ok = true then .tuple #[z, .bool false] else z) (w' := w) ?_ (hn γ w _ _ (h.put o.dst (lookA_ok ok false hzv)) hk)
        simp only [execOp, ho, Instr.lookup, Sem.run_bind, run_underlying hu, Result.andThen_ok, hxv, Sem.run_pure]
        have e1 : (#[] : Array MapEntry).isEmpty = true := rfl
        simp only [e1, hchk, he4, Result.andThen_ok, hzr, Sem.run_bind, Sem.run_pure]
      · simp at hk
    · simp at hk
  · simp at hk

/-- A key is put. -/
theorem run_put {N : Mut} {X : Fm} {w0 w : World} {γ : Gam} {s : St} {a : Act} (h : SR T N w0 X γ w s a) {t kt et : TypeId} (ht : T.td t = .map kt et) {id : Id} {es es' : List (D × AV)} (hl : lookup id s.o = some (.map es)) {m : Value} (hm : RV γ s.o (all γ N s.o) w (.own id) m) {k : D} {kv : Value} (hk : keyOkT T kt k = true) (hkv : keyV k = some kv)
    {v : AV} {u : Value} (hv : RV γ s.o (all γ N s.o) w v u) (hp : putM T kt k v es = some es') :
    ∃ w', (Instr.mapUpdate t m kv u).run P w = .ok () w' ∧ SR T N w0 X γ w' { s with o := update id (.map es') s.o } a := by
  obtain ⟨b, ents, clock, hb, hh, hst, hks, hvs, hval⟩ := map_parts h hl
  have hxm := hval _ hm
  subst hxm
  have hchk := run_checkT hT (w := w) hk hkv false
  have hu := und_map hT ht
  have hsy := run_stays (P := P) (w := w) hkv
  unfold putM at hp
  split at hp
  · rename_i j x hf
    simp only [Option.some.injEq] at hp
    subst hp
    obtain ⟨e, he1, he2, he3, he4⟩ := run_find hT (w := w) hk hkv es ents.toList _ hks hf
    have he1' : ents[j]? = some e := by simpa using he1
    refine ⟨_, ?_, h.setMap hl hb hh (ents' := ents.modify j fun e => { e with key := kv, val := u }) (clock' := clock) (MapKept.stamped_modify hst j _ (fun _ _ => rfl) fun e' _ hj => ?_) ?_ ?_⟩
    · simp only [Instr.mapUpdate, Sem.run_bind, run_underlying hu, Result.andThen_ok, MapKept.run_getObj_map hh, hchk, he4, he1', Option.map_some, Option.getD_some, he3, hsy]
      exact MapKept.run_setObj_map _ hh
    · rw [he1'] at hj
      injection hj with hj
      subst hj
      exact he3.symm
    · rw [Array.toList_modify]
      apply List.ext_getElem?
      intro i
      have := congrArg (fun l => l[i]?) hks
      simp only [List.getElem?_map, List.getElem?_modify, List.getElem?_set] at this ⊢
      by_cases hij : j = i
      · subst hij
        have hlt : j < es.length := (List.getElem?_eq_some_iff.1 he2).1
        simp [he1, hlt, hkv]
      · simp only [hij, if_false]
        simpa using this
    · rw [Array.toList_modify]
      have e1 : (es.set j (k, v)).map (·.2) = (es.map (·.2)).set j v := by simp [List.map_set]
      have e2 : (ents.toList.modify j fun e => { e with key := kv, val := u }).map (·.val) = (ents.toList.map (·.val)).set j u := by
        apply List.ext_getElem?
        intro i
        simp only [List.getElem?_map, List.getElem?_modify, List.getElem?_set, List.length_map]
        by_cases hij : j = i
        · subst hij
          have hlt : j < ents.size := (Array.getElem?_eq_some_iff.1 he1').1
          simp [hlt]
        · simp [hij]
      rw [e1, e2]
      exact RVL_set hv j hvs
  · rename_i hf
    simp only [Option.some.injEq] at hp
    subst hp
    obtain ⟨he4, hne⟩ := run_find hT (w := w) hk hkv es ents.toList _ hks hf
    refine ⟨_, ?_, h.setMap hl hb hh (ents' := ents.push { key := kv, val := u, born := clock }) (clock' := clock + 1) (MapKept.stamped_push hst hne) ?_ ?_⟩
    · simp only [Instr.mapUpdate, Sem.run_bind, run_underlying hu, Result.andThen_ok, MapKept.run_getObj_map hh, hchk, he4]
      exact MapKept.run_setObj_map _ hh
    · simp [hks, hkv]
    · simp only [List.map_append, List.map_cons, List.map_nil, Array.toList_push]
      exact RVL_app hvs (by simp only [RVL]; exact ⟨u, [], rfl, hv, rfl⟩)
  · simp at hp

theorem owes_mapUpdate (t : TypeId) (m k v : Operand) : Owes P T E (fun o => o.op = .mapUpdate t m k v) := by
  intro R N X w0 w γ s a o κ rr next Q ho h hk hn
  unfold opK at hk
  rw [ho] at hk
  simp only at hk
  split at hk
  · rename_i kt et id kd ht hm hx
    split at hk
    · rename_i hkey
      split at hk
      · rename_i es hl
        split at hk
        · rename_i es' hp
          have hmv := h.get m
          rw [hm] at hmv
          obtain ⟨w', hr, h'⟩ := run_put hT h ht hl hmv hkey (key_val h hx hkey) (nilfix_ok (T := T) et (h.get v)) hp
          exact wp_skip' (by simp [execOp, ho, hr]) (hn γ w' _ _ (h'.put o.dst (v := .d (.v undef)) (u := undef) (by simp only [RV, Rd])) hk)
        · simp at hk
      · simp at hk
    · simp at hk
  · simp at hk
theorem owes_insert (t : TypeId) (m k v : Operand) : Owes P T E (fun o => o.op = .insert t m k v) := by
  intro R N X w0 w γ s a o κ rr next Q ho h hk hn
  unfold opK at hk
  rw [ho] at hk
  simp only at hk
  split at hk
  · rename_i kt et id kd ht hm hx
    split at hk
    · rename_i hkey
      split at hk
      · rename_i es hl
        split at hk
        · rename_i es' hp
          have hmv := h.get m
          rw [hm] at hmv
          obtain ⟨w', hr, h'⟩ := run_put hT h ht hl hmv hkey (key_val h hx hkey) (nilfix_ok (T := T) et (h.get v)) hp
          exact wp_skip' (by simp [execOp, ho, hr]) (hn γ w' _ _ (h'.put o.dst (v := .d (.v undef)) (u := undef) (by simp only [RV, Rd])) hk)
        · simp at hk
      · simp at hk
    · simp at hk
  · simp at hk

omit hT in
theorem map_erase {α β : Type} (f : α → β) : ∀ (l : List α) (i : Nat), (l.eraseIdx i).map f = (l.map f).eraseIdx i
  | [], i => by simp
  | a :: l, 0 => by simp
  | a :: l, i + 1 => by simp [map_erase f l i]
/-- A key is taken out. -/
theorem run_del {N : Mut} {X : Fm} {w0 w : World} {γ : Gam} {s : St} {a : Act} (h : SR T N w0 X γ w s a) {t t' kt et ty : TypeId} (ht : T.td t = .map kt et) {id : Id} {es es' : List (D × AV)} (hl : lookup id s.o = some (.map es)) {m : Value} (hm : RV γ s.o (all γ N s.o) w (.own id) m) {k : D} {kv : Value} (hk : keyOkT T kt k = true) (hkv : keyV k = some kv)
    (hp : delM T kt k es = some es') :
    ∃ w', (Builtin.delete_ #[t, t'] ty #[m, kv]).run P w = .ok (.tuple #[]) w' ∧ SR T N w0 X γ w' { s with o := update id (.map es') s.o } a := by
  obtain ⟨b, ents, clock, hb, hh, hst, hks, hvs, hval⟩ := map_parts h hl
  have hxm := hval _ hm
  subst hxm
  have hchk := run_checkT hT (w := w) hk hkv ents.isEmpty
  have hu := und_map hT ht
  unfold delM at hp
  split at hp
  · rename_i j x hf
    simp only [Option.some.injEq] at hp
    subst hp
    obtain ⟨e, he1, he2, he3, he4⟩ := run_find hT (w := w) hk hkv es ents.toList _ hks hf
    have hlt : j < ents.size := by simpa using (List.getElem?_eq_some_iff.1 he1).1
    have hte : (ents.eraseIdxIfInBounds j).toList = ents.toList.eraseIdx j := by
      simp [Array.eraseIdxIfInBounds, hlt]
    refine ⟨_, ?_, h.setMap hl hb hh (ents' := ents.eraseIdxIfInBounds j) (clock' := clock) (MapKept.stamped_erase hst j) ?_ ?_⟩
    · simp only [Builtin.delete_, Sem.run_bind, run_underlying hu, Result.andThen_ok, MapKept.run_getObj_map hh, hchk, he4, List.getElem?_toArray, List.getElem?_cons_zero, List.getElem?_cons_succ, MapKept.run_setObj_map _ hh, Sem.run_pure]
    · rw [hte, map_erase, map_erase, hks]
    · rw [hte, map_erase, map_erase]
      rw [RVL_iff] at hvs ⊢
      refine ⟨by simp only [List.length_eraseIdx, hvs.1], fun i d u hd hu' => ?_⟩
      rw [List.getElem?_eraseIdx] at hd hu'
      split at hd
      · rename_i hij
        rw [if_pos hij] at hu'
        exact hvs.2 _ _ _ hd hu'
      · rename_i hij
        rw [if_neg hij] at hu'
        exact hvs.2 _ _ _ hd hu'
  · rename_i hf
    simp only [Option.some.injEq] at hp
    subst hp
    obtain ⟨he4, hne⟩ := run_find hT (w := w) hk hkv es ents.toList _ hks hf
    refine ⟨_, ?_, h.setMap hl hb hh (ents' := ents) (clock' := clock) hst hks hvs⟩
    simp only [Builtin.delete_, Sem.run_bind, run_underlying hu, Result.andThen_ok, MapKept.run_getObj_map hh, hchk, he4, List.getElem?_toArray, List.getElem?_cons_zero, List.getElem?_cons_succ, MapKept.run_setObj_map _ hh, Sem.run_pure]
  · simp at hp

theorem owes_makeSlice (t : TypeId) (l c : Operand) : Owes P T E (fun o => o.op = .makeSlice t l c) := by
  intro R N X w0 w γ s a o κ rr next Q ho h hk hn
  unfold opK at hk
  rw [ho] at hk
  simp only at hk
  split at hk
  · rename_i e d q1 l' q2 c' ht hd hl hc
    split at hk
    · rename_i hcond
      obtain ⟨h0, hlc, hlim, hok, hsz0, hag⟩ := hcond
      have hlv := h.get l
      have hcv := h.get c
      rw [hl] at hlv
      rw [hc] at hcv
      simp only [RV, Rd] at hlv hcv
      have hu := (by have := hT.td t; unfold tdOk at this; rw [ht] at this; exact this.1 : P.underlying t = some (.slice e))
      obtain ⟨i, z, hi, hsz, hby, hz, hzl, hzn, hza, hzs⟩ := hT.info e (td_ok hok)
      have hlim' : lim = 4294967296 := rfl
      have hrun := run_make (P := P) w t e i z hu hi hz q1 q2 l' c' h0 hlc (by
        have := Int.mul_le_mul (Int.ofNat_le.2 hby) (show c' ≤ 4294967296 by omega) (by omega) (by omega)
        omega) (by omega)
      -- the cells, elementwise
      have hzcells : z.cells.size = T.sz e := by
        have := RdL_length (zeroL_rd (fun _ _ => False) w _ _ hzl).1
        simp only [Array.length_toList] at this
        rw [this, hzn]
      have hmade : (madeCells z.cells (c'.toNat * i.size)).toList = (List.replicate c'.toNat z.cells.toList).flatten := by
        rw [hsz]
        unfold madeCells
        rw [Array.toList_map, Array.toList_range]
        have hpos : 0 < T.sz e := Nat.pos_of_ne_zero hsz0
        generalize c'.toNat = n
        induction n with
        | zero => simp
        | succ n ih =>
          rw [Nat.succ_mul, List.range_add, List.map_append, ih, List.replicate_succ', List.flatten_append]
          congr 1
          simp only [List.map_map, List.flatten_cons, List.flatten_nil, List.append_nil]
          apply List.ext_getElem?
          intro j
          simp only [List.getElem?_map, Function.comp_def]
          by_cases hj : j < T.sz e
          · rw [List.getElem?_range hj]
            simp only [Option.map_some]
            rw [hzcells, Nat.mul_comm, Nat.mul_add_mod, Nat.mod_eq_of_lt hj]
            rw [Array.getElem?_toList, Array.getElem!_eq_getD, Array.getD_eq_getD_getElem?, Array.getElem?_eq_getElem (by omega)]
            rfl
          · rw [List.getElem?_eq_none (by simpa using hj), List.getElem?_eq_none (by simp [hzcells]; omega)]
            rfl
      have hcs : ((List.replicate c'.toNat z.cells.toList).flatten).length = c'.toNat * T.sz e := by
        rw [flat_len (T.sz e) _ (fun x hx => by
          rw [List.eq_of_mem_replicate hx]
          simpa using hzcells), List.length_replicate]
      have hsplit : (List.replicate c'.toNat z.cells.toList).flatten = (List.replicate l'.toNat z.cells.toList).flatten ++ (List.replicate (c'.toNat - l'.toNat) z.cells.toList).flatten := by
        rw [← List.flatten_append, List.replicate_append_replicate]
        congr 2
        omega
      have harr : madeCells z.cells (c'.toNat * i.size) = (List.replicate c'.toNat z.cells.toList).flatten.toArray := by
        apply Array.toList_inj.1
        rw [hmade]
      have hr := zeroL_rd (all γ N s.o) w _ _ hzl
      split at hk
      · -- may be written
        obtain ⟨γ', h'⟩ := h.newArr d (T.td e).agg (T.sz e) (List.replicate l'.toNat ((T.zero e).map .d)) (List.replicate l'.toNat z.cells.toList).flatten (List.replicate (c'.toNat - l'.toNat) z.cells.toList).flatten c'.toNat e (by rw [List.length_replicate]; omega) (by rw [← hsplit, hcs])
          (fun x hx => by rw [List.eq_of_mem_replicate hx, List.length_map, hzn]) (by
            generalize l'.toNat = n
            induction n with
            | zero => simp [RVL]
            | succ n ih =>
              simp only [List.replicate_succ, List.flatten_cons]
              exact RVL_app (RVL_data.2 hr.1) ih)
        rw [List.length_replicate] at h'
        refine wp_val (v := .slice (some ⟨w.heap.size, 0, none⟩) l'.toNat c'.toNat) (w' := w.alloc (.cells (madeCells z.cells (c'.toNat * i.size)) e)) (by simp [execOp, ho, hlv, hcv, hrun]) (hn γ' _ _ _ ?_ hk)
        rw [hd, harr, hsplit]
        exact h'
      · rename_i hwr
        have hxs : ∀ x ∈ List.replicate l'.toNat (valD (T.td e).agg (T.zero e)), x.cells.length = T.sz e := fun x hx => by
          rw [List.eq_of_mem_replicate hx]
          unfold valD
          split
          · simpa [D.cells] using hzn
          · rename_i ha
            rw [hag.resolve_left (by simpa using ha)] at hzn ⊢
            match hze : T.zero e, hzn with
            | [x], _ =>
              have hc1 := hr.2 x (by rw [hze]; simp)
              cases x <;> simp [D.cells, D.cell] at hc1 ⊢
        have hcell1 : ∀ x : D, x.cell = true → x.cells = [x] := fun x hx => by
          cases x <;> simp [D.cells, D.cell] at hx ⊢
        have hval : (valD (T.td e).agg (T.zero e)).cells = T.zero e := by
          unfold valD
          split
          · rfl
          · rename_i ha
            rw [hag.resolve_left (by simpa using ha)] at hzn
            match hze : T.zero e, hzn with
            | [x], _ =>
              have hc1 := hr.2 x (by rw [hze]; simp)
              simp only [List.headD_cons]
              exact hcell1 x hc1
        have hflat : ∀ n : Nat, flat (List.replicate n (valD (T.td e).agg (T.zero e))) = (List.replicate n (T.zero e)).flatten := by
          intro n
          induction n with
          | zero => rfl
          | succ n ih =>
            simp only [flat] at ih
            simp only [List.replicate_succ, flat, List.flatMap_cons, List.flatten_cons, hval, ih]
        obtain ⟨γ', h'⟩ := h.newTok d (T.sz e) (List.replicate l'.toNat (valD (T.td e).agg (T.zero e))) (List.replicate c'.toNat z.cells.toList).flatten c'.toNat e (by rw [List.length_replicate]; omega) (by rw [hcs]) hxs (fun x hx => by
            rw [hflat] at hx
            obtain ⟨l, hl1, hl2⟩ := List.mem_flatten.1 hx
            rw [List.eq_of_mem_replicate hl1] at hl2
            exact hr.2 x hl2) (List.replicate (c'.toNat - l'.toNat) z.cells.toList).flatten ⟨(List.replicate l'.toNat z.cells.toList).flatten, hsplit, by
            rw [hflat]
            generalize l'.toNat = n
            induction n with
            | zero => simp [RdL]
            | succ n ih =>
              simp only [List.replicate_succ, List.flatten_cons]
              exact RdL_append hr.1 ih⟩
        rw [List.length_replicate] at h'
        refine wp_val (v := .slice (some ⟨w.heap.size, 0, none⟩) l'.toNat c'.toNat) (w' := w.alloc (.cells (madeCells z.cells (c'.toNat * i.size)) e)) (by simp [execOp, ho, hlv, hcv, hrun]) (hn γ' _ _ _ ?_ hk)
        rw [hd, harr]
        exact h'
    · simp at hk
  · simp at hk
end
end Go.Ab

namespace Go.Ab

theorem run_mapM_list {P : Program} {α β : Type} (f : α → Sem β) (g : α → β) (w : World) : ∀ xs : List α, (∀ a ∈ xs, (f a).run P w = .ok (g a) w) → (xs.mapM f).run P w = .ok (xs.map g) w
  | [], _ => by simp
  | x :: xs, h => by
    have ih := run_mapM_list f g w xs fun a ha => h a (by simp [ha])
    rw [List.mapM_cons]
    simp only [Sem.run_bind, h x (by simp), Result.andThen_ok, ih, Sem.run_pure, List.map_cons]
theorem run_mapM {P : Program} {α β : Type} (f : α → Sem β) (g : α → β) (w : World) (xs : Array α) (h : ∀ a ∈ xs.toList, (f a).run P w = .ok (g a) w) : (xs.mapM f).run P w = .ok (xs.map g) w := by
  rw [Array.mapM_eq_mapM_toList]
  simp only [Sem.run_map, run_mapM_list f g w xs.toList h, Result.andThen_ok]
  congr 1
  apply Array.toList_inj.1
  simp

theorem RVL_set' {γ : Gam} {o : Obs} {M : Mut} {w : World} : ∀ {vs : List AV} {us : List Value} {cs : List AV} {arr : List Value} (off : Nat), RVL γ o M w vs us → RVL γ o M w cs arr → RVL γ o M w (setCells cs off vs) ((us.zipIdx).foldl (fun a p => a.set (off + p.2) p.1) arr) := by
  intro vs us cs arr off hv hc
  have key : ∀ (vs : List AV) (us : List Value) (cs : List AV) (arr : List Value) (k : Nat), RVL γ o M w vs us → RVL γ o M w cs arr → RVL γ o M w (setCells cs (off + k) vs) ((us.zipIdx k).foldl (fun a p => a.set (off + p.2) p.1) arr) := by
    intro vs
    induction vs with
    | nil =>
      intro us cs arr k hv hc
      simp only [RVL] at hv
      subst hv
      simpa [setCells] using hc
    | cons v vs ih =>
      intro us cs arr k hv hc
      simp only [RVL] at hv
      obtain ⟨u, us', rfl, h1, h2⟩ := hv
      simp only [setCells, List.zipIdx_cons, List.foldl_cons]
      exact ih us' _ _ (k + 1) h2 (RVL_set h1 (off + k) hc)
  simpa using key vs us cs arr 0 hv hc

theorem foldl_set_array (us : Array Value) (off : Nat) (arr : Array Value) : (us.zipIdx.foldl (fun cs (c, j) => cs.setIfInBounds (off + j) c) arr).toList = (us.toList.zipIdx).foldl (fun a p => a.set (off + p.2) p.1) arr.toList := by
  rw [← Array.foldl_toList, Array.toList_zipIdx]
  generalize us.toList.zipIdx = l
  induction l generalizing arr with
  | nil => rfl
  | cons p l ih =>
    simp only [List.foldl_cons]
    rw [ih]
    simp

theorem foldl_set_list : ∀ (us l : List Value) (off k : Nat), off + k + us.length ≤ l.length → (us.zipIdx k).foldl (fun a p => a.set (off + p.2) p.1) l = l.take (off + k) ++ us ++ l.drop (off + k + us.length)
  | [], l, off, k, h => by simp
  | u :: us, l, off, k, h => by
    simp only [List.length_cons] at h
    simp only [List.zipIdx_cons, List.foldl_cons]
    rw [foldl_set_list us (l.set (off + k) u) off (k + 1) (by simp; omega)]
    have h1 : (l.set (off + k) u).take (off + (k + 1)) = l.take (off + k) ++ [u] := by
      rw [show off + (k + 1) = off + k + 1 from by omega, List.take_succ_eq_append_getElem (by simp; omega)]
      simp [List.take_set_of_le]
    have h2 : (l.set (off + k) u).drop (off + (k + 1) + us.length) = l.drop (off + k + (us.length + 1)) := by
      rw [List.drop_set_of_lt (by omega)]
      congr 1
      omega
    rw [h1, h2]
    simp

theorem fill_range (n : Nat) : ∀ (vs : List Value) (k : Nat) (arr : Array Value), arr.size = (k + vs.length) * n → (∀ v ∈ vs, v.cells.size = n) →
    ∃ arr', Instr.fill (fun i => some (i * n, n)) arr ((vs.zipIdx k).map fun p => (p.2, p.1)) = some arr' ∧ arr'.toList = arr.toList.take (k * n) ++ vs.flatMap (·.cells.toList)
  | [], k, arr, h, _ => by
    refine ⟨arr, rfl, ?_⟩
    simp only [List.length_nil, Nat.add_zero] at h
    rw [List.take_of_length_le (by simp; omega)]
    simp
  | v :: vs, k, arr, h, hv => by
    have hvn := hv v (by simp)
    simp only [List.length_cons] at h
    have hle : k * n + n ≤ arr.size := by
      rw [h, Nat.add_mul, Nat.add_mul]
      omega
    obtain ⟨arr', e, h'⟩ := fill_range n vs (k + 1) (v.cells.zipIdx.foldl (fun cs (c, j) => cs.setIfInBounds (k * n + j) c) arr) (by
      have : (v.cells.zipIdx.foldl (fun cs (c, j) => cs.setIfInBounds (k * n + j) c) arr).toList.length = arr.toList.length := by
        rw [foldl_set_array]
        have := foldl_set_list v.cells.toList arr.toList (k * n) 0 (by simp; omega)
        rw [this]
        simp
        omega
      have h3 : (v.cells.zipIdx.foldl (fun cs (c, j) => cs.setIfInBounds (k * n + j) c) arr).size = arr.size := by simpa only [Array.length_toList] using this
      rw [h3, h, show k + 1 + vs.length = k + (vs.length + 1) from by omega]) fun u hu => hv u (by simp [hu])
    refine ⟨arr', ?_, ?_⟩
    · simp only [List.zipIdx_cons, List.map_cons, Instr.fill]
      rw [if_neg]
      · exact e
      · simp only [Bool.or_eq_true, decide_eq_true_eq, not_or]
        exact ⟨by simp [hvn], by omega⟩
    · rw [h', foldl_set_array]
      have := foldl_set_list v.cells.toList arr.toList (k * n) 0 (by simp; omega)
      rw [this]
      simp only [Nat.add_zero, List.flatMap_cons]
      rw [show (k + 1) * n = k * n + v.cells.toList.length from by simp [hvn, Nat.add_mul]]
      have hl : (arr.toList.take (k * n)).length = k * n := by simp; omega
      rw [List.append_assoc, List.take_append, hl, List.take_of_length_le (by omega), Nat.add_sub_cancel_left, List.take_append, List.take_of_length_le (Nat.le_refl _), Nat.sub_self]
      simp

theorem D_cells {M : Mut} {w : World} {x : D} {u : Value} (h : Rd M w x u) (hc : x.cells.all D.cell = true) : RdL M w x.cells u.cells.toList := by
  have one : x.cells = [x] → RdL M w x.cells u.cells.toList := by
    intro e
    rw [e] at hc ⊢
    simp only [List.all_cons, List.all_nil, Bool.and_true] at hc
    have h1 : u.oneCell' = true := cell_one (γ := fun _ => ⟨none, 0, .slice none 0 0, 0⟩) (o := []) (M := M) (w := w) (v := .d x) (fun k n xs hl => by simp [lookup] at hl) (by simpa only [RV] using h) hc
    have : u.cells = #[u] := by cases u <;> simp_all [Value.oneCell', Value.cells]
    rw [this]
    simp only [RdL]
    exact ⟨u, [], rfl, h, rfl⟩
  cases x with
  | st cs =>
    simp only [Rd] at h
    obtain ⟨us, rfl, h⟩ := h
    simpa [D.cells, Value.cells] using h
  | v y => exact one rfl
  | s l => exact one rfl
  | sl n xs => exact one rfl
  | ptr cs => exact one rfl
  | ifc t y => exact one rfl
  | fn f as bs => exact one rfl
  | «at» p o => exact one rfl
  | wh y b o => exact one rfl

theorem flat_vals {M : Mut} {w : World} : ∀ {xs : List D} {us : List Value}, RdL M w xs us → (∀ x ∈ xs, x.cells.all D.cell = true) → RdL M w (flat xs) (us.flatMap (·.cells.toList))
  | [], us, h, _ => by
    simp only [RdL] at h
    subst h
    simp [flat, RdL]
  | x :: xs, us, h, hc => by
    simp only [RdL] at h
    obtain ⟨u, us', rfl, h1, h2⟩ := h
    simp only [flat, List.flatMap_cons]
    exact RdL_append (D_cells h1 (hc x (by simp))) (flat_vals h2 fun y hy => hc y (by simp [hy]))

section
variable {P : Program} {T : Ctx} (hT : TOk P T) (E : Abs)
theorem fill_ok {N : Mut} {X : Fm} {w0 w : World} {γ : Gam} {s : St} {a : Act} (h : SR T N w0 X γ w s a) {fs : List (TypeId × Nat)} (place : Nat → Option (Nat × Nat)) (hplace : ∀ (i : Nat) (ft : TypeId) (off : Nat), fs[i]? = some (ft, off) → place i = some (off, T.sz ft)) :
    ∀ (parts : List (Nat × Operand)) (cs cs' : List AV) (arr : Array Value), RVL γ s.o (all γ N s.o) w cs arr.toList → opK.buildK T s fs parts cs = some cs' →
      ∃ arr', Instr.fill place arr (parts.map fun p => (p.1, a.eval p.2)) = some arr' ∧ RVL γ s.o (all γ N s.o) w cs' arr'.toList
  | [], cs, cs', arr, hc, hb => by
    simp only [opK.buildK, Option.some.injEq] at hb
    subst hb
    exact ⟨arr, rfl, hc⟩
  | (i, x) :: r, cs, cs', arr, hc, hb => by
    simp only [opK.buildK] at hb
    split at hb
    · rename_i ft off hi
      split at hb
      · rename_i vs hvs
        split at hb
        · rename_i hfit
          obtain ⟨h1, _⟩ := cells_ok h.owns (nilfix_ok (T := T) ft (h.get x)) hvs
          have hl1 := RVL_length h1
          have hl2 := RVL_length hc
          obtain ⟨arr', e, h'⟩ := fill_ok h place hplace r _ cs' ((a.eval x).cells.zipIdx.foldl (fun cs (c, j) => cs.setIfInBounds (off + j) c) arr) (by
            rw [foldl_set_array]
            exact RVL_set' off h1 hc) hb
          refine ⟨arr', ?_, h'⟩
          simp only [List.map_cons, Instr.fill, hplace i ft off hi]
          rw [if_neg]
          · exact e
          · simp at hl1 hl2
            simp only [Bool.or_eq_true, decide_eq_true_eq, not_or]
            constructor
            · rw [hl1, hfit.1]; simp
            · rw [hl1, hl2]; omega
        · simp at hb
      · simp at hb
    · simp at hb

include hT

theorem owes_build (t : TypeId) (parts : Array (Nat × Operand)) : Owes P T E (fun o => o.op = .build t parts) := by
  intro R N X w0 w γ s a o κ r next Q ho h hk hn
  unfold opK at hk
  rw [ho] at hk
  simp only at hk
  split at hk
  · rename_i fs ht
    obtain ⟨fa, hu, hf⟩ := run_fields hT ht w
    split at hk
    · rename_i cs hcs
      obtain ⟨z, hz, hzl, hzn, hza, hzs⟩ := run_zero hT w (t := t) (by rw [ht]; simp)
      have hfall : ∀ f ∈ fa.toList, T.td f.type ≠ .other := by
        intro f hfm
        obtain ⟨i, hi⟩ := List.getElem?_of_mem hfm
        have := hT.td t
        unfold tdOk at this
        rw [ht] at this
        obtain ⟨fa', ha', e', hff⟩ := this
        rw [hu] at ha'
        injection ha' with ha'
        injection ha' with ha'
        subst ha'
        exact (hff (f.type, f.offset) (by rw [← e']; exact List.mem_map.2 ⟨f, hfm, rfl⟩)).1
      have hplaces : (fa.mapM fun f => (do pure (f.offset, ← sizeOf f.type) : Sem (Nat × Nat))).run P w = .ok (fa.map fun f => (f.offset, T.sz f.type)) w := by
        refine run_mapM _ _ w fa fun f hfm => ?_
        simp only [Sem.run_bind, run_size hT w (hfall f hfm), Result.andThen_ok, Sem.run_pure]
      obtain ⟨arr', e, h'⟩ := fill_ok h ((fa.map fun f => (f.offset, T.sz f.type))[·]?) (fun i ft off hi => by
        obtain ⟨f, hfi, h1, h2, _⟩ := hf i ft off hi
        simp [hfi, h1, h2]) parts.toList _ cs z.cells (zA_rv _ _ hzl) hcs
      refine wp_val (v := .agg arr') (w' := w) ?_ (hn γ w _ _ (h.put o.dst ?_) hk)
      · simp only [execOp, ho, Instr.build, Sem.run_bind, hz, Result.andThen_ok, run_underlying hu, hplaces, Array.toList_map]
        have : (List.map (fun (x : Nat × Operand) => match x with | (i, x) => (i, a.eval x)) parts.toList) = parts.toList.map fun p => (p.1, a.eval p.2) := rfl
        rw [this, e]
        rfl
      · simp only [RV]
        exact ⟨arr'.toList, by simp, h'⟩
    · simp at hk
  · simp at hk


omit hT in
theorem flat_avs : ∀ xs : List D, (xs.map fun x => x.cells.map AV.d).flatten = (flat xs).map .d
  | [] => rfl
  | x :: xs => by
    have := flat_avs xs
    simp only [List.map_cons, List.flatten_cons, this, flat, List.flatMap_cons, List.map_append]
theorem owes_buildSlice (t : TypeId) (len : Nat) (parts : Array (Nat × Operand)) : Owes P T E (fun o => o.op = .buildSlice t len parts) := by
  intro R N X w0 w γ s a o κ r next Q ho h hk hn
  unfold opK at hk
  rw [ho] at hk
  simp only at hk
  split at hk
  · rename_i e ht
    obtain ⟨hu, hto⟩ := und_slice hT ht
    split at hk
    · rename_i xs hxs
      split at hk
      · rename_i hfit
        have hvs : RVL γ s.o (all γ N s.o) w (parts.toList.map fun p => nilfix T e (s.get T p.2)) (parts.toList.map fun p => a.eval p.2) := by
          generalize parts.toList = l
          induction l with
          | nil => simp [RVL]
          | cons p l ih =>
            simp only [List.map_cons, RVL]
            exact ⟨_, _, rfl, nilfix_ok (T := T) e (h.get p.2), ih⟩
        have hrd := datas_ok h.inv _ _ _ hvs hxs
        have hlen : parts.toList.length = len := by
          have := congrArg List.length hfit.1
          simpa using this
        have hxl : xs.length = len := by
          have := RdL_length hrd
          simp at this hlen
          omega
        obtain ⟨z, hz, hzl, hzn, hza, hzs⟩ := run_zero hT w hto
        have hparts : (parts.map fun (i, x) => (i, a.eval x)).toList = ((parts.toList.map fun p => a.eval p.2).zipIdx 0).map fun p => (p.2, p.1) := by
          have hi : parts.toList.map (·.1) = List.range parts.toList.length := by rw [hfit.1, hlen]
          simp only [Array.toList_map]
          apply List.ext_getElem?
          intro j
          simp only [List.getElem?_map, List.getElem?_zipIdx]
          cases hj : parts.toList[j]? with
          | none => simp
          | some p =>
            have h1 : (parts.toList.map (·.1))[j]? = some p.1 := by simp [List.getElem?_map, hj]
            rw [hi, List.getElem?_range (by exact (List.getElem?_eq_some_iff.1 hj).1)] at h1
            simp at h1
            simp [h1]
        obtain ⟨c, hc⟩ : ∃ c : Array Value, c = if len * T.sz e = 0 then #[] else z.cells := ⟨_, rfl⟩
        have main : (∀ x ∈ xs, x.cells.length = T.sz e) → (∀ x ∈ xs, x.cells.all D.cell = true) → ∃ arr' : Array Value, (execOp a.eval o).run P w = .ok (.value (.slice (some ⟨w.heap.size, 0, none⟩) len len)) (w.alloc (.cells arr' e)) ∧ RdL (all γ N s.o) w (flat xs) arr'.toList ∧ arr'.size = len * T.sz e := by
          intro hn1 hn2
          have hfl := flat_vals hrd hn2
          have hcs : ∀ v ∈ (parts.toList.map fun p => a.eval p.2), v.cells.size = T.sz e := by
            intro v hv
            obtain ⟨i, hi⟩ := List.getElem?_of_mem hv
            have hlt : i < xs.length := by
              have := (List.getElem?_eq_some_iff.1 hi).1
              rw [RdL_length hrd] at this
              exact this
            have hxi := List.getElem?_eq_getElem hlt
            obtain ⟨u, hu', hr⟩ := RdL_get hrd hxi
            rw [hi] at hu'
            injection hu' with hu'
            subst hu'
            have := RdL_length (D_cells hr (hn2 _ (List.getElem_mem hlt)))
            rw [hn1 _ (List.getElem_mem hlt)] at this
            simpa using this
          obtain ⟨arr', he, harr⟩ := fill_range (T.sz e) (parts.toList.map fun p => a.eval p.2) 0 ((Array.range (len * T.sz e)).map (c[· % c.size]!)) (by simp at hlen ⊢; rw [hlen]) hcs
          simp only [Nat.zero_mul, List.take_zero, List.nil_append] at harr
          refine ⟨arr', ?_, by rw [harr]; exact hfl, ?_⟩
          · simp only [execOp, ho, Instr.buildSlice, Sem.run_bind, run_underlying hu, Result.andThen_ok, run_size hT w hto, Sem.run_ite]
            rw [if_neg (by omega)]
            by_cases h0 : len * T.sz e = 0
            · rw [if_pos h0] at hc ⊢
              subst hc
              simp only [Result.andThen_ok, hparts, he, newRow, Sem.run_bind, run_newObj, Sem.run_pure]
              rfl
            · rw [if_neg h0] at hc ⊢
              subst hc
              simp only [Result.andThen_ok, hz, hparts, he, newRow, Sem.run_bind, run_newObj, Sem.run_pure]
              rfl
          · have := RdL_length hfl
            rw [flat_length _ xs hn1, ← harr, hxl] at this
            simpa using this
        split at hk
        · rename_i d hd
          have hx0 : xs = [] := List.eq_nil_of_length_eq_zero hxl
          subst hx0
          obtain ⟨arr', hrun, hfl, hsz⟩ := main (by simp) (by simp)
          have ha0 : arr'.toList = [] := by
            apply List.eq_nil_of_length_eq_zero
            simpa using hsz
          obtain ⟨γ', h'⟩ := h.newTok d (T.sz e) [] arr'.toList 0 e (Nat.le_refl _) (by rw [ha0]; simp) (by simp) (by simp [flat]) [] ⟨[], by rw [ha0]; rfl, by simp [flat, RdL]⟩
          refine wp_val hrun (hn γ' _ _ _ ?_ hk)
          rw [hd]
          simpa using h'
        · split at hk
          · rename_i hall
            have hall' : ∀ x ∈ xs, x.cells.length = T.sz e ∧ x.cells.all D.cell = true := by
              intro x hx
              have := List.all_eq_true.1 hall x hx
              simpa using this
            obtain ⟨arr', hrun, hfl, hsz⟩ := main (fun x hx => (hall' x hx).1) (fun x hx => (hall' x hx).2)
            split at hk
            · rename_i d hb
              have hd : o.dst = some d := by
                unfold bldW at hb
                split at hb
                · rename_i d' hd'
                  split at hb
                  · cases hb; exact hd'
                  · simp at hb
                · simp at hb
              have hflat : (xs.map fun x => x.cells.map AV.d).flatten = (flat xs).map .d := flat_avs xs
              obtain ⟨γ', h'⟩ := h.newArr d (T.td e).agg (T.sz e) (xs.map fun x => x.cells.map .d) arr'.toList [] xs.length e (by rw [List.length_map]; omega) (by simp [hsz, hxl]) (fun y hy => by
                obtain ⟨x, hx, rfl⟩ := List.mem_map.1 hy
                rw [List.length_map]
                exact (hall' x hx).1) (by rw [hflat]; exact RVL_data.2 hfl)
              refine wp_val hrun (hn γ' _ _ _ ?_ hk)
              rw [hd]
              simpa [hxl] using h'
            have hw := h.world (Chg.alloc w (.cells arr' e))
            have hk' : Keep (all γ N s.o) (all γ N s.o) w (w.alloc (.cells arr' e)) := (Chg.alloc w _).keep (fun _ _ hf => hf.elim) fun _ _ _ hm => hm
            refine wp_val hrun (hn γ _ _ _ (hw.put o.dst ?_) hk)
            simp only [RV, Rd]
            refine ⟨⟨_, _, _, rfl, hxl, Nat.le_refl _, fun hf => by simp at hf, fun p hp => ?_⟩, _, _, rfl⟩
            injection hp with hp
            subst hp
            refine (RdE_flat ..).2 ⟨fun x hx => (hall' x hx).1, ?_⟩
            refine RdC_of _ _ (heap_alloc w _) (fun j => ?_) (flat xs) arr'.toList 0 ?_ ?_ fun i u hi => by simpa using hi
            · rintro (hm | ⟨p, hp, hpb, _⟩)
              · exact Nat.lt_irrefl _ (h.inv.old _ _ hm)
              · exact Nat.lt_irrefl _ (own_lt h.inv hp hpb)
            · exact RdL.keep hk' _ _ hfl
            · intro d hd
              obtain ⟨x, hx, hdx⟩ := List.mem_flatMap.1 hd
              have := (hall' x hx).2
              rw [List.all_eq_true] at this
              exact this d hdx
          · simp at hk
      · simp at hk
    · simp at hk
  · simp at hk

end
end Go.Ab

namespace Go.Ab

theorem flat_rdc {M : Mut} {w : World} {n : Nat} {xs : List D} {p : Addr} (h : RdE M w n xs p 0) : (∀ x ∈ xs, x.cells.length = n) ∧ (∀ d ∈ flat xs, d.cell = true) ∧ ∃ us : List Value, RdL M w (flat xs) us ∧ us.length = xs.length * n ∧ ∀ j u, us[j]? = some u → w.cell? (p.add j) = some u := by
  obtain ⟨h1, h2⟩ := (RdE_flat ..).1 h
  obtain ⟨us, h3, h4, h5⟩ := RdC_vals _ _ _ _ _ h2
  exact ⟨h1, RdC_cell _ _ _ _ _ h2, us, h3, by rw [h4, flat_length n xs h1], fun j u hu => by simpa using h5 j u hu⟩

theorem RdL_one {M : Mut} {w : World} : ∀ {ds : List D} {us : List Value}, RdL M w ds us → (∀ d ∈ ds, d.cell = true) → ∀ u ∈ us, u.oneCell' = true
  | [], us, h, _, u, hu => by
    simp only [RdL] at h
    subst h
    simp at hu
  | d :: ds, us, h, hc, u, hu => by
    simp only [RdL] at h
    obtain ⟨v, us', rfl, h1, h2⟩ := h
    rcases List.mem_cons.1 hu with rfl | hu
    · exact cell_one (γ := fun _ => ⟨none, 0, .slice none 0 0, 0⟩) (o := []) (M := M) (w := w) (v := .d d) (fun k n xs hl => by simp [lookup] at hl) (by simpa only [RV] using h1) (hc d (by simp))
    · exact RdL_one h2 (fun e he => hc e (by simp [he])) u hu

/-- a slice's cells, loaded -/
theorem run_first {P : Program} {M : Mut} {w : World} {n : Nat} {xs : List D} {u : Value} (h : Rd M w (.sl n xs) u) :
    (Builtin.lenOf u).run P w = .ok xs.length w ∧ ∃ us : List Value, (Builtin.firstCells n xs.length u).run P w = .ok us.toArray w ∧ RdL M w (flat xs) us ∧ (∀ x ∈ xs, x.cells.length = n) ∧ (∀ d ∈ flat xs, d.cell = true) ∧ us.length = xs.length * n := by
  simp only [Rd] at h
  obtain ⟨a, len, cap, rfl, rfl, h1, h2, h3⟩ := h
  refine ⟨rfl, ?_⟩
  cases a with
  | none =>
    have := h2 rfl
    have hx : xs = [] := List.eq_nil_of_length_eq_zero (by omega)
    subst hx
    exact ⟨[], rfl, by simp [flat, RdL], by simp, by simp [flat], by simp⟩
  | some p =>
    obtain ⟨h4, h5, us, h6, h7, h8⟩ := flat_rdc (h3 p rfl)
    refine ⟨us, ?_, h6, h4, h5, h7⟩
    simp only [Builtin.firstCells]
    rw [← h7]
    exact run_loadCells_list w p us h8

theorem slicecap2 (need old : Nat) (h : old < need) : Builtin.nextslicecap need old ≤ need + need / 4 + 704 := by
  unfold Builtin.nextslicecap
  split
  · omega
  · split
    · omega
    · simp only [Builtin.growBy]
      repeat' split
      all_goals omega
theorem slicecap (need old : Nat) (h : old < need) (hn : need ≤ lim) : Builtin.nextslicecap need old ≤ 8589934592 + 8589934592 := by
  have := slicecap2 need old h
  unfold lim at hn
  omega
/-- A slice's room is within growslice's bound. -/
theorem room_ok {need old bytes : Nat} (h : old < need) (hb : bytes ≤ 4096) (hn : need ≤ lim ∨ bytes ≤ 64 ∧ need ≤ lim2) : Builtin.nextslicecap need old * bytes ≤ 2 ^ 48 := by
  have h1 := slicecap2 need old h
  rcases hn with hn | ⟨h2, hn⟩
  · unfold lim at hn
    have h3 : Builtin.nextslicecap need old ≤ 8589934592 := by omega
    have := Nat.mul_le_mul h3 hb
    omega
  · unfold lim2 at hn
    have h3 : Builtin.nextslicecap need old ≤ 4398046511104 := by omega
    have := Nat.mul_le_mul h3 h2
    omega

theorem src_sl {P : Program} {M : Mut} {w : World} {n : Nat} {ys : List D} {u : Value} {t' e' : TypeId} (hu : P.underlying t' = some (.slice e')) (h : Rd M w (.sl n ys) u) :
    ∃ us : List Value, Src P n t' u ys.length us w ∧ RdL M w (flat ys) us ∧ (∀ y ∈ ys, y.cells.length = n) ∧ (∀ d ∈ flat ys, d.cell = true) := by
  obtain ⟨hl, us, h1, h2, h3, h4, h5⟩ := run_first (P := P) h
  obtain ⟨_, us', h1', h2', _⟩ := run_first (P := P) (Rd.keep ((Chg.drew w).keep (M := M) (M' := M) (fun _ _ hf => hf.elim) fun _ _ _ hm => hm) _ _ h)
  have hlen : ∀ w' : World, (Builtin.lenOf u).run P w' = .ok ys.length w' := by
    intro w'
    simp only [Rd] at h
    obtain ⟨a, len, cap, rfl, rfl, _⟩ := h
    rfl
  have heq : (Builtin.firstCells n ys.length u).run P w.drew = .ok us.toArray w.drew := by
    simp only [Rd] at h
    obtain ⟨a, len, cap, rfl, rfl, h6, h7, h8⟩ := h
    cases a with
    | none =>
      simp only [Builtin.firstCells, Sem.run_pure] at h1 ⊢
      injection h1 with h1
      rw [h1]
    | some p =>
      have h9 := flat_rdc (h8 p rfl)
      obtain ⟨_, _, vs, h10, h11, h12⟩ := h9
      have e1 : (Builtin.firstCells n ys.length (.slice (some p) ys.length cap)).run P w = .ok vs.toArray w := by
        simp only [Builtin.firstCells]
        rw [← h11]
        exact run_loadCells_list w p vs h12
      have e2 : (Builtin.firstCells n ys.length (.slice (some p) ys.length cap)).run P w.drew = .ok vs.toArray w.drew := by
        simp only [Builtin.firstCells]
        rw [← h11]
        exact run_loadCells_list w.drew p vs h12
      rw [h1] at e1
      injection e1 with e1
      rw [e2, e1]
  exact ⟨us, ⟨.inl ⟨e', hu⟩, hlen, h1, heq, h5, RdL_one h2 h4⟩, h2, h3, h4⟩

theorem encB_rd (M : Mut) (w : World) : ∀ l : List UInt8, RdL M w (flat (l.map encB)) (l.map fun b => Value.int .u8 b.toNat) ∧ (∀ y ∈ l.map encB, y.cells.length = 1) ∧ (∀ d ∈ flat (l.map encB), d.cell = true)
  | [] => by simp [flat, RdL]
  | b :: l => by
    obtain ⟨h1, h2, h3⟩ := encB_rd M w l
    refine ⟨?_, ?_, ?_⟩
    · simp only [List.map_cons, flat, List.flatMap_cons, encB, D.cells, List.cons_append, List.nil_append, RdL, Rd]
      exact ⟨_, _, rfl, rfl, h1⟩
    · intro y hy
      simp only [List.map_cons, List.mem_cons] at hy
      rcases hy with rfl | hy
      · rfl
      · exact h2 y hy
    · intro d hd
      simp only [List.map_cons, flat, List.flatMap_cons, List.mem_append] at hd
      rcases hd with hd | hd
      · simp only [encB, D.cells, List.mem_cons, List.not_mem_nil, or_false] at hd
        subst hd
        rfl
      · exact h3 d hd

theorem src_s {P : Program} {w : World} {l : List UInt8} {t' : TypeId} (hu : P.underlying t' = some .string) :
    Src P 1 t' (.string ⟨l.toArray⟩) (l.map encB).length (l.map fun b => Value.int .u8 b.toNat) w := by
  have := Src.ofString (P := P) w hu ⟨l.toArray⟩
  have e1 : byteCells ⟨l.toArray⟩ = l.map fun b => Value.int .u8 b.toNat := by simp [byteCells]
  have e2 : (⟨l.toArray⟩ : ByteArray).size = (l.map encB).length := by simp [ByteArray.size]
  rw [e1, e2] at this
  exact this

section
variable {P : Program} {T : Ctx} (hT : TOk P T) (E : Abs)
include hT

/-- append to a slice of the frame's own. -/
theorem run_append {N : Mut} {X : Fm} {w0 w : World} {γ : Gam} {s : St} {a : Act} (h : SR T N w0 X γ w s a) {t t' e : TypeId} {k : Id} {n : Nat} {xs ys : List D} {y : Value} {us : List Value} (ht : T.td t = .slice e) (hl : lookup k s.o = some (.tok n xs)) (hne : n = T.sz e) (hle : xs.length + ys.length ≤ lim ∨ T.small e = true ∧ xs.length + ys.length ≤ lim2)
    (hs : Src P n t' y ys.length us w) (hus : RdL (all γ N s.o) w (flat ys) us) (hy : ∀ y ∈ ys, y.cells.length = n) (hyq : ∀ d ∈ flat ys, d.cell = true) (ty : TypeId) :
    ∃ w' γ', (Builtin.append_ #[t, t'] ty #[tokVal (γ k) xs.length, y]).run P w = .ok (tokVal (γ' k) (xs ++ ys).length) w' ∧ SR T N w0 X γ' w' ⟨subL (shutO k n xs) (dropR k) s.t, update k (.tok n (xs ++ ys)) (subO (shutO k n xs) (dropR k) s.o)⟩ a := by
  obtain ⟨hu, hto⟩ := und_slice hT ht
  obtain ⟨i, z, hi, hsz, hby, hz, hzl, hzn, hza, hzs⟩ := hT.info e hto
  have hisz : i.size = n := by rw [hsz, hne]
  have hroom : xs.length + ys.length ≤ lim ∨ i.bytes ≤ 64 ∧ xs.length + ys.length ≤ lim2 := hle.imp id fun h => by
    obtain ⟨j, hj, hb⟩ := hT.small e h.1
    rw [hi] at hj
    cases hj
    exact ⟨hb, h.2⟩
  have hbig : xs.length + ys.length ≤ 2600000000000 := by
    rcases hle with h | h
    · unfold lim at h; omega
    · have := h.2; unfold lim2 at this; exact this
  have hro := h.inv.obs _ (lookup_mem hl)
  simp only [RO] at hro
  have hrd := tok_rd h.inv hl
  obtain ⟨base, cap, hv, hcap⟩ : ∃ base cap, tokVal (γ k) xs.length = .slice base xs.length cap ∧ xs.length ≤ cap := by
    simp only [Rd] at hrd
    obtain ⟨a, len, cap, e1, rfl, h1, _⟩ := hrd
    exact ⟨a, cap, e1, h1⟩
  rcases Nat.lt_or_ge cap (xs.length + ys.length) with hgt | hfit
  · -- a new block
    rw [hv] at hrd
    have hrd' := Rd.keep ((Chg.drew w).keep (M := all γ N s.o) (M' := all γ N s.o) (fun _ _ hf => hf.elim) fun _ _ _ hm => hm) _ _ hrd
    obtain ⟨_, old, ho1, ho2, ho3, ho4, ho5⟩ := run_first (P := P) hrd'
    obtain ⟨_, old', ho1', ho2', _⟩ := run_first (P := P) hrd
    have hlim : lim = 4294967296 := rfl
    have hgc : xs.length + ys.length ≤ grownCap w (xs.length + ys.length) cap e := by
      unfold grownCap
      simp only [Question.cut]
      omega
    have hrun := run_append_grow_src w t t' ty e i z hu hi hz base xs.length cap old (by rw [hisz]; exact ho1) y ys.length us (by rw [hisz]; exact hs) hgt (by omega) (by
      have := room_ok hgt hby hroom
      omega)
    have hold : RdL (all γ N s.o) w (flat xs) old := by
      have hz : old = old' := by
        simp only [Rd] at hrd
        obtain ⟨ad, len, cap', e1, e2, h6, h7, h8⟩ := hrd
        injection e1 with e1 _ e3
        subst e1 e3
        cases base with
        | none =>
          simp only [Builtin.firstCells, Sem.run_pure] at ho1 ho1'
          injection ho1 with ho1
          injection ho1' with ho1'
          rw [ho1] at ho1'
          simpa using ho1'
        | some p =>
          obtain ⟨_, _, vs, h10, h11, h12⟩ := flat_rdc (h8 p rfl)
          have e3 : (Builtin.firstCells n xs.length (.slice (some p) xs.length cap)).run P w = .ok vs.toArray w := by
            simp only [Builtin.firstCells]
            rw [← h11]
            exact run_loadCells_list w p vs h12
          have e4 : (Builtin.firstCells n xs.length (.slice (some p) xs.length cap)).run P w.drew = .ok vs.toArray w.drew := by
            simp only [Builtin.firstCells]
            rw [← h11]
            exact run_loadCells_list w.drew p vs h12
          rw [e3] at ho1'
          rw [e4] at ho1
          injection ho1 with ho1
          injection ho1' with ho1'
          rw [ho1] at ho1'
          simpa using ho1'
      rw [hz]
      exact ho2'
    have hzc : z.cells.size = n := by
      have := RdL_length (zeroL_rd (all γ N s.o) w _ _ hzl).1
      rw [hzn, hne.symm] at this
      simpa using this
    have hrest : (Builtin.zeroCells z.cells (grownCap w (xs.length + ys.length) cap e - (xs.length + ys.length))).size = (grownCap w (xs.length + ys.length) cap e - (xs.length + ys.length)) * n := by
      simp [Builtin.zeroCells, hzc]
    obtain ⟨γ', h', hγ⟩ := h.growNew hl (grownCap w (xs.length + ys.length) cap e) e hgc ho3 hy ho4 hyq hold hus (rest := (Builtin.zeroCells z.cells (grownCap w (xs.length + ys.length) cap e - (xs.length + ys.length))).toList) (by
      rw [ho5, hs.newsLen, show (Builtin.zeroCells z.cells (grownCap w (xs.length + ys.length) cap e - (xs.length + ys.length))).toList.length = _ from hrest, ← Nat.add_mul, ← Nat.add_mul]
      congr 1
      omega)
    refine ⟨_, γ', ?_, h'⟩
    rw [hv, hrun, hγ]
    simp only [tokVal, List.length_append]
    congr 3
    apply Array.toList_inj.1
    simp
  · cases hb : (γ k).b with
    | none =>
      rw [hb] at hro
      obtain ⟨hr1, a0, l0, hval⟩ := hro
      have hv' : tokVal (γ k) xs.length = (γ k).val := by simp only [tokVal, hb]
      have hc0 : ys = [] ∧ cap = xs.length := by
        rw [hv', hval] at hv
        injection hv with _ h1 h2
        have : ys.length = 0 := by omega
        exact ⟨List.eq_nil_of_length_eq_zero this, by omega⟩
      obtain ⟨rfl, rfl⟩ := hc0
      have hus0 : us = [] := by
        have := hs.newsLen
        simp at this
        exact this
      subst hus0
      have hrun := run_append_nothing (P := P) w t t' ty e i hu hi base xs.length xs.length (Nat.le_refl _) y (by rw [hisz]; exact hs)
      refine ⟨w, upd γ k (γ k), ?_, ?_⟩
      · rw [hv, hrun, upd_same]
        simp only [List.append_nil, hv]
      · refine h.regrow hl (xs ++ []) (γ k) (Chg.refl (fun _ _ => False) w) (fun _ _ hf => hf.elim) (fun _ _ _ _ _ => rfl) (fun b hb' => by rw [hb] at hb'; simp at hb') (fun b i hb' => by rw [hb] at hb'; simp at hb') fun o' hk _ => ?_
        simp only [RO, upd_same, hb, List.append_nil]
        exact ⟨Rd.keep hk _ _ hr1, a0, l0, hval⟩
    | some b =>
      have hv' : tokVal (γ k) xs.length = .slice (some ⟨b, (γ k).sk, none⟩) xs.length (γ k).cap := by simp only [tokVal, hb]
      rw [hv'] at hv
      injection hv with hv1 _ hv3
      subst hv1 hv3
      rw [hb] at hro
      obtain ⟨arr, tyb, hh, hc1, hc2, hc3⟩ := hro
      obtain ⟨w', γ', hst, h', hγ⟩ := h.growIn P hl hb hfit hy hyq hus hs.one
      have hmul : (γ k).sk + (xs.length * n + ys.length * n) ≤ arr.size := by
        rw [← hc2, ← Nat.add_mul]
        exact Nat.add_le_add_left (Nat.mul_le_mul_right n hfit) _
      have hlen := hs.newsLen
      have hcell : ∀ j, j < us.length → (w.cell? ⟨b, (γ k).sk + xs.length * n + j, none⟩).isSome = true := by
        intro j hj
        have hlt : (γ k).sk + xs.length * n + j < arr.size := by omega
        have : w.cell? ⟨b, (γ k).sk + xs.length * n + j, none⟩ = some arr[(γ k).sk + xs.length * n + j] := by
          simp only [World.cell?, hh]
          simp [Array.getElem?_eq_getElem hlt]
        rw [this]
        rfl
      have hfz : ∀ j, w.frozen? ⟨b, j, none⟩ = false := fun j => by simp [World.frozen?, hh]
      have hroom := run_append_room_src w t t' ty e i hu hi b (γ k).sk xs.length (γ k).cap y ys.length us (by rw [hisz]; exact hs) hfit (fun j hj => by
        rw [hisz]
        exact hcell j hj) (fun j hj => hfz _)
      have hst' := run_storeCells_cells (P := P) b ((γ k).sk + xs.length * n) us 0 w (fun j hj => hcell j hj) (fun j hj => hfz _) hs.one
      rw [add_plain] at hst
      rw [hst] at hst'
      injection hst' with _ hst'
      refine ⟨w', γ', ?_, h'⟩
      rw [hv', hroom, hisz]
      simp only [tokVal, hγ, hb, List.length_append, Nat.add_zero] at hst' ⊢
      rw [hst']

omit hT in
theorem flat_av (ys : List D) : (ys.map fun y => y.cells.map AV.d).flatten = (flat ys).map .d := by
  induction ys with
  | nil => rfl
  | cons y r ih => simp [flat, ih]
/-- append to a slice that may be written. -/
theorem run_appendA {N : Mut} {X : Fm} {w0 w : World} {γ : Gam} {s : St} {a : Act} (h : SR T N w0 X γ w s a) {t t' e : TypeId} {k : Id} {g : Bool} {n : Nat} {es : List (List AV)} {ys : List D} {y : Value} {us : List Value} (ht : T.td t = .slice e) (hl : lookup k s.o = some (.arr g n es)) (hne : n = T.sz e) (hle : es.length + ys.length ≤ lim)
    (hs : Src P n t' y ys.length us w) (hus : RdL (all γ N s.o) w (flat ys) us) (hy : ∀ y ∈ ys, y.cells.length = n) (ty : TypeId) :
    ∃ w' γ', (Builtin.append_ #[t, t'] ty #[tokVal (γ k) es.length, y]).run P w = .ok (tokVal (γ' k) (es.length + ys.length)) w' ∧ SR T N w0 X γ' w' ⟨subL (forO k) (dropR k) s.t, update k (.arr g n (subE (forO k) (dropR k) (es ++ ys.map fun y => y.cells.map .d))) (subO (forO k) (dropR k) s.o)⟩ a := by
  obtain ⟨hu, hto⟩ := und_slice hT ht
  obtain ⟨i, z, hi, hsz, hby, hz, hzl, hzn, hza, hzs⟩ := hT.info e hto
  have hisz : i.size = n := by rw [hsz, hne]
  have hro := h.inv.obs _ (lookup_mem hl)
  simp only [RO] at hro
  have hnn := arr_n h hl
  have hfs : ∀ f ∈ (ys.map fun y => y.cells.map AV.d), f.length = n := by
    intro f hf
    obtain ⟨y, hy', rfl⟩ := List.mem_map.1 hf
    simpa using hy y hy'
  have husA : RVL γ s.o (all γ N s.o) w (ys.map fun y => y.cells.map AV.d).flatten us := by
    rw [flat_av]
    exact RVL_data.2 hus
  obtain ⟨base, cap, old, hv, hcap, hfirst, hold⟩ : ∃ base cap old, tokVal (γ k) es.length = .slice base es.length cap ∧ es.length ≤ cap ∧ (Builtin.firstCells n es.length (.slice base es.length cap)).run P w.drew = .ok old.toArray w.drew ∧ RVL γ s.o (all γ N s.o) w es.flatten old := by
    cases hb : (γ k).b with
    | none =>
      rw [hb] at hro
      obtain ⟨rfl, hval⟩ := hro
      refine ⟨none, 0, [], by simp only [tokVal, hb, hval, List.length_nil], Nat.le_refl _, rfl, by simp [RVL]⟩
    | some b =>
      rw [hb] at hro
      obtain ⟨arr, tyb, hh, h1, h2, h3, us0, rest, e3, h4⟩ := hro
      refine ⟨some ⟨b, 0, none⟩, (γ k).cap, us0, by simp only [tokVal, hb, h1.2], h1.1, ?_, h4⟩
      simp only [Builtin.firstCells]
      have hl0 : us0.length = es.length * n := by rw [RVL_length h4, flat_len n es h3]
      rw [← hl0]
      refine run_loadCells_list w.drew _ us0 fun j u hj => ?_
      rw [add_plain, Nat.zero_add]
      have hjl := (List.getElem?_eq_some_iff.1 hj).1
      have h6 : arr.toList[j]? = some u := by rw [e3, List.getElem?_append_left hjl, hj]
      have h5 : w.drew.heap[b]? = some (.cells arr tyb (0, 0)) := hh
      simp only [World.cell?, h5]
      simpa using h6
  have hol : old.length = es.length * n := by rw [RVL_length hold, flat_len n es hnn]
  rcases Nat.lt_or_ge cap (es.length + ys.length) with hgt | hfit
  · have hlim : lim = 4294967296 := rfl
    have hgc : es.length + ys.length ≤ grownCap w (es.length + ys.length) cap e := by
      unfold grownCap
      simp only [Question.cut]
      omega
    have hrun := run_append_grow_src w t t' ty e i z hu hi hz base es.length cap old (by rw [hisz]; exact hfirst) y ys.length us (by rw [hisz]; exact hs) hgt (by omega) (by
      have h1 := slicecap (es.length + ys.length) cap hgt hle
      have h2 := Nat.mul_le_mul h1 hby
      omega)
    have hzc : z.cells.size = n := by
      have := RdL_length (zeroL_rd (all γ N s.o) w _ _ hzl).1
      rw [hzn, hne.symm] at this
      simpa using this
    have hrest : (Builtin.zeroCells z.cells (grownCap w (es.length + ys.length) cap e - (es.length + ys.length))).size = (grownCap w (es.length + ys.length) cap e - (es.length + ys.length)) * n := by
      simp [Builtin.zeroCells, hzc]
    obtain ⟨γ', h', hγ⟩ := h.growNewA (fs := ys.map fun y => y.cells.map .d) hl (grownCap w (es.length + ys.length) cap e) e (by simpa using hgc) hnn hfs hold husA (rest := (Builtin.zeroCells z.cells (grownCap w (es.length + ys.length) cap e - (es.length + ys.length))).toList) (by
      rw [hol, hs.newsLen, show (Builtin.zeroCells z.cells (grownCap w (es.length + ys.length) cap e - (es.length + ys.length))).toList.length = _ from hrest, ← Nat.add_mul, ← Nat.add_mul]
      congr 1
      omega)
    refine ⟨_, γ', ?_, h'⟩
    rw [hv, hrun, hγ]
    simp only [tokVal]
    congr 3
    apply Array.toList_inj.1
    simp
  · cases hb : (γ k).b with
    | none =>
      rw [hb] at hro
      obtain ⟨rfl, hval⟩ := hro
      have hv' : tokVal (γ k) 0 = .slice none 0 0 := by simp only [tokVal, hb, hval]
      simp only [List.length_nil] at hv
      rw [hv'] at hv
      injection hv with hv1 _ hv3
      subst hv1 hv3
      have : ys = [] := List.eq_nil_of_length_eq_zero (by simp only [List.length_nil] at hfit; omega)
      subst this
      have hus0 : us = [] := by
        have := hs.newsLen
        simp at this
        exact this
      subst hus0
      have hrun := run_append_nothing (P := P) w t t' ty e i hu hi none 0 0 (Nat.le_refl _) y (by rw [hisz]; exact hs)
      refine ⟨w, upd γ k (γ k), ?_, ?_⟩
      · simp only [List.length_nil, Nat.add_zero, upd_same, hv']
        exact hrun
      · refine h.regrowA hl [] (γ k) (Chg.refl (fun _ _ => False) w) (fun _ _ hf => hf.elim) (fun _ _ _ _ _ => rfl) (fun b hb' => by rw [hb] at hb'; simp at hb') fun o' tr => ?_
        simp only [RO, upd_same, hb, List.append_nil]
        exact ⟨rfl, hval⟩
    | some b =>
      have hsk := arr_sk h hl hb
      have hv' : tokVal (γ k) es.length = .slice (some ⟨b, 0, none⟩) es.length (γ k).cap := by simp only [tokVal, hb, hsk]
      rw [hv'] at hv
      injection hv with hv1 _ hv3
      subst hv1 hv3
      rw [hb] at hro
      obtain ⟨arr, tyb, hh, hc1, hc2, hc3⟩ := hro
      obtain ⟨w', γ', hst, h', hγ⟩ := h.growInA (fs := ys.map fun y => y.cells.map .d) P hl hb (by simpa using hfit) hfs husA hs.one
      have hmul : es.length * n + ys.length * n ≤ arr.size := by
        rw [← hc2, ← Nat.add_mul]
        exact Nat.mul_le_mul_right n hfit
      have hlen := hs.newsLen
      have hcell : ∀ j, j < us.length → (w.cell? ⟨b, es.length * n + j, none⟩).isSome = true := by
        intro j hj
        have hlt : es.length * n + j < arr.size := by rw [hlen] at hj; omega
        have : w.cell? ⟨b, es.length * n + j, none⟩ = some arr[es.length * n + j] := by
          simp only [World.cell?, hh]
          simp [Array.getElem?_eq_getElem hlt]
        rw [this]
        rfl
      have hfz : ∀ j, w.frozen? ⟨b, j, none⟩ = false := fun j => by simp [World.frozen?, hh]
      have hroom := run_append_room_src w t t' ty e i hu hi b 0 es.length (γ k).cap y ys.length us (by rw [hisz]; exact hs) hfit (fun j hj => by
        rw [hisz, Nat.zero_add]
        exact hcell j hj) (fun j hj => hfz _)
      have hst' := run_storeCells_cells (P := P) b (es.length * n) us 0 w (fun j hj => hcell j hj) (fun j hj => hfz _) hs.one
      rw [add_plain, Nat.zero_add] at hst
      rw [hst] at hst'
      injection hst' with _ hst'
      refine ⟨w', γ', ?_, h'⟩
      rw [hv', hroom, hisz]
      simp only [tokVal, hγ, hb, hsk, Nat.zero_add, Nat.add_zero] at hst' ⊢
      rw [hst']

end
end Go.Ab

namespace Go.Ab

theorem run_eqGuard {P : Program} (w : World) (op : BinOp) (t : TypeId) (x y : Operand) (u v : Value) (h1 : u = .nilIface → v = .nilIface → (isConst x || isConst y) = true) (h2 : ∀ a b, u = .agg a → v ≠ .agg b) : (eqGuard op t x y u v).run P w = .ok () w := by
  unfold eqGuard
  cases op <;> first
    | rfl
    | (rw [if_neg (by simp)]
       cases u <;> cases v <;> first
         | rfl
         | exact absurd rfl (h2 _ _ rfl)
         | (have hh := h1 rfl rfl
            simp only
            rw [if_pos (by cases x <;> cases y <;> simp_all [isConst])]
            rfl))

theorem run_equal {P : Program} (w : World) {t : TypeId} {d : TypeDesc} (hu : P.underlying t = some d) (u v : Value) (r : Bool)
    (h : (match d, u, v with
      | .bool, .bool a, .bool b => some (a == b)
      | .pointer _, .pointer none, .pointer b => some b.isNone
      | .pointer _, .pointer (some _), .pointer none => some false
      | .interface _, .nilIface, .nilIface => some true
      | .interface _, .nilIface, .iface _ _ => some false
      | .interface _, .iface _ _, .nilIface => some false
      | _, _, _ => none) = some r) : (Op.equal t u v).run P w = .ok r w := by
  unfold Op.equal
  show (Op.equalIn (9999 + 1) t u v).run P w = .ok r w
  unfold Op.equalIn
  simp only [Sem.run_bind, run_underlying hu, Result.andThen_ok]
  split at h <;> first
    | (simp only [Option.some.injEq] at h; subst h; rfl)
    | simp at h

section
variable {P : Program} {T : Ctx} (E : Abs)

theorem run_intBin (w : World) (op : BinOp) (t : TypeId) (k k' : IntKind) (a b : Int) (d : D) (hk : k = k' ∨ op = .shl ∨ op = .shr) (h : intBin op k a b = some d) : ∃ v, d = .v v ∧ (binOp op t (.int k a) (.int k' b)).run P w = .ok v w := by
  have hne : (k = k' ∨ op = .shl ∨ op = .shr) := hk
  cases op <;> simp only [intBin, Option.some.injEq] at h <;> first
    | (subst h
       refine ⟨_, rfl, ?_⟩
       have e : k = k' := by rcases hk with e | e | e <;> first | exact e | (simp at e)
       subst e
       simp [binOp, Op.intArith, Op.intCmp, Op.intBits]
       done)
    | (simp at h; done)
    | (split at h
       · simp at h
       · rename_i hb
         simp only [Option.some.injEq] at h
         subst h
         refine ⟨_, rfl, ?_⟩
         first
           | (have e : k = k' := by rcases hk with e | e | e <;> first | exact e | (simp at e)
              subst e
              simp [binOp, Op.intDiv, hb]
              done)
           | (simp [binOp, Op.shift, hb]; done))

theorem rd_v (x : Value) (M : Mut) (w : World) : Rd M w (.v x) x := by simp only [Rd]
theorem rd_s (l : List UInt8) (M : Mut) (w : World) : Rd M w (.s l) (.string ⟨l.toArray⟩) := by simp only [Rd]

theorem run_strBin (w : World) (op : BinOp) (t : TypeId) (a b : List UInt8) (d : D) (h : strBin op a b = some d) : ∃ v, (∀ M w', Rd M w' d v) ∧ (binOp op t (.string ⟨a.toArray⟩) (.string ⟨b.toArray⟩)).run P w = .ok v w := by
  have ha : (⟨a.toArray⟩ : ByteArray).toList = a := by rw [ByteArray.toList_eq]
  have hb : (⟨b.toArray⟩ : ByteArray).toList = b := by rw [ByteArray.toList_eq]
  cases op <;> simp only [strBin, Option.some.injEq] at h <;> first
    | (subst h
       refine ⟨_, fun M w' => rd_v _ M w', ?_⟩
       simp only [binOp, Op.stringOp, ha, hb]
       rfl)
    | (simp at h; done)
    | skip
  split at h
  · rename_i hle
    simp only [Option.some.injEq] at h
    subst h
    refine ⟨_, fun M w' => rd_s _ M w', ?_⟩
    simp only [binOp, Op.stringOp, Sem.run_ite]
    have hsz : ¬ ((((⟨a.toArray⟩ : ByteArray).size + (⟨b.toArray⟩ : ByteArray).size : Nat) : Int) > IntKind.i64.max) := by
      have e1 : (⟨a.toArray⟩ : ByteArray).size = a.length := by simp [ByteArray.size]
      have e2 : (⟨b.toArray⟩ : ByteArray).size = b.length := by simp [ByteArray.size]
      rw [e1, e2]
      unfold lim at hle
      have : IntKind.i64.max = 9223372036854775807 := by decide
      omega
    rw [if_neg hsz]
    simp only [Sem.run_pure]
    congr 2
  · simp at h

theorem plainB_eq {o : Obj} (h : plainB o = true) : ∃ c t, o = .cells c t (0, 0) := by
  unfold plainB at h
  split at h
  · exact ⟨_, _, rfl⟩
  · simp at h
theorem run_equal_types {P : Program} (w : World) {t tx ty : TypeId} {ms : Array (String × TypeId)} (hu : P.underlying t = some (.interface ms)) (vx vy : Value) (hne : ¬ tx = ty) : (Op.equal t (.iface tx vx) (.iface ty vy)).run P w = .ok false w := by
  have h : ∀ d : Nat, (Op.equalIn (d + 1) t (.iface tx vx) (.iface ty vy)).run P w = .ok false w := fun d => by simp [Op.equalIn, run_underlying hu, hne]
  simp [Op.equal, Op.maxDepth, h 9999]
theorem run_eqD (hT : TOk P T) {t : TypeId} (op : BinOp) (x y : Operand) {dx dy : D} {bb : Bool} {M : Mut} {w : World} {u v : Value} (hxv : Rd M w dx u) (hyv : Rd M w dy v) (hbb : eqD (T.td t) (isConst x || isConst y) (T.eqt t) T.cmp dx dy = some bb) :
    (eqGuard op t x y u v).run P w = .ok () w ∧ (Op.equal t u v).run P w = .ok bb w ∧ (∀ k n, u ≠ .int k n) ∧ (∀ l, u ≠ .string l) ∧ (∀ k n, u ≠ .float k n) ∧ (∀ k n m, u ≠ .complex k n m) := by
  unfold eqD at hbb
  split at hbb
  · rename_i em ht
    obtain ⟨ms, hu, _⟩ := und_iface hT ht
    simp only [Rd] at hxv hyv
    subst hxv hyv
    split at hbb
    · rename_i hc
      simp only [Option.some.injEq] at hbb
      subst hbb
      exact ⟨run_eqGuard w op t x y _ _ (fun _ _ => hc) (by simp), run_equal w hu _ _ _ rfl, by simp, by simp, by simp, by simp⟩
    · simp at hbb
  · rename_i em t1 p1 o1 t1' p2 o2 ht
    obtain ⟨ms, hu, _⟩ := und_iface hT ht
    simp only [Rd] at hxv hyv
    obtain ⟨_, rfl, rfl, h1, _⟩ := hxv
    obtain ⟨_, rfl, rfl, h2, _⟩ := hyv
    refine ⟨run_eqGuard w op t x y _ _ (by simp) (by simp), ?_, by simp, by simp, by simp, by simp⟩
    split at hbb
    · rename_i e1
      subst e1
      split at hbb
      · rename_i hc
        simp only [Bool.and_eq_true] at hc
        obtain ⟨hc1, hc2, hc3⟩ := hc
        obtain ⟨e, i, j, g1, g2, g3, g4, g5⟩ := hT.cmp _ hc1
        obtain ⟨ca, ta, rfl⟩ := plainB_eq hc2
        obtain ⟨cb, tb, rfl⟩ := plainB_eq hc3
        simp only [Option.some.injEq] at hbb
        subst hbb
        by_cases hpp : p1 = p2
        · subst hpp
          rw [decide_eq_true rfl]
          exact run_equalIn_iface_ptr_same w 9998 p1 hu g1 g2 g3 g4
        · rw [decide_eq_false hpp]
          exact run_equalIn_iface_ptr_other w 9998 hu g1 g2 g3 g4 g5 hpp h1 h2
      · simp at hbb
    · rename_i hne
      simp only [Option.some.injEq] at hbb
      subst hbb
      exact run_equal_types w hu _ _ hne
  · rename_i em t1 x1 t1' x2 _ ht
    obtain ⟨ms, hu, _⟩ := und_iface hT ht
    simp only [Rd] at hxv hyv
    obtain ⟨_, rfl, _⟩ := hxv
    obtain ⟨_, rfl, _⟩ := hyv
    refine ⟨run_eqGuard w op t x y _ _ (by simp) (by simp), ?_, by simp, by simp, by simp, by simp⟩
    split at hbb
    · simp at hbb
    · rename_i hne
      simp only [Option.some.injEq] at hbb
      subst hbb
      exact run_equal_types w hu _ _ hne
  · rename_i em t1 x1 ht
    obtain ⟨ms, hu, _⟩ := und_iface hT ht
    simp only [Rd] at hxv hyv
    obtain ⟨u', rfl, _⟩ := hxv
    simp only [Option.some.injEq] at hbb
    subst hbb
    subst hyv
    exact ⟨run_eqGuard w op t x y _ _ (by simp) (by simp), run_equal w hu _ _ _ rfl, by simp, by simp, by simp, by simp⟩
  · rename_i em t1 x1 ht
    obtain ⟨ms, hu, _⟩ := und_iface hT ht
    simp only [Rd] at hxv hyv
    obtain ⟨u', rfl, _⟩ := hyv
    simp only [Option.some.injEq] at hbb
    subst hbb
    subst hxv
    exact ⟨run_eqGuard w op t x y _ _ (by simp) (by simp), run_equal w hu _ _ _ rfl, by simp, by simp, by simp, by simp⟩
  · rename_i em t1 x1 ht
    obtain ⟨ms, hu, _⟩ := und_iface hT ht
    simp only [Rd] at hxv hyv
    simp only [Option.some.injEq] at hbb
    subst hbb
    subst hyv hxv
    exact ⟨run_eqGuard w op t x y _ _ (by simp) (by simp), run_equal w hu _ _ _ rfl, by simp, by simp, by simp, by simp⟩
  · rename_i em t1 x1 ht
    obtain ⟨ms, hu, _⟩ := und_iface hT ht
    simp only [Rd] at hxv hyv
    simp only [Option.some.injEq] at hbb
    subst hbb
    subst hyv hxv
    exact ⟨run_eqGuard w op t x y _ _ (by simp) (by simp), run_equal w hu _ _ _ rfl, by simp, by simp, by simp, by simp⟩
  · rename_i e cs ht
    have hu := und_ptr hT ht
    simp only [Rd] at hxv hyv
    obtain ⟨u', rfl, _⟩ := hxv
    simp only [Option.some.injEq] at hbb
    subst hbb
    subst hyv
    exact ⟨run_eqGuard w op t x y _ _ (by simp) (by simp), run_equal w hu _ _ _ rfl, by simp, by simp, by simp, by simp⟩
  · rename_i e ht
    have hu := und_ptr hT ht
    simp only [Rd] at hxv hyv
    simp only [Option.some.injEq] at hbb
    subst hbb
    subst hxv hyv
    exact ⟨run_eqGuard w op t x y _ _ (by simp) (by simp), run_equal w hu _ _ _ rfl, by simp, by simp, by simp, by simp⟩
  · rename_i a' b' ht
    have hu : P.underlying t = some .bool := by
      have := hT.td t
      unfold tdOk at this
      rw [ht] at this
      exact this
    simp only [Rd] at hxv hyv
    simp only [Option.some.injEq] at hbb
    subst hbb
    subst hxv hyv
    exact ⟨run_eqGuard w op t x y _ _ (by simp) (by simp), run_equal w hu _ _ _ rfl, by simp, by simp, by simp, by simp⟩
  · split at hbb
    · simp at hbb
    · rename_i hks
      simp only [Rd] at hxv hyv
      obtain ⟨us, rfl, hx⟩ := hxv
      obtain ⟨vs, rfl, hy⟩ := hyv
      obtain ⟨h1, h2⟩ := run_eqSt (hT.eqt t hks) hbb hx hy
      exact ⟨h1 op x y, h2, by simp, by simp, by simp, by simp⟩
  · simp at hbb

theorem owes_binOp (op : BinOp) (t t' : TypeId) (x y : Operand) (hT : TOk P T) : Owes P T E (fun o => o.op = .binOp op t x y t') := by
  intro R N X w0 w γ s a o κ r next Q ho h hk hn
  unfold opK at hk
  rw [ho] at hk
  simp only at hk
  split at hk
  · rename_i dx dy hx hy
    have hxv := h.data hx
    have hyv := h.data hy
    split at hk
    · rename_i rd hrd
      unfold dBin at hrd
      split at hrd
      · rename_i k a' k' b'
        simp only [Rd] at hxv hyv
        split at hrd
        · rename_i hkk
          obtain ⟨v, rfl, hrun⟩ := run_intBin (P := P) w op t k k' a' b' rd hkk hrd
          refine wp_val (v := v) (w' := w) ?_ (hn γ w _ _ (h.put o.dst (by simp only [RV, Rd])) hk)
          simp only [execOp, ho, hxv, hyv, Sem.run_bind, run_eqGuard (P := P) w op t x y (.int k a') (.int k' b') (by simp) (by simp), Result.andThen_ok, hrun, Sem.run_pure]
        · simp at hrd
      · rename_i a' b'
        simp only [Rd] at hxv hyv
        obtain ⟨v, hv, hrun⟩ := run_strBin (P := P) w op t a' b' rd hrd
        refine wp_val (v := v) (w' := w) ?_ (hn γ w _ _ (h.put o.dst (by simp only [RV]; exact hv _ _)) hk)
        simp only [execOp, ho, hxv, hyv, Sem.run_bind, run_eqGuard (P := P) w op t x y (.string ⟨a'.toArray⟩) (.string ⟨b'.toArray⟩) (by simp) (by simp), Result.andThen_ok, hrun, Sem.run_pure]
      · have key : ∀ (bb : Bool), eqD (T.td t) (isConst x || isConst y) (T.eqt t) T.cmp dx dy = some bb → _ := fun bb hbb => run_eqD hT op x y hxv hyv hbb
        split at hrd
        · split at hrd
          · rename_i bb hbb
            simp only [Option.some.injEq] at hrd
            subst hrd
            obtain ⟨h1, h2, h3, h4, h5, h6⟩ := key bb hbb
            refine wp_val (v := .bool bb) (w' := w) ?_ (hn γ w _ _ (h.put o.dst (by simp only [RV, Rd])) hk)
            simp only [execOp, ho, Sem.run_bind, h1, Result.andThen_ok]
            revert h2 h3 h4 h5 h6
            generalize a.eval x = u
            generalize a.eval y = v
            intro h2 h3 h4 h5 h6
            have : (binOp .eql t u v).run P w = .ok (.bool bb) w := by
              cases u <;> first | exact absurd rfl (h3 _ _) | exact absurd rfl (h4 _) | exact absurd rfl (h5 _ _) | exact absurd rfl (h6 _ _ _) | (simp only [binOp, Sem.run_bind, h2, Result.andThen_ok, Sem.run_pure])
            simp only [this, Result.andThen_ok, Sem.run_pure]
          · simp at hrd
        · split at hrd
          · rename_i bb hbb
            simp only [Option.some.injEq] at hrd
            subst hrd
            obtain ⟨h1, h2, h3, h4, h5, h6⟩ := key bb hbb
            refine wp_val (v := .bool (!bb)) (w' := w) ?_ (hn γ w _ _ (h.put o.dst (by simp only [RV, Rd])) hk)
            simp only [execOp, ho, Sem.run_bind, h1, Result.andThen_ok]
            revert h2 h3 h4 h5 h6
            generalize a.eval x = u
            generalize a.eval y = v
            intro h2 h3 h4 h5 h6
            have : (binOp .neq t u v).run P w = .ok (.bool (!bb)) w := by
              cases u <;> first | exact absurd rfl (h3 _ _) | exact absurd rfl (h4 _) | exact absurd rfl (h5 _ _) | exact absurd rfl (h6 _ _ _) | (simp only [binOp, Sem.run_bind, h2, Result.andThen_ok, Sem.run_pure])
            simp only [this, Result.andThen_ok, Sem.run_pure]
          · simp at hrd
        · simp at hrd
    · simp at hk
  · have nils : ∀ (i : Id) (off : Nat) (e : TypeId), T.td t = .ptr e → s.get T x = .ref i off → s.get T y = .d (.v (.pointer none)) → ∃ p, a.eval x = .pointer (some p) ∧ a.eval y = .pointer none ∧ (Op.equal t (.pointer (some p)) (.pointer none)).run P w = .ok false w := by
      intro i off e ht h1 h2
      have hxv := h.get x
      have hyv := h.get y
      rw [h1] at hxv
      rw [h2] at hyv
      simp only [RV, Rd] at hxv hyv
      obtain ⟨b, _, he⟩ := hxv
      exact ⟨_, he, hyv, run_equal w (und_ptr hT ht) _ _ _ rfl⟩
    split at hk
    · rename_i i off hx hy
      split at hk
      · rename_i e ht
        obtain ⟨p, h1, h2, h3⟩ := nils i off e ht hx hy
        refine wp_val (v := .bool false) (w' := w) ?_ (hn γ w _ _ (h.put o.dst (by simp only [RV, Rd])) hk)
        simp only [execOp, ho, h1, h2, Sem.run_bind, run_eqGuard (P := P) w .eql t x y (.pointer (some p)) (.pointer none) (by simp) (by simp), Result.andThen_ok, binOp, h3, Sem.run_pure]
      · simp at hk
    · rename_i i off hx hy
      split at hk
      · rename_i e ht
        obtain ⟨p, h1, h2, h3⟩ := nils i off e ht hx hy
        refine wp_val (v := .bool true) (w' := w) ?_ (hn γ w _ _ (h.put o.dst (by simp only [RV, Rd])) hk)
        simp only [execOp, ho, h1, h2, Sem.run_bind, run_eqGuard (P := P) w .neq t x y (.pointer (some p)) (.pointer none) (by simp) (by simp), Result.andThen_ok, binOp, h3, Sem.run_pure]
        rfl
      · simp at hk
    · simp at hk

end
end Go.Ab

namespace Go.Ab

theorem bytesOf_ok {M : Mut} {w : World} : ∀ {xs : List D} {l : List UInt8} {us : List Value}, bytesOf xs = some l → RdL M w (flat xs) us → ∃ ns : List Int, us = ns.map (Value.int .u8) ∧ l = ns.map (fun n => UInt8.ofNat n.toNat) ∧ us.length = xs.length
  | [], l, us, h, hr => by
    simp only [bytesOf, Option.some.injEq] at h
    subst h
    simp only [flat, List.flatMap_nil, RdL] at hr
    subst hr
    exact ⟨[], rfl, rfl, rfl⟩
  | x :: xs, l, us, h, hr => by
    unfold bytesOf at h
    split at h
    · rename_i e
      simp at e
    · rename_i n r e
      injection e with e1 e2
      subst e1 e2
      split at h
      · rename_i l' hl'
        split at h
        · rename_i hn
          simp only [Option.some.injEq] at h
          subst h
          simp only [flat, List.flatMap_cons, D.cells, List.cons_append, List.nil_append, RdL, Rd] at hr
          obtain ⟨u, us', rfl, rfl, hr⟩ := hr
          obtain ⟨ns, e1, e2, e3⟩ := bytesOf_ok hl' hr
          exact ⟨n :: ns, by simp [e1], by simp [e2], by simp [e3]⟩
        · simp at h
      · simp at h
    · simp at h

section
variable {P : Program} {T : Ctx} (hT : TOk P T) (E : Abs)

include hT

theorem owes_convert (t t' : TypeId) (x : Operand) : Owes P T E (fun o => o.op = .convert t t' x) := by
  intro R N X w0 w γ s a o κ r next Q ho h hk hn
  unfold opK at hk
  rw [ho] at hk
  simp only at hk
  split at hk
  · rename_i k1 k k2 n ht ht' hx
    have hxv := h.data hx
    simp only [Rd] at hxv
    refine wp_val (v := .int k (k.wrap n)) (w' := w) ?_ (hn γ w _ _ (h.put o.dst (by simp only [RV, Rd])) hk)
    simp only [execOp, ho, hxv, convert, Sem.run_bind, run_underlying (und_int hT ht), run_underlying (und_int hT ht'), Result.andThen_ok, Conv.intToInt, Sem.run_pure]
  · rename_i l ht ht' hx
    have hxv := h.data hx
    simp only [Rd] at hxv
    refine wp_val (v := .string ⟨l.toArray⟩) (w' := w) ?_ (hn γ w _ _ (h.put o.dst (by simp only [RV, Rd])) hk)
    simp only [execOp, ho, hxv, convert, Sem.run_bind, run_underlying (und_str hT ht), run_underlying (und_str hT ht'), Result.andThen_ok, Sem.run_pure]
  · rename_i e n xs ht ht' hx
    split at hk
    · rename_i he
      split at hk
      · rename_i l hl
        have hxv := h.data hx
        simp only [Rd] at hxv
        obtain ⟨ad, len, cap, he', h1, h2, h3, h4⟩ := hxv
        subst h1
        obtain ⟨hu, hto⟩ := und_slice hT ht
        have hu' := und_str hT ht'
        have hue := und_int hT he
        refine wp_val (v := .string ⟨l.toArray⟩) (w' := w) ?_ (hn γ w _ _ (h.put o.dst (by simp only [RV, Rd])) hk)
        cases ad with
        | none =>
          have h5 := h3 rfl
          have hx0 : xs = [] := List.eq_nil_of_length_eq_zero (by omega)
          subst hx0
          simp only [bytesOf, Option.some.injEq] at hl
          subst hl
          simp only [execOp, ho, he', Sem.run_bind, run_convert_bytes_nil w t e hu hue _ _ t' hu', Result.andThen_ok, Sem.run_pure]
          rfl
        | some p =>
          obtain ⟨h6, h7, us, h8, h9, h10⟩ := flat_rdc (h4 p rfl)
          obtain ⟨ns, e1, e2, e3⟩ := bytesOf_ok hl h8
          have hload : (loadCells p xs.length).run P w = .ok (ns.map (Value.int .u8)).toArray w := by
            rw [← e3, ← e1]
            exact run_loadCells_list w p us h10
          simp only [execOp, ho, he', Sem.run_bind, run_convert_bytes_string w t t' e _ _ cap hu hue hu', run_bytesToString w _ _ cap ns hload, Result.andThen_ok, Sem.run_pure, foldl_push_bytes]
          rw [e2]
          congr 3
          simp [ByteArray.empty, ByteArray.emptyWithCapacity]
          rfl
      · simp at hk
    · simp at hk
  · simp at hk

end
end Go.Ab

namespace Go.Ab

/-! # append to a slice without room behind it -/
mutual
theorem AV.sub_twice {fo fo' : Id → AV} {fr fr' : Id → Nat → AV} (ho : ∀ k, (fo k).sub fo' fr' = fo k) (hr : ∀ k off, (fr k off).sub fo' fr' = fr k off) (he : ∀ k i off, (eltO (fo k) i off).sub fo' fr' = eltO (fo k) i off) : ∀ x : AV, (x.sub fo fr).sub fo' fr' = x.sub fo fr
  | .d x => rfl
  | .own k => ho k
  | .tight n xs => rfl
  | .ref id off => hr id off
  | .elt id i off => he id i off
  | .agg cs => by simp only [AV.sub, subL_twice ho hr he cs]
  | .tup cs => by simp only [AV.sub, subL_twice ho hr he cs]
  | .clo f as bs => by simp only [AV.sub, subL_twice ho hr he as, subL_twice ho hr he bs]
  | .undef => rfl
theorem subL_twice {fo fo' : Id → AV} {fr fr' : Id → Nat → AV} (ho : ∀ k, (fo k).sub fo' fr' = fo k) (hr : ∀ k off, (fr k off).sub fo' fr' = fr k off) (he : ∀ k i off, (eltO (fo k) i off).sub fo' fr' = eltO (fo k) i off) : ∀ xs : List AV, subL fo' fr' (subL fo fr xs) = subL fo fr xs
  | [] => rfl
  | x :: xs => by simp only [subL, AV.sub_twice ho hr he x, subL_twice ho hr he xs]
end
theorem subE_twice {fo fo' : Id → AV} {fr fr' : Id → Nat → AV} (ho : ∀ k, (fo k).sub fo' fr' = fo k) (hr : ∀ k off, (fr k off).sub fo' fr' = fr k off) (he : ∀ k i off, (eltO (fo k) i off).sub fo' fr' = eltO (fo k) i off) : ∀ es : List (List AV), subE fo' fr' (subE fo fr es) = subE fo fr es
  | [] => rfl
  | x :: xs => by simp only [subE, subL_twice ho hr he x, subE_twice ho hr he xs]
theorem subM_twice {fo fo' : Id → AV} {fr fr' : Id → Nat → AV} (ho : ∀ k, (fo k).sub fo' fr' = fo k) (hr : ∀ k off, (fr k off).sub fo' fr' = fr k off) (he : ∀ k i off, (eltO (fo k) i off).sub fo' fr' = eltO (fo k) i off) : ∀ es : List (D × AV), subM fo' fr' (subM fo fr es) = subM fo fr es
  | [] => rfl
  | (k, v) :: xs => by simp only [subM, AV.sub_twice ho hr he v, subM_twice ho hr he xs]
theorem subO_twice {fo fo' : Id → AV} {fr fr' : Id → Nat → AV} (ho : ∀ k, (fo k).sub fo' fr' = fo k) (hr : ∀ k off, (fr k off).sub fo' fr' = fr k off) (he : ∀ k i off, (eltO (fo k) i off).sub fo' fr' = eltO (fo k) i off) : ∀ o : Obs, subO fo' fr' (subO fo fr o) = subO fo fr o
  | [] => rfl
  | (k, .box cs) :: r => by simp only [subO, subL_twice ho hr he cs, subO_twice ho hr he r]
  | (k, .tok n xs) :: r => by simp only [subO, subO_twice ho hr he r]
  | (k, .arr g n es) :: r => by simp only [subO, subE_twice ho hr he es, subO_twice ho hr he r]
  | (k, .map es) :: r => by simp only [subO, subM_twice ho hr he es, subO_twice ho hr he r]

theorem drop_shut {id : Id} {s : St} {n : Nat} {xs : List D} : (∀ k, (dropO id s k).sub (shutO id n xs) (dropR id) = dropO id s k) ∧ (∀ k off, (dropR id k off).sub (shutO id n xs) (dropR id) = dropR id k off) ∧ ∀ k i off, (eltO (dropO id s k) i off).sub (shutO id n xs) (dropR id) = eltO (dropO id s k) i off := by
  refine ⟨fun k => ?_, fun k off => ?_, fun k i off => ?_⟩
  · unfold dropO
    split
    · split <;> rfl
    · rename_i h
      simp only [AV.sub, shutO, if_neg h]
  · unfold dropR
    split
    · rfl
    · rename_i h
      simp only [AV.sub, dropR, if_neg h]
  · unfold dropO
    split
    · split <;> rfl
    · rename_i h
      simp only [eltO, AV.sub, shutO, if_neg h]

section
variable {P : Program} {T : Ctx} (hT : TOk P T)
include hT
theorem run_appendT {N : Mut} {X : Fm} {w0 w : World} {γ : Gam} {s : St} {a : Act} (h : SR T N w0 X γ w s a) (d : Tmp) {t t' e : TypeId} {n : Nat} {xs ys : List D} {u y : Value} {us : List Value} (ht : T.td t = .slice e) (hu : RV γ s.o (all γ N s.o) w (.tight n xs) u) (hne : n = T.sz e) (hle : xs.length + ys.length ≤ lim ∨ T.small e = true ∧ xs.length + ys.length ≤ lim2)
    (hs : Src P n t' y ys.length us w) (hus : RdL (all γ N s.o) w (flat ys) us) (hy : ∀ y ∈ ys, y.cells.length = n) (hyq : ∀ d ∈ flat ys, d.cell = true) (ty : TypeId) :
    ∃ w' γ' v, (Builtin.append_ #[t, t'] ty #[u, y]).run P w = .ok v w' ∧ SR T N w0 X γ' w' (s.newTok d n (xs ++ ys)) (a.put (some d) v) := by
  have hn := h.new (Chg.refl _ w) (1, d) ⟨none, 0, u, 0⟩ (.tok n xs) (fun b hb => by simp at hb) (fun γ' o' hk hg tr _ _ => by
    simp only [RO, hg]
    have := tr _ _ hu
    simpa only [AV.sub, RV] using this)
  have hown : ∀ b i, own (upd γ (1, d) ⟨none, 0, u, 0⟩) (((1, d), Ob.tok n xs) :: subO (dropO (1, d) s) (dropR (1, d)) (erase (1, d) s.o)) b i → own γ s.o b i := by
    rintro b i ⟨p, hp, hb, hm⟩
    rcases List.mem_cons.1 hp with e1 | hp
    · subst e1
      simp [upd_same] at hb
    · rw [subO_eq] at hp
      obtain ⟨q, hq, rfl⟩ := List.mem_map.1 hp
      obtain ⟨hq1, hq2⟩ := erase_sub hq
      rw [upd_ne γ _ hq2] at hb hm
      exact ⟨q, hq1, hb, by simpa only [Ob.sub_may] using hm⟩
  have hkeep : Keep (all γ N s.o) (all (upd γ (1, d) ⟨none, 0, u, 0⟩) N (((1, d), Ob.tok n xs) :: subO (dropO (1, d) s) (dropR (1, d)) (erase (1, d) s.o))) w w := Keep.less fun b i hm => hm.imp id (hown b i)
  obtain ⟨w', γ', hrun, h'⟩ := run_append hT hn (t := t) (t' := t') (k := (1, d)) (n := n) (xs := xs) (ys := ys) (y := y) (us := us) ht (by simp [lookup]) hne hle hs (RdL.keep hkeep _ _ hus) hy hyq ty
  have etv : tokVal (upd γ (1, d) ⟨none, 0, u, 0⟩ (1, d)) xs.length = u := by simp only [upd_same, tokVal]
  rw [etv] at hrun
  refine ⟨w', γ', _, hrun, ?_⟩
  have hput := h'.put (some d) (v := .own (1, d)) (u := tokVal (γ' (1, d)) (xs ++ ys).length) (by
    simp only [RV, subO, update, if_true, lookup]
    exact ⟨_, _, rfl, rfl, rfl⟩)
  obtain ⟨g1, g2, g3⟩ := drop_shut (id := (1, d)) (s := s) (n := n) (xs := xs)
  have hnk : ∀ (x : Ob) (o : Obs), (1, d) ∉ o.map (·.1) → update (1, d) x o = o := by
    intro x o
    induction o with
    | nil => intro _; rfl
    | cons p r ih =>
      obtain ⟨k', z'⟩ := p
      intro hn
      simp only [List.map_cons, List.mem_cons, not_or] at hn
      simp only [update]
      rw [if_neg (fun e => hn.1 e.symm), ih hn.2]
  have e1 : St.put ⟨subL (shutO (1, d) n xs) (dropR (1, d)) (subL (dropO (1, d) s) (dropR (1, d)) s.t), update (1, d) (.tok n (xs ++ ys)) (subO (shutO (1, d) n xs) (dropR (1, d)) (((1, d), Ob.tok n xs) :: subO (dropO (1, d) s) (dropR (1, d)) (erase (1, d) s.o)))⟩ (some d) (.own (1, d)) = s.newTok d n (xs ++ ys) := by
    simp only [St.put, St.newTok, subL_twice g1 g2 g3, subO, subO_twice g1 g2 g3, update, if_true]
    rw [hnk _ _ (by
      rw [subO_keys]
      intro hm
      obtain ⟨p, hp, e⟩ := List.mem_map.1 hm
      exact (erase_sub hp).2 e)]
  rw [e1] at hput
  exact hput
omit hT in
theorem tightOf_ok {γ : Gam} {o : Obs} {M : Mut} {w : World} {t : TypeId} {v : AV} {u : Value} {n : Nat} {xs : List D} (h : RV γ o M w v u) (ht : tightOf T t v = some (n, xs)) : RV γ o M w (.tight n xs) u := by
  unfold tightOf at ht
  split at ht
  · simp only [Option.some.injEq, Prod.mk.injEq] at ht
    obtain ⟨rfl, rfl⟩ := ht
    exact h
  · split at ht
    · simp only [Option.some.injEq, Prod.mk.injEq] at ht
      obtain ⟨rfl, rfl⟩ := ht
      simp only [RV, Rd] at h ⊢
      subst h
      exact ⟨⟨none, 0, 0, rfl, rfl, Nat.le_refl _, fun _ => rfl, fun p hp => by simp at hp⟩, none, 0, rfl⟩
    · simp at ht
  · simp at ht
end
end Go.Ab

namespace Go.Ab

/-- A function's contract: what it gives for data; nothing that was there is turned. -/
def Pure (P : Program) (T : Ctx) (f : FuncId) (F : List D → Option (List D)) : Prop :=
  ∀ ds rs, F ds = some rs → FnOk P f ∧ ∀ (N : Mut) (w : World) (vs : List Value), (∀ b i, N b i → b < w.heap.size) → GlobOk T N w → RdL N w ds vs →
    Calls P f vs.toArray w fun e w' => ∃ us, RdL N w' rs us ∧ e = .returned (pack us) ∧ Chg (fun _ _ => False) w w'

theorem packD_ok {γ : Gam} {o : Obs} {M : Mut} {w : World} {rs : List D} {us : List Value} (h : RdL M w rs us) : RV γ o M w (packD rs) (pack us) := by
  match rs, us, h with
  | [], us, h =>
    simp only [RdL] at h
    subst h
    simp only [packD, pack, RV, List.map_nil]
    exact ⟨[], rfl, by simp [RVL]⟩
  | [x], us, h =>
    simp only [RdL] at h
    obtain ⟨u, us', rfl, h, rfl⟩ := h
    simpa only [packD, pack, RV] using h
  | x :: y :: r, us, h =>
    have hl := RdL_length h
    match us, hl with
    | u :: v :: us', _ =>
      simp only [packD, pack, RV]
      exact ⟨_, rfl, RVL_data.2 h⟩

theorem list_one {α : Type} {xs : Array α} {x : α} (h : xs.toList = [x]) : xs = #[x] := by
  apply Array.toList_inj.1
  simpa using h
theorem list_two {α : Type} {xs : Array α} {x y : α} (h : xs.toList = [x, y]) : xs = #[x, y] := by
  apply Array.toList_inj.1
  simpa using h

section
variable {P : Program} {T : Ctx} (hT : TOk P T) {E : Abs} (hE : ∀ f, Pure P T f (E f))

theorem args_ok {N : Mut} {X : Fm} {w0 w : World} {γ : Gam} {s : St} {a : Act} (h : SR T N w0 X γ w s a) : ∀ (xs : List Operand) (ts : List TypeId) (ds : List D), xs.length = ts.length → datas s.o ((xs.zip ts).map fun p => nilfix T p.2 (s.get T p.1)) = some ds → RdL (all γ N s.o) w ds (xs.map a.eval)
  | [], ts, ds, hl, hd => by
    simp only [List.zip_nil_left, List.map_nil, datas, Option.some.injEq] at hd
    subst hd
    simp [RdL]
  | x :: xs, [], ds, hl, hd => by simp at hl
  | x :: xs, t :: ts, ds, hl, hd => by
    simp only [List.zip_cons_cons, List.map_cons, datas] at hd
    split at hd
    · rename_i d r hd1 hd2
      simp only [Option.some.injEq] at hd
      subst hd
      simp only [List.map_cons, RdL]
      exact ⟨_, _, rfl, data_ok h.inv _ _ _ (nilfix_ok (T := T) t (h.get x)) hd1, args_ok h xs ts r (by simpa using hl) hd2⟩
    · simp at hd

theorem RVL_append {γ : Gam} {o : Obs} {M : Mut} {w : World} : ∀ {as bs : List AV} {us vs : List Value}, RVL γ o M w as us → RVL γ o M w bs vs → RVL γ o M w (as ++ bs) (us ++ vs)
  | [], bs, us, vs, h, k => by simp only [RVL] at h; subst h; simpa using k
  | d :: as, bs, us, vs, h, k => by
    simp only [RVL] at h
    obtain ⟨u, us', rfl, h1, h⟩ := h
    simp only [List.cons_append, RVL]
    exact ⟨u, us' ++ vs, rfl, h1, RVL_append h k⟩
theorem gfOf_ok {γ : Gam} {o : Obs} {M : Mut} {w : World} {x : AV} {u : Value} (h : RV γ o M w x u) {g : FuncId} {first cap : List AV} (hg : gfOf T x = some (g, first, cap)) :
    ∃ fs cs : List Value, u = .func (.func g) fs.toArray cs.toArray ∧ RVL γ o M w first fs ∧ RVL γ o M w cap cs := by
  unfold gfOf at hg
  split at hg
  · split at hg
    · cases hg
      simp only [RV, Rd] at h
      obtain ⟨xs, ys, rfl, h1, h2⟩ := h
      exact ⟨xs, ys, rfl, RVL_data.2 h1, RVL_data.2 h2⟩
    · cases hg
  · split at hg
    · cases hg
      simp only [RV] at h
      exact h
    · cases hg
  · cases hg
theorem args_av {N : Mut} {X : Fm} {w0 w : World} {γ : Gam} {s : St} {a : Act} (h : SR T N w0 X γ w s a) : ∀ (xs : List Operand) (ts : List TypeId), xs.length = ts.length → RVL γ s.o (all γ N s.o) w ((xs.zip ts).map fun p => nilfix T p.2 (s.get T p.1)) (xs.map a.eval)
  | [], ts, hl => by simp [RVL]
  | x :: xs, [], hl => by simp at hl
  | x :: xs, t :: ts, hl => by
    simp only [List.zip_cons_cons, List.map_cons, RVL]
    exact ⟨_, _, rfl, nilfix_ok (T := T) t (h.get x), args_av h xs ts (by simpa using hl)⟩
theorem args_lend {N : Mut} {X : Fm} {w0 w : World} {γ : Gam} {s : St} {a : Act} (h : SR T N w0 X γ w s a) (dst : Option Tmp) : ∀ (xs : List Operand) (ts : List TypeId), xs.length = ts.length → RVL γ s.o (all γ N s.o) w ((xs.zip ts).map fun p => argA T dst p.2 s.o (s.get T p.1)) (xs.map a.eval)
  | [], ts, hl => by simp [RVL]
  | x :: xs, [], hl => by simp at hl
  | x :: xs, t :: ts, hl => by
    simp only [List.zip_cons_cons, List.map_cons, RVL]
    refine ⟨_, _, rfl, ?_, args_lend h dst xs ts (by simpa using hl)⟩
    have hl : RV γ s.o (all γ N s.o) w (lendA T dst s.o (nilfix T t (s.get T x))) (a.eval x) := by
      have hv := nilfix_ok (T := T) t (h.get x)
      unfold lendA
      split
      · split
        · rename_i d hd
          simp only [RV]
          exact data_ok h.inv _ _ _ hv hd
        · exact hv
      · exact hv
    unfold argA
    split
    · split
      · rename_i hx
        have hv := h.get x
        rw [hx] at hv
        split
        · simp only [RV, Rd] at hv ⊢
          rw [hv]
          exact ⟨⟨none, 0, 0, rfl, rfl, Nat.le_refl _, fun _ => rfl, fun p hp => by cases hp⟩, none, 0, rfl⟩
        · exact h.get x
      · exact hl
    · exact hl
include hT hE

theorem owes_call (c : Call) : Owes P T E (fun o => o.op = .call c) := by
  intro R N X w0 w γ s a o κ r next Q ho h hk hn
  unfold opK at hk
  rw [ho] at hk
  simp only at hk
  split at hk
  · rename_i b hb
    split at hk
    · rename_i x t hx ht
      have hx' := list_one hx
      have ht' := list_one ht
      split at hk
      · rename_i l htd hxd
        have hxv := h.data hxd
        simp only [Rd] at hxv
        refine wp_val (v := .int .i64 l.length) (w' := w) ?_ (hn γ w _ _ (h.put o.dst (by simp only [RV, Rd])) hk)
        simp only [execOp, ho, resolve, hb, invoke, builtin, hx', ht', Sem.run_bind, Sem.run_pure, Result.andThen_ok, List.map_toArray, List.map_cons, List.map_nil, hxv, Builtin.len_, List.getElem?_toArray, List.getElem?_cons_zero, run_underlying (und_str hT htd)]
        simp [goInt, ByteArray.size]
      · rename_i e n xs htd hxd
        have hxv := h.data hxd
        simp only [Rd] at hxv
        obtain ⟨ad, len, cap, he, rfl, _⟩ := hxv
        refine wp_val (v := .int .i64 xs.length) (w' := w) ?_ (hn γ w _ _ (h.put o.dst (by simp only [RV, Rd])) hk)
        simp only [execOp, ho, resolve, hb, invoke, builtin, hx', ht', Sem.run_bind, Sem.run_pure, Result.andThen_ok, List.map_toArray, List.map_cons, List.map_nil, he, Builtin.len_, List.getElem?_toArray, List.getElem?_cons_zero, run_underlying (und_slice hT htd).1]
        simp [goInt]
      · rename_i e htd hxd
        split at hk
        · rename_i k hkx
          split at hk
          · rename_i g n es hl
            have hxv := h.get x
            rw [hkx] at hxv
            simp only [RV] at hxv
            obtain ⟨ob1, l1, hl1, hs1, he⟩ := hxv
            rw [hl] at hl1
            injection hl1 with hl1
            subst hl1
            simp only [Ob.sl, Option.some.injEq] at hs1
            subst hs1
            have hval : ∃ ad cap, tokVal (γ k) es.length = .slice ad es.length cap := by
              have hro := h.inv.obs _ (lookup_mem hl)
              simp only [RO] at hro
              unfold tokVal
              cases hb' : (γ k).b with
              | none =>
                rw [hb'] at hro
                exact ⟨none, 0, by simp only [hro.2, hro.1, List.length_nil]⟩
              | some b => exact ⟨_, _, rfl⟩
            obtain ⟨ad, cap, hval⟩ := hval
            simp only [slVal, hval] at he
            refine wp_val (v := .int .i64 es.length) (w' := w) ?_ (hn γ w _ _ (h.put o.dst (by simp only [RV, Rd])) hk)
            simp only [execOp, ho, resolve, hb, invoke, builtin, hx', ht', Sem.run_bind, Sem.run_pure, Result.andThen_ok, List.map_toArray, List.map_cons, List.map_nil, he, Builtin.len_, List.getElem?_toArray, List.getElem?_cons_zero, run_underlying (und_slice hT htd).1]
            simp [goInt]
          · simp at hk
        · simp at hk
      · rename_i kt et htd hxd
        have hxv := h.data hxd
        simp only [Rd] at hxv
        refine wp_val (v := .int .i64 0) (w' := w) ?_ (hn γ w _ _ (h.put o.dst (by simp only [RV, Rd])) hk)
        simp only [execOp, ho, resolve, hb, invoke, builtin, hx', ht', Sem.run_bind, Sem.run_pure, Result.andThen_ok, List.map_toArray, List.map_cons, List.map_nil, hxv, Builtin.len_, List.getElem?_toArray, List.getElem?_cons_zero, run_underlying (und_map hT htd)]
        simp [goInt]
      · rename_i kt et htd hxd
        split at hk
        · rename_i k hkx
          split at hk
          · rename_i es hl
            have hxv := h.get x
            rw [hkx] at hxv
            obtain ⟨b, ents, clock, hb', hh, hst, hks, hvs, hval⟩ := map_parts h hl
            have he := hval _ hxv
            have hlen : es.length = ents.size := by
              have := congrArg List.length hks
              simpa using this.symm
            refine wp_val (v := .int .i64 es.length) (w' := w) ?_ (hn γ w _ _ (h.put o.dst (by simp only [RV, Rd])) hk)
            simp only [execOp, ho, resolve, hb, invoke, builtin, hx', ht', Sem.run_bind, Sem.run_pure, Result.andThen_ok, List.map_toArray, List.map_cons, List.map_nil, he, Builtin.len_, List.getElem?_toArray, List.getElem?_cons_zero, run_underlying (und_map hT htd), MapKept.run_getObj_map hh]
            simp [goInt, hlen]
          · simp at hk
        · simp at hk
      · simp at hk
    · rename_i x y t t' hx ht
      have hx' := list_two hx
      split at hk
      · rename_i q n1 q2 n2 h1 h2
        have hxv := h.get x
        have hyv := h.get y
        rw [h1] at hxv
        rw [h2] at hyv
        simp only [RV, Rd] at hxv hyv
        refine wp_val (v := .int q (if n2 > n1 then n2 else n1)) (w' := w) ?_ (hn γ w _ _ (h.put o.dst (by simp only [RV, Rd])) hk)
        simp [execOp, ho, resolve, hb, invoke, builtin, hx', hxv, hyv, Builtin.max_, Builtin.max2]
      · simp at hk
    · rename_i x y t t' hx ht
      have hx' := list_two hx
      split at hk
      · rename_i q n1 q2 n2 h1 h2
        have hxv := h.get x
        have hyv := h.get y
        rw [h1] at hxv
        rw [h2] at hyv
        simp only [RV, Rd] at hxv hyv
        refine wp_val (v := .int q (if n2 < n1 then n2 else n1)) (w' := w) ?_ (hn γ w _ _ (h.put o.dst (by simp only [RV, Rd])) hk)
        simp [execOp, ho, resolve, hb, invoke, builtin, hx', hxv, hyv, Builtin.min_, Builtin.min2]
      · simp at hk
    · rename_i m k t t' hx ht
      have hx' := list_two hx
      have ht' := list_two ht
      split at hk
      · rename_i kt et id kd htd hm hkd
        split at hk
        · rename_i hkey
          split at hk
          · rename_i es hl
            split at hk
            · rename_i es' hp
              have hmv := h.get m
              rw [hm] at hmv
              obtain ⟨w', hr, h'⟩ := run_del hT h (t' := t') (ty := o.type) htd hl hmv hkey (key_val h hkd hkey) hp
              refine wp_val (v := .tuple #[]) (w' := w') ?_ (hn γ w' _ _ (h'.put o.dst (v := .tup []) (u := .tuple #[]) (by simp only [RV, RVL]; exact ⟨[], rfl, rfl⟩)) hk)
              simp only [execOp, ho, resolve, hb, invoke, builtin, hx', ht', Sem.run_bind, Sem.run_pure, Result.andThen_ok, List.map_toArray, List.map_cons, List.map_nil, hr]
            · simp at hk
          · simp at hk
        · simp at hk
      · simp at hk
    · rename_i x y t t' hx ht
      have hx' := list_two hx
      have ht' := list_two ht
      split at hk
      · rename_i e e' n' ys htd htd' hyd
        split at hk
        · rename_i k hkx
          split at hk
          · rename_i n xs hl
            split at hk
            · rename_i hfit
              have hxv := h.get x
              rw [hkx] at hxv
              simp only [RV] at hxv
              obtain ⟨ob1, l1, hl1, hs1, he⟩ := hxv
              rw [hl] at hl1
              injection hl1 with hl1
              subst hl1
              simp only [Ob.sl, Option.some.injEq] at hs1
              subst hs1
              simp only [slVal] at he
              have hyv := data_ok h.inv _ _ _ (nilfix_ok (T := T) t' (h.get y)) hyd
              rw [hfit.2.1] at hyv
              obtain ⟨us, hs, hus, hy1, hy2⟩ := src_sl (P := P) (und_slice hT htd').1 hyv
              obtain ⟨w', γ', hrun, h'⟩ := run_append hT h htd hl hfit.1 hfit.2.2 hs hus hy1 hy2 o.type
              refine wp_val (w' := w') ?_ (hn γ' w' _ _ (h'.put o.dst (v := .own k) (u := tokVal (γ' k) (xs ++ ys).length) ?_) hk)
              · simp only [execOp, ho, resolve, hb, invoke, builtin, hx', ht', Sem.run_bind, Sem.run_pure, Result.andThen_ok, List.map_toArray, List.map_cons, List.map_nil, he, hrun]
              · simp only [RV]
                refine ⟨.tok n (xs ++ ys), .n (xs ++ ys).length, ?_, rfl, rfl⟩
                have : lookup k (subO (shutO k n xs) (dropR k) s.o) = some (.tok n xs) := by
                  rw [lookup_subO, hl]
                  rfl
                exact lookup_update_same _ this
            · simp at hk
          · rename_i g n es hl
            split at hk
            · rename_i hfit
              have hxv := h.get x
              rw [hkx] at hxv
              simp only [RV] at hxv
              obtain ⟨ob1, l1, hl1, hs1, he⟩ := hxv
              rw [hl] at hl1
              injection hl1 with hl1
              subst hl1
              simp only [Ob.sl, Option.some.injEq] at hs1
              subst hs1
              simp only [slVal] at he
              have hyv := data_ok h.inv _ _ _ (nilfix_ok (T := T) t' (h.get y)) hyd
              rw [hfit.2.1] at hyv
              obtain ⟨us, hs, hus, hy1, hy2⟩ := src_sl (P := P) (und_slice hT htd').1 hyv
              obtain ⟨w', γ', hrun, h'⟩ := run_appendA hT h htd hl hfit.1 hfit.2.2 hs hus hy1 o.type
              refine wp_val (w' := w') ?_ (hn γ' w' _ _ (h'.put o.dst (v := .own k) (u := tokVal (γ' k) (es.length + ys.length)) ?_) hk)
              · simp only [execOp, ho, resolve, hb, invoke, builtin, hx', ht', Sem.run_bind, Sem.run_pure, Result.andThen_ok, List.map_toArray, List.map_cons, List.map_nil, he, hrun]
              · simp only [RV]
                have : lookup k (subO (forO k) (dropR k) s.o) = some (.arr g n (subE (forO k) (dropR k) es)) := by
                  rw [lookup_subO, hl]
                  rfl
                exact ⟨_, .n (es.length + ys.length), lookup_update_same _ this, by simp [Ob.sl, subE_len], rfl⟩
            · simp at hk
          · simp at hk
        · rename_i xv hnot
          split at hk
          · rename_i n xs d htg hd
            split at hk
            · rename_i hfit
              have hyv := data_ok h.inv _ _ _ (nilfix_ok (T := T) t' (h.get y)) hyd
              rw [hfit.2.1] at hyv
              obtain ⟨us, hs, hus, hy1, hy2⟩ := src_sl (P := P) (und_slice hT htd').1 hyv
              have hxt := tightOf_ok (T := T) (h.get x) htg
              obtain ⟨w', γ', v, hrun, h'⟩ := run_appendT hT h d htd hxt hfit.1 hfit.2.2 hs hus hy1 hy2 o.type
              refine wp_val (w' := w') (v := v) ?_ (hn γ' w' _ _ (by rw [hd]; exact h') hk)
              simp only [execOp, ho, resolve, hb, invoke, builtin, hx', ht', Sem.run_bind, Sem.run_pure, Result.andThen_ok, List.map_toArray, List.map_cons, List.map_nil, hrun]
            · simp at hk
          · simp at hk
      · rename_i e l htd htd' hyd
        split at hk
        · rename_i k hkx
          split at hk
          · rename_i n xs hl
            split at hk
            · rename_i hfit
              have hxv := h.get x
              rw [hkx] at hxv
              simp only [RV] at hxv
              obtain ⟨ob1, l1, hl1, hs1, he⟩ := hxv
              rw [hl] at hl1
              injection hl1 with hl1
              subst hl1
              simp only [Ob.sl, Option.some.injEq] at hs1
              subst hs1
              simp only [slVal] at he
              have hyv := data_ok h.inv _ _ _ (nilfix_ok (T := T) t' (h.get y)) hyd
              simp only [Rd] at hyv
              obtain ⟨hus, hy1, hy2⟩ := encB_rd (all γ N s.o) w l
              have hs := src_s (P := P) (w := w) (l := l) (und_str hT htd')
              rw [← hfit.2.1] at hs hy1
              obtain ⟨w', γ', hrun, h'⟩ := run_append hT h htd hl hfit.1 (.inl (by simpa using hfit.2.2)) hs hus hy1 hy2 o.type
              refine wp_val (w' := w') ?_ (hn γ' w' _ _ (h'.put o.dst (v := .own k) (u := tokVal (γ' k) (xs ++ l.map encB).length) ?_) hk)
              · simp only [execOp, ho, resolve, hb, invoke, builtin, hx', ht', Sem.run_bind, Sem.run_pure, Result.andThen_ok, List.map_toArray, List.map_cons, List.map_nil, he, hyv, hrun]
              · simp only [RV]
                refine ⟨.tok n (xs ++ l.map encB), .n (xs ++ l.map encB).length, ?_, rfl, rfl⟩
                have : lookup k (subO (shutO k n xs) (dropR k) s.o) = some (.tok n xs) := by
                  rw [lookup_subO, hl]
                  rfl
                exact lookup_update_same _ this
            · simp at hk
          · simp at hk
        · simp at hk
      · simp at hk
    · simp at hk
  · rename_i f hf
    split at hk
    · rename_i g first cap hgf
      split at hk
      · rename_i hsz
        replace h := SR.chill h o.dst c
        generalize s.chill T o.dst c = s1 at h hgf hk
        unfold gcallK gcallL at hk
        · split at hk
          · rename_i o1 ho1
            split at hk
            · rename_i rs o2 hm
              obtain ⟨fs, cs, he, hfs, hcs⟩ := gfOf_ok (h.get f) hgf
              have hargs := args_lend h o.dst c.args.toList c.argTypes.toList (by simpa using hsz)
              have hall : RVL γ s1.o (all γ N s1.o) w (first ++ ((c.args.toList.zip c.argTypes.toList).map fun p => argA T o.dst p.2 s1.o (s1.get T p.1)) ++ cap) (fs ++ c.args.toList.map a.eval ++ cs) := RVL_append (RVL_append hfs hargs) hcs
              obtain ⟨⟨fn, hfn1, hfn2, hfn3⟩, _⟩ := hT.mf g _ _ _ _ hm
              have hc := h.gcall (dst := o.dst) (hT.mf g) hall (nubI_nodup _ _) ho1 hm
              unfold Oper.wp
              have hrun : (execOp a.eval o).run P w = .ok (.enter g (fs ++ c.args.toList.map a.eval ++ cs).toArray) w := by
                simp only [execOp, ho, resolve, hf, Deferred.ofValue, he, invoke, callFunc, Sem.run_bind, Sem.run_pure, Result.andThen_ok, run_program, hfn1, hfn2, hfn3]
                simp only [Bool.false_eq_true, if_false, Sem.run_pure]
                congr 2
                apply Array.toList_inj.1
                simp
              rw [hrun]
              refine Calls.mono hc ?_
              rintro e w' ⟨γ', u, hs', rfl⟩
              exact hn γ' w' _ _ (SR.cool hs' o.dst) hk
            · simp at hk
          · simp at hk
      · simp at hk
    · rename_i hgf
      split at hk
      · rename_i g first cap ds hfd hds
        split at hk
        · rename_i hsz
          split at hk
          · rename_i rs hrs
            obtain ⟨hfn, hcall⟩ := hE g _ _ hrs
            obtain ⟨fn, hfn1, hfn2, hfn3⟩ := hfn
            have hfv := h.data hfd
            simp only [Rd] at hfv
            obtain ⟨xs, ys, he, hx, hy⟩ := hfv
            have hargs := args_ok h c.args.toList c.argTypes.toList ds (by simpa using hsz) hds
            have hc := hcall (all γ N s.o) w (xs ++ c.args.toList.map a.eval ++ ys) (fun b i hm => by
              rcases hm with hm | ⟨p, hp, hpb, _⟩
              · exact h.inv.old b i hm
              · exact own_lt h.inv hp hpb) (fun g cs hg => h.glob g cs hg) (RdL_append (RdL_append hx hargs) hy)
            unfold Oper.wp
            have hrun : (execOp a.eval o).run P w = .ok (.enter g (xs ++ c.args.toList.map a.eval ++ ys).toArray) w := by
              simp only [execOp, ho, resolve, hf, Deferred.ofValue, he, invoke, callFunc, Sem.run_bind, Sem.run_pure, Result.andThen_ok, run_program, hfn1, hfn2, hfn3]
              simp only [Bool.false_eq_true, if_false, Sem.run_pure]
              congr 2
              apply Array.toList_inj.1
              simp
            rw [hrun]
            refine Calls.mono hc ?_
            rintro e w' ⟨us, hus, rfl, hchg⟩
            exact hn γ w' _ _ ((h.world hchg).put o.dst (packD_ok hus)) hk
          · simp at hk
        · simp at hk
      · simp at hk
  · rename_i recv name hcal
    split at hk
    · rename_i t dx ds hx hds
      split at hk
      · rename_i hsz
        split at hk
        · rename_i g hm
          split at hk
          · rename_i rs hrs
            obtain ⟨hfn, hcall⟩ := hE g _ _ hrs
            obtain ⟨fn, hfn1, hfn2, hfn3⟩ := hfn
            have hxv := h.get recv
            rw [hx] at hxv
            simp only [RV, Rd] at hxv
            obtain ⟨y, he, hy⟩ := hxv
            have hargs := args_ok h c.args.toList c.argTypes.toList ds (by simpa using hsz) hds
            have hc := hcall (all γ N s.o) w (y :: c.args.toList.map a.eval) (fun b i hm => by
              rcases hm with hm | ⟨p, hp, hpb, _⟩
              · exact h.inv.old b i hm
              · exact own_lt h.inv hp hpb) (fun g cs hg => h.glob g cs hg) (by simp only [RdL]; exact ⟨_, _, rfl, hy, hargs⟩)
            unfold Oper.wp
            have hmr := hT.meth t name g hm y w
            have hrun : (execOp a.eval o).run P w = .ok (.enter g (y :: c.args.toList.map a.eval).toArray) w := by
              have e0 : ∀ z : Value, (#[z] ++ c.args.map a.eval)[0]? = some z := fun z => by
                rw [Array.getElem?_append_left (by simp)]
                rfl
              have e1 : ∀ z : Value, (#[z] ++ c.args.map a.eval).extract 1 (#[z] ++ c.args.map a.eval).size = c.args.map a.eval := fun z => by
                apply Array.toList_inj.1
                simp
                rw [List.take_of_length_le (by simp)]
              simp only [execOp, ho, resolve, hcal, invoke, callMethod, e0, e1, he, callFunc, Sem.run_bind, Sem.run_pure, Result.andThen_ok, run_program, hmr, hfn1, hfn2, hfn3]
              simp only [Bool.false_eq_true, if_false, Sem.run_pure]
              congr 2
              apply Array.toList_inj.1
              simp
            rw [hrun]
            refine Calls.mono hc ?_
            rintro e w' ⟨us, hus, rfl, hchg⟩
            exact hn γ w' _ _ ((h.world hchg).put o.dst (packD_ok hus)) hk
          · simp at hk
        · simp at hk
      · simp at hk
    · simp at hk

/-- Every operation that the evaluator takes. -/
theorem op_sound {R : Type} {N : Mut} {X : Fm} {w0 w : World} {γ : Gam} {s : St} {a : Act} {o : Oper} {κ : St → Option R} {r : R} {next : Act → World → Prop} {Q : Exit → Act → World → Prop}
    (h : SR T N w0 X γ w s a) (hk : opK T E o s κ = some r) (hn : ∀ γ' w' s' a', SR T N w0 X γ' w' s' a' → κ s' = some r → next a' w') : o.wp P a w next Q := by
  cases ho : o.op with
  | move x => exact owes_move E x ho h hk hn
  | assign x => exact owes_assign E x ho h hk hn
  | pick c x y => exact owes_pick E c x y ho h hk hn
  | alloc t => exact owes_alloc hT E t ho h hk hn
  | box t x => exact owes_box E t x ho h hk hn
  | build t ps => exact owes_build hT E t ps ho h hk hn
  | buildSlice t n ps => exact owes_buildSlice hT E t n ps ho h hk hn
  | load t x => exact owes_load hT E t x ho h hk hn
  | store t x y => exact owes_store hT E t x y ho h hk hn
  | nilCheck x => exact owes_nilCheck E x ho h hk hn
  | binOp b t x y t' => exact owes_binOp E b t t' x y hT ho h hk hn
  | unOp u t x => exact owes_unOp E u t x ho h hk hn
  | convert t t' x => exact owes_convert hT E t t' x ho h hk hn
  | makeInterface t x => exact owes_makeInterface hT E t x ho h hk hn
  | makeFunc f xs ys => exact owes_makeFunc E f xs ys ho h hk hn
  | slice t x lo hi mx => exact owes_slice hT E t x lo hi mx ho h hk hn
  | fieldAddr t x i => exact owes_fieldAddr hT E t x i ho h hk hn
  | field t x i => exact owes_field hT E t x i ho h hk hn
  | indexAddr t x y => exact owes_indexAddr hT E t x y ho h hk hn
  | index t x y => exact owes_index hT E t x y ho h hk hn
  | typeAssert x t t2 ok => exact owes_typeAssert hT E x t t2 ok ho h hk hn
  | extract x i => exact owes_extract E x i ho h hk hn
  | call c => exact owes_call hT hE c ho h hk hn
  | makeMap t r => exact owes_makeMap hT E t r ho h hk hn
  | lookup t x i c => exact owes_lookup hT E t x i c ho h hk hn
  | mapUpdate t m k v => exact owes_mapUpdate hT E t m k v ho h hk hn
  | insert t m k v => exact owes_insert hT E t m k v ho h hk hn
  | makeSlice t l c => exact owes_makeSlice hT E t l c ho h hk hn
  | _ => unfold opK at hk; rw [ho] at hk; simp at hk

end
end Go.Ab

namespace Go.Ab

def Ex.to : Ex → Exit
  | .normal => .normal
  | .exit i => .exit i
  | .goto l => .goto l
  | .ret => .ret

theorem iter_sound {P : Program} {T : Ctx} {R : Type} {N : Mut} {X : Fm} {w0 : World} {c : Code} {body : St → (Ex → St → Option R) → Option R} {Q : Exit → Act → World → Prop} {κ : Ex → St → Option R} {r : R}
    (hb : ∀ (κ' : Ex → St → Option R) (Q' : Exit → Act → World → Prop) (γ : Gam) (w : World) (s : St) (a : Act), SR T N w0 X γ w s a → body s κ' = some r → (∀ e γ' w' s' a', SR T N w0 X γ' w' s' a' → κ' e s' = some r → Q' e.to a' w') → c.wp P Q' a w)
    (hn : ∀ e γ' w' s' a', SR T N w0 X γ' w' s' a' → κ e s' = some r → Q e.to a' w') :
    ∀ (n : Nat) (γ : Gam) (w : World) (s : St) (a : Act), SR T N w0 X γ w s a → iter body n s κ = some r → Code.rounds P c Q n a w
  | 0, γ, w, s, a, h, hk => by simp [iter] at hk
  | n + 1, γ, w, s, a, h, hk => by
    simp only [iter] at hk
    rw [rounds_succ]
    refine hb _ _ γ w s a h hk fun e γ' w' s' a' h' hk' => ?_
    cases e with
    | normal => exact iter_sound hb hn n γ' w' s' a' h' hk'
    | exit i => exact hn (.exit i) γ' w' s' a' h' hk'
    | goto l => exact hn (.goto l) γ' w' s' a' h' hk'
    | ret => exact hn .ret γ' w' s' a' h' hk'

section
variable {P : Program} {T : Ctx} (hT : TOk P T) {E : Abs} (hE : ∀ f, Pure P T f (E f))
include hT hE

theorem opG_sound {R : Type} {N : Mut} {X : Fm} {w0 w : World} {γ : Gam} {s : St} {a : Act} {ops : Array Oper} {o : Oper} {κ : St → Option R} {r : R} {next : Act → World → Prop} {Q : Exit → Act → World → Prop}
    (h : SR T N w0 X γ w s a) (hk : opG T E ops.toList o s κ = some r) (hn : ∀ γ' w' s' a', SR T N w0 X γ' w' s' a' → κ s' = some r → next a' w') :
    if Region.wanted o (yielded ops a.tmps) then o.wp P a w next Q ∨ (o.asks P a w ∧ LetsOut Q) else next (a.put o.dst undef) w := by
  unfold opG at hk
  split at hk
  · rename_i hg
    have : Region.wanted o (yielded ops a.tmps) = true := by simp [Region.wanted, hg]
    rw [if_pos this]
    exact .inl (op_sound hT hE h hk hn)
  · rename_i j want hg
    have hy : ∀ v, ((ops.toList[j]?).bind (·.dst)).bind (s.t[·]?) = some (.d (.v v)) → yielded ops a.tmps j = (match v with | .bool b => some b | _ => none) := by
      intro v hv
      unfold yielded
      rw [Array.getElem?_toList] at hv
      cases hd : (ops[j]?).bind (·.dst) with
      | none => rw [hd] at hv; simp at hv
      | some d =>
        rw [hd] at hv
        simp only [Option.bind_some] at hv ⊢
        obtain ⟨u, hu, hr⟩ := RVL_get h.t hv
        simp only [RV, Rd] at hr
        subst hr
        rw [Array.getElem?_toList] at hu
        rw [hu]
        cases u <;> rfl
    split at hk
    · rename_i b hb
      have hyb := hy _ hb
      simp only at hyb
      have hw : Region.wanted o (yielded ops a.tmps) = (some b == some want) := by simp only [Region.wanted, hg, hyb]
      cases b <;> cases want <;> simp only at hk <;> rw [hw]
      · exact (if_pos rfl).mpr (.inl (op_sound hT hE h hk hn))
      · exact (if_neg (by decide)).mpr (hn γ w _ _ (h.put o.dst (by simp only [RV, Rd])) hk)
      · exact (if_neg (by decide)).mpr (hn γ w _ _ (h.put o.dst (by simp only [RV, Rd])) hk)
      · exact (if_pos rfl).mpr (.inl (op_sound hT hE h hk hn))
    · rename_i vs hb
      have hyb := hy _ hb
      simp only at hyb
      have hw : Region.wanted o (yielded ops a.tmps) = false := by simp [Region.wanted, hg, hyb]
      rw [hw]
      exact (if_neg (by decide)).mpr (hn γ w _ _ (h.put o.dst (by simp only [RV, Rd])) hk)
    · simp at hk

theorem opsK_sound {R : Type} {N : Mut} {X : Fm} {w0 : World} {ops : Array Oper} {Q : Exit → Act → World → Prop} {κ : St → Option R} {r : R} (hn : ∀ γ' w' s' a', SR T N w0 X γ' w' s' a' → κ s' = some r → Q .normal a' w') :
    ∀ (l : List Oper) (i : Nat) (γ : Gam) (w : World) (s : St) (a : Act), ops.toList.drop i = l → SR T N w0 X γ w s a → opsK T E ops.toList l s κ = some r → wpOps P ops Q (List.range' i l.length) a w
  | [], i, γ, w, s, a, hl, h, hk => by
    simp only [opsK] at hk
    simp only [List.length_nil, List.range'_zero, wpOps]
    exact hn γ w s a h hk
  | o :: l, i, γ, w, s, a, hl, h, hk => by
    simp only [opsK] at hk
    have ho : ops[i]? = some o := by
      have : (ops.toList.drop i)[0]? = some o := by rw [hl]; rfl
      simpa using this
    have hl' : ops.toList.drop (i + 1) = l := by
      have := congrArg (List.drop 1) hl
      simpa [List.drop_drop, Nat.add_comm] using this
    simp only [List.length_cons, List.range'_succ, wpOps, ho]
    exact opG_sound hT hE h hk fun γ' w' s' a' h' hk' => opsK_sound hn l (i + 1) γ' w' s' a' hl' h' hk'

end
end Go.Ab
