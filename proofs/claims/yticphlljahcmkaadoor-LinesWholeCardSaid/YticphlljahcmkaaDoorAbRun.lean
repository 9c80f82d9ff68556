/- One text of a proof that a law of this seat says true for every input: an evaluator of code over data, and that it tells the truth. It holds of the given program under the conditions that the row prints. -/
import Derived.Test.YticphlljahcmkaaDoorAbIce
import Derived.Laws.Cells
import Derived.Laws.Entries
set_option linter.unusedVariables false
namespace Go.Ab

def tdOk (P : Program) (T : Ctx) (t : TypeId) : Prop :=
  match T.td t with
  | .int k => P.underlying t = some (.int k)
  | .bool => P.underlying t = some .bool
  | .str => P.underlying t = some .string
  | .slice e => P.underlying t = some (.slice e) ∧ T.td e ≠ .other
  | .strct fs => ∃ a : Array Field, P.underlying t = some (.struct a) ∧ a.toList.map (fun f => (f.type, f.offset)) = fs ∧ ∀ f ∈ fs, T.td f.1 ≠ .other ∧ T.sz f.1 ≠ 0
  | .ptr e => P.underlying t = some (.pointer e)
  | .iface em => ∃ ms, P.underlying t = some (.interface ms) ∧ ms.isEmpty = em
  | .func => ∃ a b c, P.underlying t = some (.func a b c)
  | .map k e => P.underlying t = some (.map k e)
  | .arr n e => P.underlying t = some (.array n e) ∧ T.td e ≠ .other
  | .other => True

/-- a zero value's cells -/
def zeroL : List D → List Value → Prop
  | [], vs => vs = []
  | .v x :: ds, vs => ∃ vs', vs = x :: vs' ∧ D.cell (.v x) = true ∧ zeroL ds vs'
  | .s [] :: ds, vs => ∃ vs', vs = .string ⟨#[]⟩ :: vs' ∧ zeroL ds vs'
  | .sl _ [] :: ds, vs => ∃ vs', vs = .slice none 0 0 :: vs' ∧ zeroL ds vs'
  | _ :: _, _ => False

structure TOk (P : Program) (T : Ctx) : Prop where
  td : ∀ t, tdOk P T t
  info : ∀ t, T.td t ≠ .other → ∃ i z, P.info? t = some i ∧ i.size = T.sz t ∧ i.bytes ≤ 4096 ∧ i.zero = some z ∧ zeroL (T.zero t) z.cells.toList ∧ (T.zero t).length = T.sz t ∧ ((T.td t).agg = true → ∃ us, z = .agg us) ∧ ((T.td t).agg = false → z.cells = #[z])
  mixed : P.follows .mixedOrders = true
  eqt : ∀ t, T.eqt t ≠ [] → eqB P t (T.eqt t) = true

theorem zeroL_rd (M : Mut) (w : World) : ∀ (ds : List D) (vs : List Value), zeroL ds vs → RdL M w ds vs ∧ ∀ d ∈ ds, d.cell = true
  | [], vs, h => by
    simp only [zeroL] at h
    simp [RdL, h]
  | .v x :: ds, vs, h => by
    simp only [zeroL] at h
    obtain ⟨vs', rfl, hc, h⟩ := h
    have ih := zeroL_rd M w ds vs' h
    exact ⟨by simp only [RdL]; exact ⟨_, _, rfl, by simp only [Rd], ih.1⟩, fun d hd => (List.mem_cons.1 hd).elim (fun e => e ▸ hc) (ih.2 d)⟩
  | .s [] :: ds, vs, h => by
    simp only [zeroL] at h
    obtain ⟨vs', rfl, h⟩ := h
    have ih := zeroL_rd M w ds vs' h
    exact ⟨by simp only [RdL]; exact ⟨_, _, rfl, by simp only [Rd], ih.1⟩, fun d hd => (List.mem_cons.1 hd).elim (fun e => by subst e; rfl) (ih.2 d)⟩
  | .sl n [] :: ds, vs, h => by
    simp only [zeroL] at h
    obtain ⟨vs', rfl, h⟩ := h
    have ih := zeroL_rd M w ds vs' h
    exact ⟨by simp only [RdL]; exact ⟨_, _, rfl, by simp only [Rd]; exact ⟨none, 0, 0, rfl, rfl, Nat.le_refl _, fun _ => rfl, fun p hp => by simp at hp⟩, ih.1⟩, fun d hd => (List.mem_cons.1 hd).elim (fun e => by subst e; rfl) (ih.2 d)⟩
  | .s (_ :: _) :: ds, vs, h => by simp [zeroL] at h
  | .sl n (_ :: _) :: ds, vs, h => by simp [zeroL] at h
  | .st cs :: ds, vs, h => by simp [zeroL] at h
  | .ptr cs :: ds, vs, h => by simp [zeroL] at h
  | .ifc t x :: ds, vs, h => by simp [zeroL] at h
  | .fn f as bs :: ds, vs, h => by simp [zeroL] at h

section
variable {P : Program} {T : Ctx} (hT : TOk P T) (w : World)
include hT

theorem run_size {t : TypeId} (h : T.td t ≠ .other) : (sizeOf t).run P w = .ok (T.sz t) w := by
  obtain ⟨i, z, hi, hs, _⟩ := hT.info t h
  unfold sizeOf typeInfo
  simp [hi, hs]
theorem run_zero {t : TypeId} (h : T.td t ≠ .other) : ∃ z, (zeroValue t).run P w = .ok z w ∧ zeroL (T.zero t) z.cells.toList ∧ (T.zero t).length = T.sz t ∧ ((T.td t).agg = true → ∃ us, z = .agg us) ∧ ((T.td t).agg = false → z.cells = #[z]) := by
  obtain ⟨i, z, hi, _, _, hz, h1⟩ := hT.info t h
  refine ⟨z, ?_, h1⟩
  unfold zeroValue typeInfo
  simp [hi, hz]
theorem run_bytes {t : TypeId} (h : T.td t ≠ .other) : ∃ i, (typeInfo t).run P w = .ok i w ∧ i.bytes ≤ 4096 ∧ i.size = T.sz t := by
  obtain ⟨i, z, hi, hs, hb, _⟩ := hT.info t h
  refine ⟨i, ?_, hb, hs⟩
  unfold typeInfo
  simp [hi]
theorem und_agg {t : TypeId} (h : T.td t ≠ .other) : ∃ d, P.underlying t = some d ∧ (match d with | .struct _ | .array _ _ => true | _ => false) = (T.td t).agg := by
  have := hT.td t
  unfold tdOk at this
  split at this <;> rename_i e <;> rw [e]
  · exact ⟨_, this, rfl⟩
  · exact ⟨_, this, rfl⟩
  · exact ⟨_, this, rfl⟩
  · exact ⟨_, this.1, rfl⟩
  · obtain ⟨a, ha, _⟩ := this
    exact ⟨_, ha, rfl⟩
  · exact ⟨_, this, rfl⟩
  · obtain ⟨a, ha, _⟩ := this
    exact ⟨_, ha, rfl⟩
  · obtain ⟨a, b, c, ha⟩ := this
    exact ⟨_, ha, rfl⟩
  · exact ⟨_, this, rfl⟩
  · exact ⟨_, this.1, rfl⟩
  · exact absurd e h
theorem run_agg {t : TypeId} (h : T.td t ≠ .other) : (isAgg t).run P w = .ok (T.td t).agg w := by
  obtain ⟨d, hd, e⟩ := und_agg hT h
  unfold isAgg
  simp only [Sem.run_bind, run_underlying hd, Result.andThen_ok]
  rw [← e]
  cases d <;> rfl
end

/-- A variable that lies in cells is loaded. -/
theorem run_loadVar {P : Program} {T : Ctx} (hT : TOk P T) (w : World) {t : TypeId} (h : T.td t ≠ .other) (hs : (T.td t).agg = true ∨ T.sz t = 1) (p : Addr) (us : List Value) (hl : us.length = T.sz t) (hc : ∀ j u, us[j]? = some u → w.cell? (p.add j) = some u) :
    (loadVar t p).run P w = .ok (if (T.td t).agg = true then .agg us.toArray else us.headD undef) w := by
  unfold loadVar
  simp only [Sem.run_bind, run_agg hT w h, Result.andThen_ok]
  cases ha : (T.td t).agg with
  | true =>
    simp only [if_true, Sem.run_bind, run_size hT w h, Result.andThen_ok]
    rw [← hl, run_loadCells_list w p us hc]
    rfl
  | false =>
    rw [ha] at hs
    have h1 : T.sz t = 1 := by simpa using hs
    match us, hl with
    | [u], _ =>
      have := hc 0 u (by simp)
      simp only [Addr.add, if_true] at this
      simp [this]
    | [], hl => simp [h1] at hl
    | _ :: _ :: _, hl => simp [h1] at hl

theorem RdC_load {M : Mut} {w : World} {cs : List D} {p : Addr} {k : Nat} (h : RdC M w cs p 0) (hk : k ≤ cs.length) : ∃ us : List Value, RdL M w (cs.take k) us ∧ us.length = k ∧ ∀ j u, us[j]? = some u → w.cell? (p.add j) = some u := by
  obtain ⟨us, h1, h2, h3⟩ := RdC_vals M w (cs.take k) p 0 (RdC_take M w cs p 0 k h)
  exact ⟨us, h1, by rw [h2, List.length_take, Nat.min_eq_left hk], fun j u hu => by simpa using h3 j u hu⟩

theorem valD_ok {T : Ctx} {M : Mut} {w : World} {t : TypeId} (hs : (T.td t).agg = true ∨ T.sz t = 1) {cs : List D} {us : List Value} (h : RdL M w cs us) (hl : cs.length = T.sz t) : Rd M w (valD (T.td t).agg cs) (if (T.td t).agg = true then .agg us.toArray else us.headD undef) := by
  unfold valD
  cases ha : (T.td t).agg with
  | true =>
    simp only [if_true, Rd]
    exact ⟨us, rfl, h⟩
  | false =>
    rw [ha] at hs
    have h1 : T.sz t = 1 := by simpa using hs
    match cs, hl with
    | [c], _ =>
      simp only [RdL] at h
      obtain ⟨u, us', rfl, h, _⟩ := h
      simpa using h
    | [], hl => simp [h1] at hl
    | _ :: _ :: _, hl => simp [h1] at hl
theorem valA_ok {T : Ctx} {γ : Gam} {o : Obs} {M : Mut} {w : World} {t : TypeId} (hs : (T.td t).agg = true ∨ T.sz t = 1) {cs : List AV} {us : List Value} (h : RVL γ o M w cs us) (hl : cs.length = T.sz t) : RV γ o M w (valA (T.td t).agg cs) (if (T.td t).agg = true then .agg us.toArray else us.headD undef) := by
  unfold valA
  cases ha : (T.td t).agg with
  | true =>
    simp only [if_true, RV]
    exact ⟨us, rfl, h⟩
  | false =>
    rw [ha] at hs
    have h1 : T.sz t = 1 := by simpa using hs
    match cs, hl with
    | [c], _ =>
      simp only [RVL] at h
      obtain ⟨u, us', rfl, h, _⟩ := h
      simpa using h
    | [], hl => simp [h1] at hl
    | _ :: _ :: _, hl => simp [h1] at hl

theorem RVL_take {γ : Gam} {o : Obs} {M : Mut} {w : World} : ∀ {xs : List AV} {us : List Value} (k : Nat), RVL γ o M w xs us → RVL γ o M w (xs.take k) (us.take k)
  | [], us, k, h => by
    simp only [RVL] at h
    subst h
    simp [RVL]
  | x :: xs, us, 0, h => by simp [RVL]
  | x :: xs, us, k + 1, h => by
    simp only [RVL] at h
    obtain ⟨u, us', rfl, h1, h2⟩ := h
    simp only [List.take_succ_cons, RVL]
    exact ⟨_, _, rfl, h1, RVL_take k h2⟩
theorem RVL_drop {γ : Gam} {o : Obs} {M : Mut} {w : World} : ∀ {xs : List AV} {us : List Value} (k : Nat), RVL γ o M w xs us → RVL γ o M w (xs.drop k) (us.drop k)
  | [], us, k, h => by
    simp only [RVL] at h
    subst h
    simp [RVL]
  | x :: xs, us, 0, h => by simpa using h
  | x :: xs, us, k + 1, h => by
    simp only [RVL] at h
    obtain ⟨u, us', rfl, h1, h2⟩ := h
    simpa using RVL_drop k h2

/-- what a value's cells are -/
theorem cells_ok {γ : Gam} {o : Obs} {M : Mut} {w : World} (hown : ∀ k n xs, lookup k o = some (.tok n xs) → (tokVal (γ k) xs.length).oneCell' = true) {v : AV} {u : Value} {cs : List AV} (h : RV γ o M w v u) (hc : v.cells = some cs) : RVL γ o M w cs u.cells.toList ∧ cs.all AV.cell = true := by
  have one : ∀ {v : AV}, RV γ o M w v u → v.cell = true → RVL γ o M w [v] u.cells.toList ∧ [v].all AV.cell = true := by
    intro v h hc
    have h1 := cell_one hown h hc
    have : u.cells = #[u] := by cases u <;> simp_all [Value.oneCell', Value.cells]
    rw [this]
    simp only [RVL, List.all_cons, List.all_nil, hc, Bool.and_self, and_true]
    exact ⟨u, [], rfl, h, rfl⟩
  unfold AV.cells at hc
  split at hc
  · split at hc
    · rename_i ha
      simp only [Option.some.injEq] at hc
      subst hc
      simp only [RV] at h
      obtain ⟨us, rfl, h⟩ := h
      exact ⟨by simpa [Value.cells] using h, ha⟩
    · simp at hc
  · split at hc
    · rename_i ha
      simp only [Option.some.injEq] at hc
      subst hc
      simp only [RV, Rd] at h
      obtain ⟨us, rfl, h⟩ := h
      exact ⟨by simpa [Value.cells] using RVL_data.2 h, ha⟩
    · simp at hc
  · split at hc
    · rename_i hcell
      simp only [Option.some.injEq] at hc
      subst hc
      exact one h hcell
    · simp at hc

end Go.Ab
