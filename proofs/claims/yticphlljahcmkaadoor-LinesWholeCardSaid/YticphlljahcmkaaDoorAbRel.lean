/- One text of a proof that a law of this seat says true for every input: an evaluator of code over data, and that it tells the truth. It holds of the given program under the conditions that the row prints. -/
import Derived.Test.YticphlljahcmkaaDoorAbEv
set_option linter.unusedVariables false
namespace Go.Ab

/-- A frame's values and memory are as its abstract state says. N: what others may write; X: what this call may write of what was there. -/
structure SR (T : Ctx) (N : Mut) (w0 : World) (X : Mut) (γ : Gam) (w : World) (s : St) (a : Act) : Prop where
  inv : Inv γ N s.o w
  t : RVL γ s.o (all γ N s.o) w s.t a.tmps.toList
  defers : a.defers = []
  chg : Chg X w0 w
  fresh : ∀ b i, own γ s.o b i → X b i ∨ w0.heap.size ≤ b
  glob : ∀ g cs, T.glob g = some cs → RdC (all γ N s.o) w cs ⟨g, 0, none⟩ 0

theorem own_lt {γ : Gam} {N : Mut} {o : Obs} {w : World} (h : Inv γ N o w) {p : Id × Ob} (hp : p ∈ o) {b : Nat} (hb : (γ p.1).b = some b) : b < w.heap.size := by
  have := h.obs p hp
  obtain ⟨id, ob⟩ := p
  cases ob with
  | box cs =>
    obtain ⟨b', arr, ty, e, hh, _⟩ := this
    have e' : (γ id).b = some b := hb
    rw [e'] at e
    injection e with e
    subst e
    exact (Array.getElem?_eq_some_iff.1 hh).1
  | tok n xs =>
    have e' : (γ id).b = some b := hb
    simp only [RO, e'] at this
    obtain ⟨arr, ty, hh, _⟩ := this
    exact (Array.getElem?_eq_some_iff.1 hh).1

theorem SR.core {T : Ctx} {N : Mut} {w0 : World} {X : Mut} {γ γ' : Gam} {w w' : World} {s : St} {o' : Obs} {a : Act} {fo : Id → AV} {fr : Id → Nat → AV}
    (h : SR T N w0 X γ w s a) {X' : Mut} (c : Chg X' w w') (hX : ∀ b i, X' b i → own γ s.o b i)
    (hM : ∀ b i, b < w.heap.size → own γ' o' b i → own γ s.o b i)
    (ho : (∀ x u, Rd (all γ N s.o) w x u → Rd (all γ' N o') w' x u) → ∀ k u, RV γ s.o (all γ N s.o) w (.own k) u → RV γ' o' (all γ' N o') w' (fo k) u)
    (hr : (∀ x u, Rd (all γ N s.o) w x u → Rd (all γ' N o') w' x u) → ∀ id off u, RV γ s.o (all γ N s.o) w (.ref id off) u → RV γ' o' (all γ' N o') w' (fr id off) u)
    (inv' : Keep (all γ N s.o) (all γ' N o') w w' → Inv γ' N o' w') : SR T N w0 X γ' w' ⟨subL fo fr s.t, o'⟩ a := by
  have hk : Keep (all γ N s.o) (all γ' N o') w w' := by
    refine c.keep (fun b i hx => .inr (hX b i hx)) fun b i hb hm => ?_
    rcases hm with hm | hm
    · exact .inl hm
    · exact .inr (hM b i hb hm)
  have hd : ∀ x u, Rd (all γ N s.o) w x u → Rd (all γ' N o') w' x u := fun x u => Rd.keep hk x u
  refine ⟨inv' hk, RVL.sub hd (ho hd) (hr hd) _ _ h.t, h.defers, h.chg.trans c fun b i hx => h.fresh b i (hX b i hx), fun b i hm => ?_, fun g cs hg => RdC.keep hk _ _ _ (h.glob g cs hg)⟩
  rcases Nat.lt_or_ge b w.heap.size with hb | hb
  · exact h.fresh b i (hM b i hb hm)
  · exact .inr (Nat.le_trans h.chg.size hb)

/-- A pure step of the world. -/
theorem SR.world {T : Ctx} {N : Mut} {w0 : World} {X : Mut} {γ : Gam} {w w' : World} {s : St} {a : Act} (h : SR T N w0 X γ w s a) (c : Chg (fun _ _ => False) w w') : SR T N w0 X γ w' s a := by
  have hh := h.core (γ' := γ) (o' := s.o) (fo := .own) (fr := .ref) c (fun _ _ hx => hx.elim) (fun _ _ _ hm => hm) (fun _ k u hv => hv) (fun _ id off u hv => hv) fun hk => ⟨h.inv.keys, h.inv.apart, h.inv.sep, fun b i hb => Nat.lt_of_lt_of_le (h.inv.old b i hb) c.size, fun p hp => ?_⟩
  · rw [subL_id] at hh
    exact hh
  · have hro := h.inv.obs p hp
    obtain ⟨id, ob⟩ := p
    have hd : ∀ x u, Rd (all γ N s.o) w x u → Rd (all γ N s.o) w' x u := fun x u => Rd.keep hk x u
    cases ob with
    | box cs =>
      obtain ⟨b, arr, ty, e, hb, hv⟩ := hro
      refine ⟨b, arr, ty, e, ?_, RVL.same hd (fun _ _ hv => hv) (fun _ _ _ hv => hv) _ _ hv⟩
      rw [c.block b (Array.getElem?_eq_some_iff.1 hb).1 fun _ hf => hf, hb]
    | tok n xs =>
      simp only [RO] at hro ⊢
      cases hg : (γ id).b with
      | none => rw [hg] at hro; exact ⟨hd _ _ hro.1, hro.2⟩
      | some b =>
        rw [hg] at hro
        obtain ⟨arr, ty, hb, h1, h2, h3⟩ := hro
        refine ⟨arr, ty, ?_, h1, h2, RdE.keep hk _ _ _ _ h3⟩
        rw [c.block b (Array.getElem?_eq_some_iff.1 hb).1 fun _ hf => hf, hb]

theorem RVL_set {γ : Gam} {o : Obs} {M : Mut} {w : World} {v : AV} {u : Value} (hv : RV γ o M w v u) : ∀ {xs : List AV} {us : List Value} (i : Nat), RVL γ o M w xs us → RVL γ o M w (xs.set i v) (us.set i u)
  | [], us, i, h => by
    simp only [RVL] at h
    subst h
    simp [RVL]
  | x :: xs, us, i, h => by
    simp only [RVL] at h
    obtain ⟨u', us', rfl, h1, h2⟩ := h
    cases i with
    | zero =>
      simp only [List.set_cons_zero, RVL]
      exact ⟨_, _, rfl, hv, h2⟩
    | succ i =>
      simp only [List.set_cons_succ, RVL]
      exact ⟨_, _, rfl, h1, RVL_set hv i h2⟩

theorem SR.put {T : Ctx} {N : Mut} {w0 : World} {X : Mut} {γ : Gam} {w : World} {s : St} {a : Act} (h : SR T N w0 X γ w s a) (d : Option Tmp) {v : AV} {u : Value} (hv : RV γ s.o (all γ N s.o) w v u) :
    SR T N w0 X γ w (s.put d v) (a.put d u) := by
  cases d with
  | none => exact h
  | some d =>
    refine ⟨h.inv, ?_, h.defers, h.chg, h.fresh, h.glob⟩
    simp only [St.put, Act.put, Array.toList_setIfInBounds]
    exact RVL_set hv d h.t

/-! ### values of operands -/
theorem SR.get {T : Ctx} {N : Mut} {w0 : World} {X : Mut} {γ : Gam} {w : World} {s : St} {a : Act} (h : SR T N w0 X γ w s a) (x : Operand) : RV γ s.o (all γ N s.o) w (s.get T x) (a.eval x) := by
  cases x with
  | tmp t =>
    simp only [St.get, Act.eval]
    cases ht : s.t[t]? with
    | none => simp [List.getD, ht, RV]
    | some v =>
      obtain ⟨u, hu, hv⟩ := RVL_get h.t ht
      have : a.tmps.getD t undef = u := by
        rw [Array.getD_eq_getD_getElem?]
        simp at hu
        simp [hu]
      rw [this]
      simpa [List.getD, ht] using hv
  | const v =>
    simp only [St.get, Act.eval, RV]
    cases v <;> simp [ofConst, Rd]
  | global g =>
    simp only [St.get, Act.eval]
    cases hg : T.glob g with
    | none => simp [RV]
    | some cs =>
      simp only [RV, Rd]
      exact ⟨_, rfl, h.glob g cs hg⟩
  | func f =>
    simp only [St.get, Act.eval, RV, Rd]
    exact ⟨[], [], rfl, by simp [RdL], by simp [RdL]⟩

theorem nilfix_ok {T : Ctx} {γ : Gam} {o : Obs} {M : Mut} {w : World} (t : TypeId) {v : AV} {u : Value} (h : RV γ o M w v u) : RV γ o M w (nilfix T t v) u := by
  unfold nilfix
  split
  · split
    · simp only [RV, Rd] at h ⊢
      subst h
      exact ⟨none, 0, 0, rfl, rfl, Nat.le_refl _, fun _ => rfl, fun p hp => by simp at hp⟩
    · exact h
  · exact h

theorem tok_rd {γ : Gam} {N : Mut} {o : Obs} {w : World} (hi : Inv γ N o w) {k : Id} {n : Nat} {xs : List D} (hl : lookup k o = some (.tok n xs)) : Rd (all γ N o) w (.sl n xs) (tokVal (γ k) xs.length) := by
  have hro := hi.obs _ (lookup_mem hl)
  simp only [RO] at hro
  simp only [Rd, tokVal]
  cases hb : (γ k).b with
  | none =>
    rw [hb] at hro
    simpa only [Rd] using hro.1
  | some b =>
    rw [hb] at hro
    obtain ⟨arr, ty, _, h1, _, h3⟩ := hro
    exact ⟨_, _, _, rfl, rfl, h1, fun hn => by simp at hn, fun p hp => by injection hp with hp; subst hp; exact h3⟩

mutual
theorem data_ok {γ : Gam} {N : Mut} {o : Obs} {w : World} (hi : Inv γ N o w) : ∀ (v : AV) (u : Value) (d : D), RV γ o (all γ N o) w v u → v.data o = some d → Rd (all γ N o) w d u
  | .d x, u, d, h, e => by
    simp only [AV.data, Option.some.injEq] at e
    subst e
    simpa only [RV] using h
  | .own k, u, d, h, e => by
    simp only [RV] at h
    obtain ⟨n, xs, hl, rfl⟩ := h
    simp only [AV.data, hl, Option.some.injEq] at e
    subst e
    exact tok_rd hi hl
  | .tight n xs, u, d, h, e => by
    simp only [AV.data, Option.some.injEq] at e
    subst e
    simp only [RV] at h
    exact h.1
  | .ref id off, u, d, h, e => by simp [AV.data] at e
  | .agg cs, u, d, h, e => by
    simp only [RV] at h
    obtain ⟨us, rfl, h⟩ := h
    simp only [AV.data] at e
    split at e
    · rename_i ds hds
      simp only [Option.some.injEq] at e
      subst e
      simp only [Rd]
      exact ⟨us, rfl, datas_ok hi cs us ds h hds⟩
    · simp at e
  | .tup cs, u, d, h, e => by simp [AV.data] at e
  | .clo f as bs, u, d, h, e => by
    simp only [RV] at h
    obtain ⟨xs, ys, rfl, h1, h2⟩ := h
    simp only [AV.data] at e
    split at e
    · rename_i d1 d2 hd1 hd2
      simp only [Option.some.injEq] at e
      subst e
      simp only [Rd]
      exact ⟨xs, ys, rfl, datas_ok hi as xs d1 h1 hd1, datas_ok hi bs ys d2 h2 hd2⟩
    · simp at e
  | .undef, u, d, h, e => by simp [AV.data] at e
theorem datas_ok {γ : Gam} {N : Mut} {o : Obs} {w : World} (hi : Inv γ N o w) : ∀ (vs : List AV) (us : List Value) (ds : List D), RVL γ o (all γ N o) w vs us → datas o vs = some ds → RdL (all γ N o) w ds us
  | [], us, ds, h, e => by
    simp only [datas, Option.some.injEq] at e
    subst e
    simpa only [RVL, RdL] using h
  | v :: vs, us, ds, h, e => by
    simp only [RVL] at h
    obtain ⟨u, us', rfl, h1, h2⟩ := h
    simp only [datas] at e
    split at e
    · rename_i x y hx hy
      simp only [Option.some.injEq] at e
      subst e
      simp only [RdL]
      exact ⟨u, us', rfl, data_ok hi v u x h1 hx, datas_ok hi vs us' y h2 hy⟩
    · simp at e
end
theorem SR.data {T : Ctx} {N : Mut} {w0 : World} {X : Mut} {γ : Gam} {w : World} {s : St} {a : Act} (h : SR T N w0 X γ w s a) {x : Operand} {d : D} (e : (s.get T x).data s.o = some d) : Rd (all γ N s.o) w d (a.eval x) :=
  data_ok h.inv _ _ _ (h.get x) e

end Go.Ab
