/- One text of a proof that a law of this seat says true for every input: an evaluator of code over data, and that it tells the truth. It holds of the given program under the conditions that the row prints. -/
import Derived.Calls
import Derived.Orders
import Derived.Below
import Derived.LoopN
import Derived.Laws.World
import Derived.Laws.Sem
set_option linter.unusedVariables false
namespace Go.Ab

/-- A datum: what an immutable value reads as. -/
inductive D where
  | v (x : Value)
  | s (l : List UInt8)
  | sl (n : Nat) (xs : List D)
  | st (cs : List D)
  | ptr (cs : List D)
  | ifc (t : TypeId) (x : D)
  | fn (f : Fn) (first cap : List D)
  /-- a pointer into a block that stands as it stood -/
  | at (p : Addr) (o : Obj)

/-- The cells of a datum. -/
def D.cells : D → List D
  | .st cs => cs
  | d => [d]

/-- May it lie in one cell? -/
def D.cell : D → Bool
  | .st _ | .v (.agg _) | .v (.tuple _) => false
  | _ => true

/-- Which cells may be written. -/
abbrev Mut := Nat → Nat → Prop

mutual
def Rd (M : Mut) (w : World) : D → Value → Prop
  | .v x, u => u = x
  | .s l, u => u = .string ⟨l.toArray⟩
  | .sl n xs, u => ∃ a len cap, u = .slice a len cap ∧ xs.length = len ∧ len ≤ cap ∧ (a = none → cap = 0) ∧ ∀ p, a = some p → RdE M w n xs p 0
  | .st cs, u => ∃ us : List Value, u = .agg us.toArray ∧ RdL M w cs us
  | .ptr cs, u => ∃ p, u = .pointer (some p) ∧ RdC M w cs p 0
  | .ifc t x, u => ∃ y, u = .iface t y ∧ Rd M w x y
  | .fn f as bs, u => ∃ xs ys : List Value, u = .func f xs.toArray ys.toArray ∧ RdL M w as xs ∧ RdL M w bs ys
  | .at p o, u => u = .pointer (some p) ∧ w.heap[p.block]? = some o ∧ ∀ i, ¬ M p.block i
def RdL (M : Mut) (w : World) : List D → List Value → Prop
  | [], us => us = []
  | d :: ds, us => ∃ u us', us = u :: us' ∧ Rd M w d u ∧ RdL M w ds us'
/-- single cells in a row from a place on -/
def RdC (M : Mut) (w : World) : List D → Addr → Nat → Prop
  | [], _, _ => True
  | d :: ds, p, i => (d.cell = true ∧ ∃ u, w.cell? (p.add i) = some u ∧ ¬ M (p.add i).block (p.add i).off ∧ Rd M w d u) ∧ RdC M w ds p (i + 1)
/-- elements of n cells each in a row from a place on -/
def RdE (M : Mut) (w : World) (n : Nat) : List D → Addr → Nat → Prop
  | [], _, _ => True
  | .st cs :: ds, p, i => (cs.length = n ∧ RdC M w cs p i) ∧ RdE M w n ds p (i + n)
  | d :: ds, p, i => (1 = n ∧ (d.cell = true ∧ ∃ u, w.cell? (p.add i) = some u ∧ ¬ M (p.add i).block (p.add i).off ∧ Rd M w d u) ∧ True) ∧ RdE M w n ds p (i + n)
end
def RdX (M : Mut) (w : World) (n : Nat) (d : D) (p : Addr) (i : Nat) : Prop := d.cells.length = n ∧ RdC M w d.cells p i

theorem RdX_iff (M : Mut) (w : World) (n : Nat) (d : D) (p : Addr) (i : Nat) : RdX M w n d p i ↔ d.cells.length = n ∧ RdC M w d.cells p i := Iff.rfl
theorem RdE_cons (M : Mut) (w : World) (n : Nat) (d : D) (ds : List D) (p : Addr) (i : Nat) : RdE M w n (d :: ds) p i ↔ RdX M w n d p i ∧ RdE M w n ds p (i + n) := by
  cases d <;> simp only [RdE, RdX, D.cells, RdC, List.length_cons, List.length_nil, Nat.zero_add]

/-- What carries a reading from one world to the next. -/
structure Keep (M M' : Mut) (w w' : World) : Prop where
  cell : ∀ b o v, w.cell? ⟨b, o, none⟩ = some v → ¬ M b o → w'.cell? ⟨b, o, none⟩ = some v
  free : ∀ b o, b < w.heap.size → ¬ M b o → ¬ M' b o
  block : ∀ b, b < w.heap.size → (∀ i, ¬ M b i) → w'.heap[b]? = w.heap[b]?

theorem cell_spot {w : World} {a : Addr} {v : Value} (h : w.cell? a = some v) : a = ⟨a.block, a.off, none⟩ := by
  obtain ⟨b, o, s⟩ := a
  cases s with
  | none => rfl
  | some s =>
    simp only [World.cell?] at h
    split at h <;> simp at h

theorem cell_lt {w : World} {a : Addr} {v : Value} (h : w.cell? a = some v) : a.block < w.heap.size := World.block_lt_of_cell? w a h

theorem Keep.at_ {M M' : Mut} {w w' : World} (k : Keep M M' w w') {a : Addr} {v : Value} (h : w.cell? a = some v) (hm : ¬ M a.block a.off) :
    w'.cell? a = some v ∧ ¬ M' a.block a.off := by
  have e := cell_spot h
  refine ⟨?_, k.free _ _ (cell_lt h) hm⟩
  rw [e] at h ⊢
  exact k.cell _ _ _ h hm

mutual
theorem Rd.keep {M M' : Mut} {w w' : World} (k : Keep M M' w w') : ∀ (d : D) (u : Value), Rd M w d u → Rd M' w' d u
  | .v x, u, h => by simpa only [Rd] using h
  | .s l, u, h => by simpa only [Rd] using h
  | .sl n xs, u, h => by
    simp only [Rd] at h ⊢
    obtain ⟨a, len, cap, e, h1, h2, h3, h4⟩ := h
    exact ⟨a, len, cap, e, h1, h2, h3, fun p hp => RdE.keep k n xs p 0 (h4 p hp)⟩
  | .st cs, u, h => by
    simp only [Rd] at h ⊢
    obtain ⟨us, e, h⟩ := h
    exact ⟨us, e, RdL.keep k cs us h⟩
  | .ptr cs, u, h => by
    simp only [Rd] at h ⊢
    obtain ⟨p, e, h⟩ := h
    exact ⟨p, e, RdC.keep k cs p 0 h⟩
  | .ifc t x, u, h => by
    simp only [Rd] at h ⊢
    obtain ⟨y, e, h⟩ := h
    exact ⟨y, e, Rd.keep k x y h⟩
  | .fn f as bs, u, h => by
    simp only [Rd] at h ⊢
    obtain ⟨xs, ys, e, h1, h2⟩ := h
    exact ⟨xs, ys, e, RdL.keep k as xs h1, RdL.keep k bs ys h2⟩
  | .at p o, u, h => by
    simp only [Rd] at h ⊢
    obtain ⟨e, h1, h2⟩ := h
    have hlt : p.block < w.heap.size := (Array.getElem?_eq_some_iff.1 h1).1
    exact ⟨e, (k.block _ hlt h2).trans h1, fun i => k.free _ _ hlt (h2 i)⟩
theorem RdL.keep {M M' : Mut} {w w' : World} (k : Keep M M' w w') : ∀ (ds : List D) (us : List Value), RdL M w ds us → RdL M' w' ds us
  | [], us, h => by simpa only [RdL] using h
  | d :: ds, us, h => by
    simp only [RdL] at h ⊢
    obtain ⟨u, us', e, h1, h2⟩ := h
    exact ⟨u, us', e, Rd.keep k d u h1, RdL.keep k ds us' h2⟩
theorem RdC.keep {M M' : Mut} {w w' : World} (k : Keep M M' w w') : ∀ (ds : List D) (p : Addr) (i : Nat), RdC M w ds p i → RdC M' w' ds p i
  | [], p, i, h => by simp only [RdC]
  | d :: ds, p, i, h => by
    simp only [RdC] at h ⊢
    obtain ⟨⟨hq, u, hc, hm, hr⟩, h2⟩ := h
    obtain ⟨hc', hm'⟩ := k.at_ hc hm
    exact ⟨⟨hq, u, hc', hm', Rd.keep k d u hr⟩, RdC.keep k ds p (i + 1) h2⟩
theorem RdE.keep {M M' : Mut} {w w' : World} (k : Keep M M' w w') (n : Nat) : ∀ (ds : List D) (p : Addr) (i : Nat), RdE M w n ds p i → RdE M' w' n ds p i
  | [], p, i, h => by simp only [RdE]
  | .st cs :: ds, p, i, h => by
    simp only [RdE] at h ⊢
    exact ⟨⟨h.1.1, RdC.keep k cs p i h.1.2⟩, RdE.keep k n ds p (i + n) h.2⟩
  | .v x :: ds, p, i, h => by
    simp only [RdE] at h ⊢
    obtain ⟨⟨h1, ⟨hq, u, hc, hm, hr⟩, _⟩, h2⟩ := h
    obtain ⟨hc', hm'⟩ := k.at_ hc hm
    exact ⟨⟨h1, ⟨hq, u, hc', hm', Rd.keep k _ u hr⟩, trivial⟩, RdE.keep k n ds p (i + n) h2⟩
  | .s l :: ds, p, i, h => by
    simp only [RdE] at h ⊢
    obtain ⟨⟨h1, ⟨hq, u, hc, hm, hr⟩, _⟩, h2⟩ := h
    obtain ⟨hc', hm'⟩ := k.at_ hc hm
    exact ⟨⟨h1, ⟨hq, u, hc', hm', Rd.keep k _ u hr⟩, trivial⟩, RdE.keep k n ds p (i + n) h2⟩
  | .sl m xs :: ds, p, i, h => by
    simp only [RdE] at h ⊢
    obtain ⟨⟨h1, ⟨hq, u, hc, hm, hr⟩, _⟩, h2⟩ := h
    obtain ⟨hc', hm'⟩ := k.at_ hc hm
    exact ⟨⟨h1, ⟨hq, u, hc', hm', Rd.keep k (.sl m xs) u hr⟩, trivial⟩, RdE.keep k n ds p (i + n) h2⟩
  | .ptr cs :: ds, p, i, h => by
    simp only [RdE] at h ⊢
    obtain ⟨⟨h1, ⟨hq, u, hc, hm, hr⟩, _⟩, h2⟩ := h
    obtain ⟨hc', hm'⟩ := k.at_ hc hm
    exact ⟨⟨h1, ⟨hq, u, hc', hm', Rd.keep k (.ptr cs) u hr⟩, trivial⟩, RdE.keep k n ds p (i + n) h2⟩
  | .ifc t x :: ds, p, i, h => by
    simp only [RdE] at h ⊢
    obtain ⟨⟨h1, ⟨hq, u, hc, hm, hr⟩, _⟩, h2⟩ := h
    obtain ⟨hc', hm'⟩ := k.at_ hc hm
    exact ⟨⟨h1, ⟨hq, u, hc', hm', Rd.keep k (.ifc t x) u hr⟩, trivial⟩, RdE.keep k n ds p (i + n) h2⟩
  | .fn f as bs :: ds, p, i, h => by
    simp only [RdE] at h ⊢
    obtain ⟨⟨h1, ⟨hq, u, hc, hm, hr⟩, _⟩, h2⟩ := h
    obtain ⟨hc', hm'⟩ := k.at_ hc hm
    exact ⟨⟨h1, ⟨hq, u, hc', hm', Rd.keep k (.fn f as bs) u hr⟩, trivial⟩, RdE.keep k n ds p (i + n) h2⟩
  | .at q o :: ds, p, i, h => by
    simp only [RdE] at h ⊢
    obtain ⟨⟨h1, ⟨hq, u, hc, hm, hr⟩, _⟩, h2⟩ := h
    obtain ⟨hc', hm'⟩ := k.at_ hc hm
    exact ⟨⟨h1, ⟨hq, u, hc', hm', Rd.keep k (.at q o) u hr⟩, trivial⟩, RdE.keep k n ds p (i + n) h2⟩
end

/-! ### rows -/
theorem Addr.add_add (a : Addr) (i j : Nat) : (a.add i).add j = a.add (i + j) := by
  unfold Addr.add
  by_cases hi : i = 0
  · simp [hi]
  · by_cases hj : j = 0
    · simp [hj]
    · have : i + j ≠ 0 := by omega
      simp [hi, hj, Nat.add_assoc]

theorem RdC_shift (M : Mut) (w : World) : ∀ (ds : List D) (p : Addr) (i j : Nat), RdC M w ds (p.add i) j ↔ RdC M w ds p (i + j)
  | [], p, i, j => by simp [RdC]
  | d :: ds, p, i, j => by
    simp only [RdC, Addr.add_add]
    rw [RdC_shift M w ds p i (j + 1)]
    rfl

theorem RdC_append (M : Mut) (w : World) : ∀ (xs ys : List D) (p : Addr) (i : Nat), RdC M w (xs ++ ys) p i ↔ RdC M w xs p i ∧ RdC M w ys p (i + xs.length)
  | [], ys, p, i => by simp [RdC]
  | x :: xs, ys, p, i => by
    simp only [List.cons_append, RdC, List.length_cons]
    rw [RdC_append M w xs ys p (i + 1), show i + 1 + xs.length = i + (xs.length + 1) from by omega]
    exact and_assoc.symm

theorem RdE_append (M : Mut) (w : World) (n : Nat) : ∀ (xs ys : List D) (p : Addr) (i : Nat), RdE M w n (xs ++ ys) p i ↔ RdE M w n xs p i ∧ RdE M w n ys p (i + xs.length * n)
  | [], ys, p, i => by simp [RdE]
  | x :: xs, ys, p, i => by
    simp only [List.cons_append, RdE_cons, List.length_cons]
    rw [RdE_append M w n xs ys p (i + n), show i + n + xs.length * n = i + (xs.length + 1) * n from by rw [Nat.add_mul]; omega, and_assoc]

theorem RdE_shift (M : Mut) (w : World) (n : Nat) : ∀ (ds : List D) (p : Addr) (i j : Nat), RdE M w n ds (p.add i) j ↔ RdE M w n ds p (i + j)
  | [], p, i, j => by simp [RdE]
  | d :: ds, p, i, j => by
    simp only [RdE_cons, RdX_iff, RdC_shift]
    rw [RdE_shift M w n ds p i (j + n), Nat.add_assoc]

theorem RdE_get (M : Mut) (w : World) (n : Nat) : ∀ (xs : List D) (p : Addr) (i j : Nat) (x : D), RdE M w n xs p i → xs[j]? = some x → RdX M w n x p (i + j * n)
  | [], p, i, j, x, _, h => by simp at h
  | y :: xs, p, i, 0, x, h, e => by
    simp at e
    subst e
    simpa using ((RdE_cons ..).1 h).1
  | y :: xs, p, i, j + 1, x, h, e => by
    have := RdE_get M w n xs p (i + n) j x ((RdE_cons ..).1 h).2 (by simpa using e)
    rwa [show i + n + j * n = i + (j + 1) * n from by rw [Nat.add_mul]; omega] at this

theorem RdE_take (M : Mut) (w : World) (n : Nat) (xs : List D) (p : Addr) (i k : Nat) (h : RdE M w n xs p i) : RdE M w n (xs.take k) p i := by
  rw [← List.take_append_drop k xs, RdE_append] at h
  exact h.1
theorem RdE_drop (M : Mut) (w : World) (n : Nat) (xs : List D) (p : Addr) (i k : Nat) (hk : k ≤ xs.length) (h : RdE M w n xs p i) : RdE M w n (xs.drop k) p (i + k * n) := by
  rw [← List.take_append_drop k xs, RdE_append] at h
  simpa [Nat.min_eq_left hk] using h.2
theorem RdC_take (M : Mut) (w : World) (xs : List D) (p : Addr) (i k : Nat) (h : RdC M w xs p i) : RdC M w (xs.take k) p i := by
  rw [← List.take_append_drop k xs, RdC_append] at h
  exact h.1
theorem RdC_drop (M : Mut) (w : World) (xs : List D) (p : Addr) (i k : Nat) (hk : k ≤ xs.length) (h : RdC M w xs p i) : RdC M w (xs.drop k) p (i + k) := by
  rw [← List.take_append_drop k xs, RdC_append] at h
  simpa [Nat.min_eq_left hk] using h.2

/-- The elements' cells, one behind the other. -/
def flat (xs : List D) : List D := xs.flatMap D.cells
theorem RdE_flat (M : Mut) (w : World) (n : Nat) : ∀ (xs : List D) (p : Addr) (i : Nat), RdE M w n xs p i ↔ (∀ x ∈ xs, x.cells.length = n) ∧ RdC M w (flat xs) p i
  | [], p, i => by simp [RdE, flat, RdC]
  | x :: xs, p, i => by
    have ih := RdE_flat M w n xs p (i + n)
    simp only [RdE_cons, RdX_iff, flat, List.flatMap_cons, RdC_append, List.mem_cons, forall_eq_or_imp, ih]
    constructor
    · rintro ⟨⟨h1, h2⟩, h3, h4⟩
      exact ⟨⟨h1, h3⟩, h2, by rw [h1]; exact h4⟩
    · rintro ⟨⟨h1, h3⟩, h2, h4⟩
      exact ⟨⟨h1, h2⟩, h3, by rw [h1] at h4; exact h4⟩
theorem flat_length (n : Nat) : ∀ (xs : List D), (∀ x ∈ xs, x.cells.length = n) → (flat xs).length = xs.length * n
  | [], _ => by simp [flat]
  | x :: xs, h => by
    have := flat_length n xs fun y hy => h y (by simp [hy])
    simp only [flat] at this
    simp only [flat, List.flatMap_cons, List.length_append, this, List.length_cons, Nat.add_mul, Nat.one_mul]
    rw [h x (by simp)]
    omega
theorem flat_append (xs ys : List D) : flat (xs ++ ys) = flat xs ++ flat ys := by simp [flat]

/-- cells in a row: their values -/
theorem RdC_vals (M : Mut) (w : World) : ∀ (ds : List D) (p : Addr) (i : Nat), RdC M w ds p i → ∃ us : List Value, RdL M w ds us ∧ us.length = ds.length ∧ ∀ (j : Nat) (u : Value), us[j]? = some u → w.cell? (p.add (i + j)) = some u
  | [], p, i, _ => ⟨[], by simp [RdL], rfl, by simp⟩
  | d :: ds, p, i, h => by
    simp only [RdC] at h
    obtain ⟨⟨hq, u, hc, hm, hr⟩, h2⟩ := h
    obtain ⟨us, h3, h4, h5⟩ := RdC_vals M w ds p (i + 1) h2
    refine ⟨u :: us, by simp only [RdL]; exact ⟨u, us, rfl, hr, h3⟩, by simp [h4], fun j v hv => ?_⟩
    cases j with
    | zero => simp at hv; subst hv; simpa using hc
    | succ j => rw [show i + (j + 1) = i + 1 + j from by omega]; exact h5 j v (by simpa using hv)

theorem RdC_cell (M : Mut) (w : World) : ∀ (ds : List D) (p : Addr) (i : Nat), RdC M w ds p i → ∀ d ∈ ds, d.cell = true
  | [], p, i, _, d, hd => by simp at hd
  | e :: ds, p, i, h, d, hd => by
    simp only [RdC] at h
    rcases List.mem_cons.1 hd with rfl | hd
    · exact h.1.1
    · exact RdC_cell M w ds p (i + 1) h.2 d hd
theorem RdL_length {M : Mut} {w : World} : ∀ {ds : List D} {us : List Value}, RdL M w ds us → us.length = ds.length
  | [], us, h => by simp [RdL] at h; simp [h]
  | d :: ds, us, h => by
    simp only [RdL] at h
    obtain ⟨u, us', rfl, _, h⟩ := h
    simp [RdL_length h]
theorem RdL_append {M : Mut} {w : World} : ∀ {as bs : List D} {us vs : List Value}, RdL M w as us → RdL M w bs vs → RdL M w (as ++ bs) (us ++ vs)
  | [], bs, us, vs, h, k => by simp only [RdL] at h; subst h; simpa using k
  | d :: as, bs, us, vs, h, k => by
    simp only [RdL] at h
    obtain ⟨u, us', rfl, h1, h⟩ := h
    simp only [List.cons_append, RdL]
    exact ⟨u, us' ++ vs, rfl, h1, RdL_append h k⟩
theorem RdL_get {M : Mut} {w : World} : ∀ {ds : List D} {us : List Value} {i : Nat} {d : D}, RdL M w ds us → ds[i]? = some d → ∃ u, us[i]? = some u ∧ Rd M w d u
  | [], us, i, d, _, h => by simp at h
  | x :: ds, us, i, d, h, e => by
    simp only [RdL] at h
    obtain ⟨u, us', rfl, h1, h2⟩ := h
    cases i with
    | zero => simp at e; subst e; exact ⟨u, by simp, h1⟩
    | succ i =>
      obtain ⟨v, hv, hr⟩ := RdL_get (i := i) h2 (by simpa using e)
      exact ⟨v, by simpa using hv, hr⟩
theorem RdL_iff {M : Mut} {w : World} : ∀ {ds : List D} {us : List Value}, RdL M w ds us ↔ us.length = ds.length ∧ ∀ (i : Nat) (d : D) (u : Value), ds[i]? = some d → us[i]? = some u → Rd M w d u
  | [], us => by simp [RdL]
  | x :: ds, [] => by simp [RdL]
  | x :: ds, u :: us => by
    simp only [RdL, RdL_iff (ds := ds)]
    constructor
    · rintro ⟨u', us', e, h1, h2, h3⟩
      injection e with e1 e2
      subst e1 e2
      refine ⟨by simp [h2], fun i d v hd hv => ?_⟩
      cases i with
      | zero => simp at hd hv; subst hd hv; exact h1
      | succ i => exact h3 i d v (by simpa using hd) (by simpa using hv)
    · rintro ⟨h1, h2⟩
      exact ⟨u, us, rfl, h2 0 x u (by simp) (by simp), by simpa using h1, fun i d v hd hv => h2 (i + 1) d v (by simpa using hd) (by simpa using hv)⟩

end Go.Ab
