/- One text of a proof that a law of this seat says true for every input: an evaluator of code over data, and that it tells the truth. It holds of the given program under the conditions that the row prints. -/
import Derived.Calls
import Derived.Orders
import Derived.Below
import Derived.LoopN
import Derived.Laws.World
import Derived.Laws.Sem
import Derived.MapKept
import Derived.Laws.StructEq
set_option linter.unusedSimpArgs false
set_option linter.unusedVariables false
set_option linter.unusedSectionVars false
namespace Go.Ab

/-- A datum: what an immutable value reads as. -/
inductive D where
  | v (x : Value)
  | s (l : List UInt8)
  | sl (n : Nat) (xs : List D)
  | st (cs : List D)
  | ptr (cs : List D)
  | ifc (t : TypeId) (x : D)
  | fn (f : Fn) (first cap : List D)
  /-- a pointer into a block that stands as it stood -/
  | at (p : Addr) (o : Obj)
  /-- a value beside a block that stands as it stood -/
  | wh (x : Value) (b : Nat) (o : Obj)

/-- The cells of a datum. -/
def D.cells : D → List D
  | .st cs => cs
  | d => [d]

/-- May it lie in one cell? -/
def D.cell : D → Bool
  | .st _ | .v (.agg _) | .v (.tuple _) | .wh (.agg _) _ _ | .wh (.tuple _) _ _ => false
  | _ => true

/-- Which cells may be written. -/
abbrev Mut := Nat → Nat → Prop

mutual
def Rd (M : Mut) (w : World) : D → Value → Prop
  | .v x, u => u = x
  | .s l, u => u = .string ⟨l.toArray⟩
  | .sl n xs, u => ∃ a len cap, u = .slice a len cap ∧ xs.length = len ∧ len ≤ cap ∧ (a = none → cap = 0) ∧ ∀ p, a = some p → RdE M w n xs p 0
  | .st cs, u => ∃ us : List Value, u = .agg us.toArray ∧ RdL M w cs us
  | .ptr cs, u => ∃ p, u = .pointer (some p) ∧ RdC M w cs p 0
  | .ifc t x, u => ∃ y, u = .iface t y ∧ Rd M w x y
  | .fn f as bs, u => ∃ xs ys : List Value, u = .func f xs.toArray ys.toArray ∧ RdL M w as xs ∧ RdL M w bs ys
  | .at p o, u => u = .pointer (some p) ∧ w.heap[p.block]? = some o ∧ ∀ i, ¬ M p.block i
  | .wh x b o, u => u = x ∧ w.heap[b]? = some o ∧ ∀ i, ¬ M b i
def RdL (M : Mut) (w : World) : List D → List Value → Prop
  | [], us => us = []
  | d :: ds, us => ∃ u us', us = u :: us' ∧ Rd M w d u ∧ RdL M w ds us'
/-- single cells in a row from a place on -/
def RdC (M : Mut) (w : World) : List D → Addr → Nat → Prop
  | [], _, _ => True
  | d :: ds, p, i => (d.cell = true ∧ ∃ u, w.cell? (p.add i) = some u ∧ ¬ M (p.add i).block (p.add i).off ∧ Rd M w d u) ∧ RdC M w ds p (i + 1)
/-- elements of n cells each in a row from a place on -/
def RdE (M : Mut) (w : World) (n : Nat) : List D → Addr → Nat → Prop
  | [], _, _ => True
  | .st cs :: ds, p, i => (cs.length = n ∧ RdC M w cs p i) ∧ RdE M w n ds p (i + n)
  | d :: ds, p, i => (1 = n ∧ (d.cell = true ∧ ∃ u, w.cell? (p.add i) = some u ∧ ¬ M (p.add i).block (p.add i).off ∧ Rd M w d u) ∧ True) ∧ RdE M w n ds p (i + n)
end
def RdX (M : Mut) (w : World) (n : Nat) (d : D) (p : Addr) (i : Nat) : Prop := d.cells.length = n ∧ RdC M w d.cells p i

theorem RdX_iff (M : Mut) (w : World) (n : Nat) (d : D) (p : Addr) (i : Nat) : RdX M w n d p i ↔ d.cells.length = n ∧ RdC M w d.cells p i := Iff.rfl
theorem RdE_cons (M : Mut) (w : World) (n : Nat) (d : D) (ds : List D) (p : Addr) (i : Nat) : RdE M w n (d :: ds) p i ↔ RdX M w n d p i ∧ RdE M w n ds p (i + n) := by
  cases d <;> simp only [RdE, RdX, D.cells, RdC, List.length_cons, List.length_nil, Nat.zero_add]

/-- What carries a reading from one world to the next. -/
structure Keep (M M' : Mut) (w w' : World) : Prop where
  cell : ∀ b o v, w.cell? ⟨b, o, none⟩ = some v → ¬ M b o → w'.cell? ⟨b, o, none⟩ = some v
  free : ∀ b o, b < w.heap.size → ¬ M b o → ¬ M' b o
  block : ∀ b, b < w.heap.size → (∀ i, ¬ M b i) → w'.heap[b]? = w.heap[b]?

theorem cell_spot {w : World} {a : Addr} {v : Value} (h : w.cell? a = some v) : a = ⟨a.block, a.off, none⟩ := by
  obtain ⟨b, o, s⟩ := a
  cases s with
  | none => rfl
  | some s =>
    simp only [World.cell?] at h
    split at h <;> simp at h

theorem cell_lt {w : World} {a : Addr} {v : Value} (h : w.cell? a = some v) : a.block < w.heap.size := World.block_lt_of_cell? w a h

theorem Keep.at_ {M M' : Mut} {w w' : World} (k : Keep M M' w w') {a : Addr} {v : Value} (h : w.cell? a = some v) (hm : ¬ M a.block a.off) :
    w'.cell? a = some v ∧ ¬ M' a.block a.off := by
  have e := cell_spot h
  refine ⟨?_, k.free _ _ (cell_lt h) hm⟩
  rw [e] at h ⊢
  exact k.cell _ _ _ h hm

mutual
theorem Rd.keep {M M' : Mut} {w w' : World} (k : Keep M M' w w') : ∀ (d : D) (u : Value), Rd M w d u → Rd M' w' d u
  | .v x, u, h => by simpa only [Rd] using h
  | .s l, u, h => by simpa only [Rd] using h
  | .sl n xs, u, h => by
    simp only [Rd] at h ⊢
    obtain ⟨a, len, cap, e, h1, h2, h3, h4⟩ := h
    exact ⟨a, len, cap, e, h1, h2, h3, fun p hp => RdE.keep k n xs p 0 (h4 p hp)⟩
  | .st cs, u, h => by
    simp only [Rd] at h ⊢
    obtain ⟨us, e, h⟩ := h
    exact ⟨us, e, RdL.keep k cs us h⟩
  | .ptr cs, u, h => by
    simp only [Rd] at h ⊢
    obtain ⟨p, e, h⟩ := h
    exact ⟨p, e, RdC.keep k cs p 0 h⟩
  | .ifc t x, u, h => by
    simp only [Rd] at h ⊢
    obtain ⟨y, e, h⟩ := h
    exact ⟨y, e, Rd.keep k x y h⟩
  | .fn f as bs, u, h => by
    simp only [Rd] at h ⊢
    obtain ⟨xs, ys, e, h1, h2⟩ := h
    exact ⟨xs, ys, e, RdL.keep k as xs h1, RdL.keep k bs ys h2⟩
  | .at p o, u, h => by
    simp only [Rd] at h ⊢
    obtain ⟨e, h1, h2⟩ := h
    have hlt : p.block < w.heap.size := (Array.getElem?_eq_some_iff.1 h1).1
    exact ⟨e, (k.block _ hlt h2).trans h1, fun i => k.free _ _ hlt (h2 i)⟩
  | .wh x b o, u, h => by
    simp only [Rd] at h ⊢
    obtain ⟨e, h1, h2⟩ := h
    have hlt : b < w.heap.size := (Array.getElem?_eq_some_iff.1 h1).1
    exact ⟨e, (k.block _ hlt h2).trans h1, fun i => k.free _ _ hlt (h2 i)⟩
theorem RdL.keep {M M' : Mut} {w w' : World} (k : Keep M M' w w') : ∀ (ds : List D) (us : List Value), RdL M w ds us → RdL M' w' ds us
  | [], us, h => by simpa only [RdL] using h
  | d :: ds, us, h => by
    simp only [RdL] at h ⊢
    obtain ⟨u, us', e, h1, h2⟩ := h
    exact ⟨u, us', e, Rd.keep k d u h1, RdL.keep k ds us' h2⟩
theorem RdC.keep {M M' : Mut} {w w' : World} (k : Keep M M' w w') : ∀ (ds : List D) (p : Addr) (i : Nat), RdC M w ds p i → RdC M' w' ds p i
  | [], p, i, h => by simp only [RdC]
  | d :: ds, p, i, h => by
    simp only [RdC] at h ⊢
    obtain ⟨⟨hq, u, hc, hm, hr⟩, h2⟩ := h
    obtain ⟨hc', hm'⟩ := k.at_ hc hm
    exact ⟨⟨hq, u, hc', hm', Rd.keep k d u hr⟩, RdC.keep k ds p (i + 1) h2⟩
theorem RdE.keep {M M' : Mut} {w w' : World} (k : Keep M M' w w') (n : Nat) : ∀ (ds : List D) (p : Addr) (i : Nat), RdE M w n ds p i → RdE M' w' n ds p i
  | [], p, i, h => by simp only [RdE]
  | .st cs :: ds, p, i, h => by
    simp only [RdE] at h ⊢
    exact ⟨⟨h.1.1, RdC.keep k cs p i h.1.2⟩, RdE.keep k n ds p (i + n) h.2⟩
  | .v x :: ds, p, i, h => by
    simp only [RdE] at h ⊢
    obtain ⟨⟨h1, ⟨hq, u, hc, hm, hr⟩, _⟩, h2⟩ := h
    obtain ⟨hc', hm'⟩ := k.at_ hc hm
    exact ⟨⟨h1, ⟨hq, u, hc', hm', Rd.keep k _ u hr⟩, trivial⟩, RdE.keep k n ds p (i + n) h2⟩
  | .s l :: ds, p, i, h => by
    simp only [RdE] at h ⊢
    obtain ⟨⟨h1, ⟨hq, u, hc, hm, hr⟩, _⟩, h2⟩ := h
    obtain ⟨hc', hm'⟩ := k.at_ hc hm
    exact ⟨⟨h1, ⟨hq, u, hc', hm', Rd.keep k _ u hr⟩, trivial⟩, RdE.keep k n ds p (i + n) h2⟩
  | .sl m xs :: ds, p, i, h => by
    simp only [RdE] at h ⊢
    obtain ⟨⟨h1, ⟨hq, u, hc, hm, hr⟩, _⟩, h2⟩ := h
    obtain ⟨hc', hm'⟩ := k.at_ hc hm
    exact ⟨⟨h1, ⟨hq, u, hc', hm', Rd.keep k (.sl m xs) u hr⟩, trivial⟩, RdE.keep k n ds p (i + n) h2⟩
  | .ptr cs :: ds, p, i, h => by
    simp only [RdE] at h ⊢
    obtain ⟨⟨h1, ⟨hq, u, hc, hm, hr⟩, _⟩, h2⟩ := h
    obtain ⟨hc', hm'⟩ := k.at_ hc hm
    exact ⟨⟨h1, ⟨hq, u, hc', hm', Rd.keep k (.ptr cs) u hr⟩, trivial⟩, RdE.keep k n ds p (i + n) h2⟩
  | .ifc t x :: ds, p, i, h => by
    simp only [RdE] at h ⊢
    obtain ⟨⟨h1, ⟨hq, u, hc, hm, hr⟩, _⟩, h2⟩ := h
    obtain ⟨hc', hm'⟩ := k.at_ hc hm
    exact ⟨⟨h1, ⟨hq, u, hc', hm', Rd.keep k (.ifc t x) u hr⟩, trivial⟩, RdE.keep k n ds p (i + n) h2⟩
  | .fn f as bs :: ds, p, i, h => by
    simp only [RdE] at h ⊢
    obtain ⟨⟨h1, ⟨hq, u, hc, hm, hr⟩, _⟩, h2⟩ := h
    obtain ⟨hc', hm'⟩ := k.at_ hc hm
    exact ⟨⟨h1, ⟨hq, u, hc', hm', Rd.keep k (.fn f as bs) u hr⟩, trivial⟩, RdE.keep k n ds p (i + n) h2⟩
  | .at q o :: ds, p, i, h => by
    simp only [RdE] at h ⊢
    obtain ⟨⟨h1, ⟨hq, u, hc, hm, hr⟩, _⟩, h2⟩ := h
    obtain ⟨hc', hm'⟩ := k.at_ hc hm
    exact ⟨⟨h1, ⟨hq, u, hc', hm', Rd.keep k (.at q o) u hr⟩, trivial⟩, RdE.keep k n ds p (i + n) h2⟩
  | .wh x b o :: ds, p, i, h => by
    simp only [RdE] at h ⊢
    obtain ⟨⟨h1, ⟨hq, u, hc, hm, hr⟩, _⟩, h2⟩ := h
    obtain ⟨hc', hm'⟩ := k.at_ hc hm
    exact ⟨⟨h1, ⟨hq, u, hc', hm', Rd.keep k (.wh x b o) u hr⟩, trivial⟩, RdE.keep k n ds p (i + n) h2⟩
end

/-! ### rows -/
theorem Addr.add_add (a : Addr) (i j : Nat) : (a.add i).add j = a.add (i + j) := by
  unfold Addr.add
  by_cases hi : i = 0
  · simp [hi]
  · by_cases hj : j = 0
    · simp [hj]
    · have : i + j ≠ 0 := by omega
      simp [hi, hj, Nat.add_assoc]

theorem RdC_shift (M : Mut) (w : World) : ∀ (ds : List D) (p : Addr) (i j : Nat), RdC M w ds (p.add i) j ↔ RdC M w ds p (i + j)
  | [], p, i, j => by simp [RdC]
  | d :: ds, p, i, j => by
    simp only [RdC, Addr.add_add]
    rw [RdC_shift M w ds p i (j + 1)]
    rfl

theorem RdC_append (M : Mut) (w : World) : ∀ (xs ys : List D) (p : Addr) (i : Nat), RdC M w (xs ++ ys) p i ↔ RdC M w xs p i ∧ RdC M w ys p (i + xs.length)
  | [], ys, p, i => by simp [RdC]
  | x :: xs, ys, p, i => by
    simp only [List.cons_append, RdC, List.length_cons]
    rw [RdC_append M w xs ys p (i + 1), show i + 1 + xs.length = i + (xs.length + 1) from by omega]
    exact and_assoc.symm

theorem RdE_append (M : Mut) (w : World) (n : Nat) : ∀ (xs ys : List D) (p : Addr) (i : Nat), RdE M w n (xs ++ ys) p i ↔ RdE M w n xs p i ∧ RdE M w n ys p (i + xs.length * n)
  | [], ys, p, i => by simp [RdE]
  | x :: xs, ys, p, i => by
    simp only [List.cons_append, RdE_cons, List.length_cons]
    rw [RdE_append M w n xs ys p (i + n), show i + n + xs.length * n = i + (xs.length + 1) * n from by rw [Nat.add_mul]; omega, and_assoc]

theorem RdE_shift (M : Mut) (w : World) (n : Nat) : ∀ (ds : List D) (p : Addr) (i j : Nat), RdE M w n ds (p.add i) j ↔ RdE M w n ds p (i + j)
  | [], p, i, j => by simp [RdE]
  | d :: ds, p, i, j => by
    simp only [RdE_cons, RdX_iff, RdC_shift]
    rw [RdE_shift M w n ds p i (j + n), Nat.add_assoc]

theorem RdE_get (M : Mut) (w : World) (n : Nat) : ∀ (xs : List D) (p : Addr) (i j : Nat) (x : D), RdE M w n xs p i → xs[j]? = some x → RdX M w n x p (i + j * n)
  | [], p, i, j, x, _, h => by simp at h
  | y :: xs, p, i, 0, x, h, e => by
    simp at e
    subst e
    simpa using ((RdE_cons ..).1 h).1
  | y :: xs, p, i, j + 1, x, h, e => by
    have := RdE_get M w n xs p (i + n) j x ((RdE_cons ..).1 h).2 (by simpa using e)
    rwa [show i + n + j * n = i + (j + 1) * n from by rw [Nat.add_mul]; omega] at this

theorem RdE_take (M : Mut) (w : World) (n : Nat) (xs : List D) (p : Addr) (i k : Nat) (h : RdE M w n xs p i) : RdE M w n (xs.take k) p i := by
  rw [← List.take_append_drop k xs, RdE_append] at h
  exact h.1
theorem RdE_drop (M : Mut) (w : World) (n : Nat) (xs : List D) (p : Addr) (i k : Nat) (hk : k ≤ xs.length) (h : RdE M w n xs p i) : RdE M w n (xs.drop k) p (i + k * n) := by
  rw [← List.take_append_drop k xs, RdE_append] at h
  simpa [Nat.min_eq_left hk] using h.2
theorem RdC_take (M : Mut) (w : World) (xs : List D) (p : Addr) (i k : Nat) (h : RdC M w xs p i) : RdC M w (xs.take k) p i := by
  rw [← List.take_append_drop k xs, RdC_append] at h
  exact h.1
theorem RdC_drop (M : Mut) (w : World) (xs : List D) (p : Addr) (i k : Nat) (hk : k ≤ xs.length) (h : RdC M w xs p i) : RdC M w (xs.drop k) p (i + k) := by
  rw [← List.take_append_drop k xs, RdC_append] at h
  simpa [Nat.min_eq_left hk] using h.2

/-- The elements' cells, one behind the other. -/
def flat (xs : List D) : List D := xs.flatMap D.cells
theorem RdE_flat (M : Mut) (w : World) (n : Nat) : ∀ (xs : List D) (p : Addr) (i : Nat), RdE M w n xs p i ↔ (∀ x ∈ xs, x.cells.length = n) ∧ RdC M w (flat xs) p i
  | [], p, i => by simp [RdE, flat, RdC]
  | x :: xs, p, i => by
    have ih := RdE_flat M w n xs p (i + n)
    simp only [RdE_cons, RdX_iff, flat, List.flatMap_cons, RdC_append, List.mem_cons, forall_eq_or_imp, ih]
    constructor
    · rintro ⟨⟨h1, h2⟩, h3, h4⟩
      exact ⟨⟨h1, h3⟩, h2, by rw [h1]; exact h4⟩
    · rintro ⟨⟨h1, h3⟩, h2, h4⟩
      exact ⟨⟨h1, h2⟩, h3, by rw [h1] at h4; exact h4⟩
theorem flat_length (n : Nat) : ∀ (xs : List D), (∀ x ∈ xs, x.cells.length = n) → (flat xs).length = xs.length * n
  | [], _ => by simp [flat]
  | x :: xs, h => by
    have := flat_length n xs fun y hy => h y (by simp [hy])
    simp only [flat] at this
    simp only [flat, List.flatMap_cons, List.length_append, this, List.length_cons, Nat.add_mul, Nat.one_mul]
    rw [h x (by simp)]
    omega
theorem flat_append (xs ys : List D) : flat (xs ++ ys) = flat xs ++ flat ys := by simp [flat]

/-- cells in a row: their values -/
theorem RdC_vals (M : Mut) (w : World) : ∀ (ds : List D) (p : Addr) (i : Nat), RdC M w ds p i → ∃ us : List Value, RdL M w ds us ∧ us.length = ds.length ∧ ∀ (j : Nat) (u : Value), us[j]? = some u → w.cell? (p.add (i + j)) = some u
  | [], p, i, _ => ⟨[], by simp [RdL], rfl, by simp⟩
  | d :: ds, p, i, h => by
    simp only [RdC] at h
    obtain ⟨⟨hq, u, hc, hm, hr⟩, h2⟩ := h
    obtain ⟨us, h3, h4, h5⟩ := RdC_vals M w ds p (i + 1) h2
    refine ⟨u :: us, by simp only [RdL]; exact ⟨u, us, rfl, hr, h3⟩, by simp [h4], fun j v hv => ?_⟩
    cases j with
    | zero => simp at hv; subst hv; simpa using hc
    | succ j => rw [show i + (j + 1) = i + 1 + j from by omega]; exact h5 j v (by simpa using hv)

theorem RdC_cell (M : Mut) (w : World) : ∀ (ds : List D) (p : Addr) (i : Nat), RdC M w ds p i → ∀ d ∈ ds, d.cell = true
  | [], p, i, _, d, hd => by simp at hd
  | e :: ds, p, i, h, d, hd => by
    simp only [RdC] at h
    rcases List.mem_cons.1 hd with rfl | hd
    · exact h.1.1
    · exact RdC_cell M w ds p (i + 1) h.2 d hd
theorem RdL_length {M : Mut} {w : World} : ∀ {ds : List D} {us : List Value}, RdL M w ds us → us.length = ds.length
  | [], us, h => by simp [RdL] at h; simp [h]
  | d :: ds, us, h => by
    simp only [RdL] at h
    obtain ⟨u, us', rfl, _, h⟩ := h
    simp [RdL_length h]
theorem RdL_append {M : Mut} {w : World} : ∀ {as bs : List D} {us vs : List Value}, RdL M w as us → RdL M w bs vs → RdL M w (as ++ bs) (us ++ vs)
  | [], bs, us, vs, h, k => by simp only [RdL] at h; subst h; simpa using k
  | d :: as, bs, us, vs, h, k => by
    simp only [RdL] at h
    obtain ⟨u, us', rfl, h1, h⟩ := h
    simp only [List.cons_append, RdL]
    exact ⟨u, us' ++ vs, rfl, h1, RdL_append h k⟩
theorem RdL_get {M : Mut} {w : World} : ∀ {ds : List D} {us : List Value} {i : Nat} {d : D}, RdL M w ds us → ds[i]? = some d → ∃ u, us[i]? = some u ∧ Rd M w d u
  | [], us, i, d, _, h => by simp at h
  | x :: ds, us, i, d, h, e => by
    simp only [RdL] at h
    obtain ⟨u, us', rfl, h1, h2⟩ := h
    cases i with
    | zero => simp at e; subst e; exact ⟨u, by simp, h1⟩
    | succ i =>
      obtain ⟨v, hv, hr⟩ := RdL_get (i := i) h2 (by simpa using e)
      exact ⟨v, by simpa using hv, hr⟩
theorem RdL_iff {M : Mut} {w : World} : ∀ {ds : List D} {us : List Value}, RdL M w ds us ↔ us.length = ds.length ∧ ∀ (i : Nat) (d : D) (u : Value), ds[i]? = some d → us[i]? = some u → Rd M w d u
  | [], us => by simp [RdL]
  | x :: ds, [] => by simp [RdL]
  | x :: ds, u :: us => by
    simp only [RdL, RdL_iff (ds := ds)]
    constructor
    · rintro ⟨u', us', e, h1, h2, h3⟩
      injection e with e1 e2
      subst e1 e2
      refine ⟨by simp [h2], fun i d v hd hv => ?_⟩
      cases i with
      | zero => simp at hd hv; subst hd hv; exact h1
      | succ i => exact h3 i d v (by simpa using hd) (by simpa using hv)
    · rintro ⟨h1, h2⟩
      exact ⟨u, us, rfl, h2 0 x u (by simp) (by simp), by simpa using h1, fun i d v hd hv => h2 (i + 1) d v (by simpa using hd) (by simpa using hv)⟩

end Go.Ab

namespace Go.Ab

/-- A name of an object that a call's own frame may change. -/
abbrev Id := Nat × Nat

/-- A value as a frame holds it: a datum, a slice of its own, a pointer to a box of its own. -/
inductive AV where
  | d (x : D)
  | own (k : Id)
  | tight (n : Nat) (xs : List D)
  | ref (id : Id) (off : Nat)
  /-- a pointer into an element of an arr -/
  | elt (id : Id) (i off : Nat)
  | agg (cs : List AV)
  | tup (xs : List AV)
  | clo (f : Fn) (first cap : List AV)
  | undef

/-- An object of the frame's own: a variable in memory; a slice with the room behind it. -/
inductive Ob where
  | box (cs : List AV)
  | tok (n : Nat) (xs : List D)
  /-- a slice whose elements may be written; g: are they of a type of more cells? -/
  | arr (g : Bool) (n : Nat) (es : List (List AV))
  /-- a map: its keys and what they lead to, as they came -/
  | map (es : List (D × AV))

/-- What a value of the frame's own shows: a slice's length; a map. -/
inductive SL where
  | n (l : Nat)
  | m
def Ob.sl : Ob → Option SL
  | .box _ => none
  | .tok _ xs => some (.n xs.length)
  | .arr _ _ es => some (.n es.length)
  | .map _ => some .m

abbrev Obs := List (Id × Ob)

def lookup (id : Id) : Obs → Option Ob
  | [] => none
  | (k, x) :: r => if k = id then some x else lookup id r
def update (id : Id) (x : Ob) : Obs → Obs
  | [] => []
  | (k, y) :: r => if k = id then (k, x) :: update id x r else (k, y) :: update id x r
def erase (id : Id) : Obs → Obs
  | [] => []
  | (k, y) :: r => if k = id then erase id r else (k, y) :: erase id r

/-- Where an object lies. -/
structure Gh where
  b : Option Nat
  cap : Nat
  val : Value := .slice none 0 0
  /-- how many cells of the block lie ahead of a slice that was cut at its front -/
  sk : Nat := 0

abbrev Gam := Id → Gh

def tokVal (g : Gh) (len : Nat) : Value :=
  match g.b with
  | none => g.val
  | some b => .slice (some ⟨b, g.sk, none⟩) len g.cap

/-- The kind of what stays where it is: a variable, a map. -/
def Ob.kd : Ob → Nat
  | .box _ => 1
  | .map _ => 2
  | _ => 0
theorem kd_box {ob : Ob} (h : ob.kd = 1) : ∃ cs, ob = .box cs := by cases ob <;> simp [Ob.kd] at h; exact ⟨_, rfl⟩
theorem kd_map {ob : Ob} (h : ob.kd = 2) : ∃ es, ob = .map es := by cases ob <;> simp [Ob.kd] at h; exact ⟨_, rfl⟩
def slVal (g : Gh) : SL → Value
  | .n l => tokVal g l
  | .m => .map g.b

mutual
def RV (γ : Gam) (o : Obs) (M : Mut) (w : World) : AV → Value → Prop
  | .d x, u => Rd M w x u
  | .own k, u => ∃ ob l, lookup k o = some ob ∧ ob.sl = some l ∧ u = slVal (γ k) l
  | .tight n xs, u => Rd M w (.sl n xs) u ∧ ∃ a len, u = .slice a len len
  | .ref id off, u => ∃ b, (γ id).b = some b ∧ u = .pointer (some ⟨b, off, none⟩)
  | .elt id i off, u => ∃ b g n es, (γ id).b = some b ∧ lookup id o = some (.arr g n es) ∧ u = .pointer (some ⟨b, i * n + off, none⟩)
  | .agg cs, u => ∃ us : List Value, u = .agg us.toArray ∧ RVL γ o M w cs us
  | .tup cs, u => ∃ us : List Value, u = .tuple us.toArray ∧ RVL γ o M w cs us
  | .clo f as bs, u => ∃ xs ys : List Value, u = .func f xs.toArray ys.toArray ∧ RVL γ o M w as xs ∧ RVL γ o M w bs ys
  | .undef, _ => True
def RVL (γ : Gam) (o : Obs) (M : Mut) (w : World) : List AV → List Value → Prop
  | [], us => us = []
  | x :: xs, us => ∃ u us', us = u :: us' ∧ RV γ o M w x u ∧ RVL γ o M w xs us'
end

def eltO : AV → Nat → Nat → AV
  | .own k, i, off => .elt k i off
  | _, _, _ => .undef
mutual
def AV.sub (fo : Id → AV) (fr : Id → Nat → AV) : AV → AV
  | .d x => .d x
  | .own k => fo k
  | .tight n xs => .tight n xs
  | .ref id off => fr id off
  | .elt id i off => eltO (fo id) i off
  | .agg cs => .agg (subL fo fr cs)
  | .tup cs => .tup (subL fo fr cs)
  | .clo f as bs => .clo f (subL fo fr as) (subL fo fr bs)
  | .undef => .undef
def subL (fo : Id → AV) (fr : Id → Nat → AV) : List AV → List AV
  | [] => []
  | x :: xs => x.sub fo fr :: subL fo fr xs
end

mutual
theorem RV.sub {γ γ' : Gam} {o o' : Obs} {M M' : Mut} {w w' : World} {fo : Id → AV} {fr : Id → Nat → AV}
    (hd : ∀ x u, Rd M w x u → Rd M' w' x u) (ho : ∀ k u, RV γ o M w (.own k) u → RV γ' o' M' w' (fo k) u) (hr : ∀ id off u, RV γ o M w (.ref id off) u → RV γ' o' M' w' (fr id off) u) (he : ∀ id i off u, RV γ o M w (.elt id i off) u → RV γ' o' M' w' (eltO (fo id) i off) u) :
    ∀ (x : AV) (u : Value), RV γ o M w x u → RV γ' o' M' w' (x.sub fo fr) u
  | .d x, u, h => by
    simp only [AV.sub, RV] at h ⊢
    exact hd x u h
  | .own k, u, h => by
    simp only [AV.sub]
    exact ho k u h
  | .tight n xs, u, h => by
    simp only [AV.sub, RV] at h ⊢
    exact ⟨hd _ u h.1, h.2⟩
  | .ref id off, u, h => by
    simp only [AV.sub]
    exact hr id off u h
  | .elt id i off, u, h => by
    simp only [AV.sub]
    exact he id i off u h
  | .agg cs, u, h => by
    simp only [AV.sub, RV] at h ⊢
    obtain ⟨us, e, h⟩ := h
    exact ⟨us, e, RVL.sub hd ho hr he cs us h⟩
  | .tup cs, u, h => by
    simp only [AV.sub, RV] at h ⊢
    obtain ⟨us, e, h⟩ := h
    exact ⟨us, e, RVL.sub hd ho hr he cs us h⟩
  | .clo f as bs, u, h => by
    simp only [AV.sub, RV] at h ⊢
    obtain ⟨xs, ys, e, h1, h2⟩ := h
    exact ⟨xs, ys, e, RVL.sub hd ho hr he as xs h1, RVL.sub hd ho hr he bs ys h2⟩
  | .undef, u, h => by simp only [AV.sub, RV]
theorem RVL.sub {γ γ' : Gam} {o o' : Obs} {M M' : Mut} {w w' : World} {fo : Id → AV} {fr : Id → Nat → AV}
    (hd : ∀ x u, Rd M w x u → Rd M' w' x u) (ho : ∀ k u, RV γ o M w (.own k) u → RV γ' o' M' w' (fo k) u) (hr : ∀ id off u, RV γ o M w (.ref id off) u → RV γ' o' M' w' (fr id off) u) (he : ∀ id i off u, RV γ o M w (.elt id i off) u → RV γ' o' M' w' (eltO (fo id) i off) u) :
    ∀ (xs : List AV) (us : List Value), RVL γ o M w xs us → RVL γ' o' M' w' (subL fo fr xs) us
  | [], us, h => by simpa only [subL, RVL] using h
  | x :: xs, us, h => by
    simp only [subL, RVL] at h ⊢
    obtain ⟨u, us', e, h1, h2⟩ := h
    exact ⟨u, us', e, RV.sub hd ho hr he x u h1, RVL.sub hd ho hr he xs us' h2⟩
end

mutual
theorem AV.sub_id : ∀ x : AV, x.sub .own .ref = x
  | .d x => rfl
  | .own k => rfl
  | .tight n xs => rfl
  | .ref id off => rfl
  | .elt id i off => rfl
  | .agg cs => by simp only [AV.sub, subL_id cs]
  | .tup cs => by simp only [AV.sub, subL_id cs]
  | .clo f as bs => by simp only [AV.sub, subL_id as, subL_id bs]
  | .undef => rfl
theorem subL_id : ∀ xs : List AV, subL .own .ref xs = xs
  | [] => rfl
  | x :: xs => by simp only [subL, AV.sub_id x, subL_id xs]
end

theorem RV.same {γ γ' : Gam} {o o' : Obs} {M M' : Mut} {w w' : World}
    (hd : ∀ x u, Rd M w x u → Rd M' w' x u) (ho : ∀ k u, RV γ o M w (.own k) u → RV γ' o' M' w' (.own k) u) (hr : ∀ id off u, RV γ o M w (.ref id off) u → RV γ' o' M' w' (.ref id off) u) (he : ∀ id i off u, RV γ o M w (.elt id i off) u → RV γ' o' M' w' (.elt id i off) u)
    (x : AV) (u : Value) (h : RV γ o M w x u) : RV γ' o' M' w' x u := by
  have := RV.sub hd ho hr he x u h
  rwa [AV.sub_id] at this
theorem RVL.same {γ γ' : Gam} {o o' : Obs} {M M' : Mut} {w w' : World}
    (hd : ∀ x u, Rd M w x u → Rd M' w' x u) (ho : ∀ k u, RV γ o M w (.own k) u → RV γ' o' M' w' (.own k) u) (hr : ∀ id off u, RV γ o M w (.ref id off) u → RV γ' o' M' w' (.ref id off) u) (he : ∀ id i off u, RV γ o M w (.elt id i off) u → RV γ' o' M' w' (.elt id i off) u)
    (xs : List AV) (us : List Value) (h : RVL γ o M w xs us) : RVL γ' o' M' w' xs us := by
  have := RVL.sub hd ho hr he xs us h
  rwa [subL_id] at this

theorem RVL_length {γ : Gam} {o : Obs} {M : Mut} {w : World} : ∀ {xs : List AV} {us : List Value}, RVL γ o M w xs us → us.length = xs.length
  | [], us, h => by simp [RVL] at h; simp [h]
  | d :: ds, us, h => by
    simp only [RVL] at h
    obtain ⟨u, us', rfl, _, h⟩ := h
    simp [RVL_length h]
theorem RVL_get {γ : Gam} {o : Obs} {M : Mut} {w : World} : ∀ {xs : List AV} {us : List Value} {i : Nat} {d : AV}, RVL γ o M w xs us → xs[i]? = some d → ∃ u, us[i]? = some u ∧ RV γ o M w d u
  | [], us, i, d, _, h => by simp at h
  | x :: ds, us, i, d, h, e => by
    simp only [RVL] at h
    obtain ⟨u, us', rfl, h1, h2⟩ := h
    cases i with
    | zero => simp at e; subst e; exact ⟨u, by simp, h1⟩
    | succ i =>
      obtain ⟨v, hv, hr⟩ := RVL_get (i := i) h2 (by simpa using e)
      exact ⟨v, by simpa using hv, hr⟩
theorem RVL_iff {γ : Gam} {o : Obs} {M : Mut} {w : World} : ∀ {ds : List AV} {us : List Value}, RVL γ o M w ds us ↔ us.length = ds.length ∧ ∀ (i : Nat) (d : AV) (u : Value), ds[i]? = some d → us[i]? = some u → RV γ o M w d u
  | [], us => by simp [RVL]
  | x :: ds, [] => by simp [RVL]
  | x :: ds, u :: us => by
    simp only [RVL, RVL_iff (ds := ds)]
    constructor
    · rintro ⟨u', us', e, h1, h2, h3⟩
      injection e with e1 e2
      subst e1 e2
      refine ⟨by simp [h2], fun i d v hd hv => ?_⟩
      cases i with
      | zero => simp at hd hv; subst hd hv; exact h1
      | succ i => exact h3 i d v (by simpa using hd) (by simpa using hv)
    · rintro ⟨h1, h2⟩
      exact ⟨u, us, rfl, h2 0 x u (by simp) (by simp), by simpa using h1, fun i d v hd hv => h2 (i + 1) d v (by simpa using hd) (by simpa using hv)⟩
theorem RVL_data {γ : Gam} {o : Obs} {M : Mut} {w : World} : ∀ {ds : List D} {us : List Value}, RVL γ o M w (ds.map .d) us ↔ RdL M w ds us
  | [], us => by simp [RVL, RdL]
  | d :: ds, us => by simp only [List.map_cons, RVL, RdL, RV, RVL_data (ds := ds)]

/-! ### objects -/
def Ob.may : Ob → Gh → Nat → Prop
  | .box _, _, _ => True
  | .tok n xs, g, i => g.sk + xs.length * n ≤ i
  | .arr _ _ _, _, _ => True
  | .map _, _, _ => True

/-- A key's value: plain data alone. -/
def keyC : D → Option Value
  | .s l => some (.string ⟨l.toArray⟩)
  | .v (.int k n) => some (.int k n)
  | .v (.bool b) => some (.bool b)
  | _ => none
def keyCs : List D → Option (List Value)
  | [] => some []
  | d :: r => match keyC d, keyCs r with | some v, some vs => some (v :: vs) | _, _ => none
def keyV : D → Option Value
  | .st cs => match keyCs cs with | some vs => some (.agg vs.toArray) | none => none
  | d => keyC d

/-- The cells that the frame may write. -/
def own (γ : Gam) (o : Obs) : Mut := fun b i => ∃ p ∈ o, (γ p.1).b = some b ∧ p.2.may (γ p.1) i
def all (γ : Gam) (N : Mut) (o : Obs) : Mut := fun b i => N b i ∨ own γ o b i

def RO (γ : Gam) (o : Obs) (M : Mut) (w : World) (id : Id) : Ob → Prop
  | .box cs => ∃ b arr ty, (γ id).b = some b ∧ w.heap[b]? = some (.cells arr ty (0, 0)) ∧ RVL γ o M w cs arr.toList
  | .tok n xs => match (γ id).b with
    | none => Rd M w (.sl n xs) (γ id).val ∧ ∃ a len, (γ id).val = .slice a len len
    | some b => ∃ arr ty, w.heap[b]? = some (.cells arr ty (0, 0)) ∧ xs.length ≤ (γ id).cap ∧ (γ id).sk + (γ id).cap * n = arr.size ∧ RdE M w n xs ⟨b, 0, none⟩ (γ id).sk
  | .arr _ n es => match (γ id).b with
    | none => es = [] ∧ (γ id).val = .slice none 0 0
    | some b => ∃ arr ty, w.heap[b]? = some (.cells arr ty (0, 0)) ∧ (es.length ≤ (γ id).cap ∧ (γ id).sk = 0) ∧ (γ id).cap * n = arr.size ∧ (∀ e ∈ es, e.length = n) ∧ ∃ us rest, arr.toList = us ++ rest ∧ RVL γ o M w es.flatten us
  | .map es => ∃ b ents clock, (γ id).b = some b ∧ w.heap[b]? = some (.map ents clock) ∧ MapKept.Stamped ents clock ∧ ents.toList.map (fun e => some e.key) = es.map (fun e => keyV e.1) ∧ RVL γ o M w (es.map (·.2)) (ents.toList.map (·.val))

structure Inv (γ : Gam) (N : Mut) (o : Obs) (w : World) : Prop where
  keys : (o.map (·.1)).Nodup
  apart : ∀ p ∈ o, ∀ q ∈ o, ∀ b, (γ p.1).b = some b → (γ q.1).b = some b → p.1 = q.1
  sep : ∀ p ∈ o, ∀ b, (γ p.1).b = some b → ∀ i, ¬ N b i
  old : ∀ b i, N b i → b < w.heap.size
  obs : ∀ p ∈ o, RO γ o (all γ N o) w p.1 p.2

/-- What may have been written from one world to the next. -/
structure Chg (X : Mut) (w w' : World) : Prop where
  os : w'.os = w.os
  tape : w'.tape = w.tape
  output : w'.output = w.output
  size : w.heap.size ≤ w'.heap.size
  block : ∀ b, b < w.heap.size → (∀ i, ¬ X b i) → w'.heap[b]? = w.heap[b]?
  cell : ∀ b i v, w.cell? ⟨b, i, none⟩ = some v → ¬ X b i → w'.cell? ⟨b, i, none⟩ = some v

theorem Chg.refl (X : Mut) (w : World) : Chg X w w := ⟨rfl, rfl, rfl, Nat.le_refl _, fun _ _ _ => rfl, fun _ _ _ h _ => h⟩
theorem Chg.trans {X Y : Mut} {a b c : World} (h : Chg X a b) (k : Chg Y b c) (hY : ∀ n i, Y n i → X n i ∨ a.heap.size ≤ n) : Chg X a c := by
  refine ⟨k.os.trans h.os, k.tape.trans h.tape, k.output.trans h.output, Nat.le_trans h.size k.size, fun n hn hx => ?_, fun n i v hc hx => ?_⟩
  · have h1 := h.block n hn hx
    have h2 := k.block n (Nat.lt_of_lt_of_le hn h.size) fun i hi => (hY n i hi).elim (hx i) (by omega)
    exact h2.trans h1
  · have hlt : n < a.heap.size := cell_lt hc
    exact k.cell n i v (h.cell n i v hc hx) fun hi => (hY n i hi).elim hx (by omega)
theorem Chg.mono {X Y : Mut} {a b : World} (h : Chg X a b) (hXY : ∀ n i, n < a.heap.size → X n i → Y n i) : Chg Y a b :=
  ⟨h.os, h.tape, h.output, h.size, fun n hn hx => h.block n hn fun i hi => hx i (hXY n i hn hi), fun n i v hc hx => h.cell n i v hc fun hi => hx (hXY n i (cell_lt hc) hi)⟩
theorem Chg.below {w w' : World} : Chg (fun _ _ => False) w w' ↔ Go.RowKit.Below w.heap.size w w' := by
  constructor
  · exact fun h => ⟨h.os, h.tape, h.output, h.size, fun k hk => h.block k hk fun _ => id⟩
  · intro h
    refine ⟨h.os, h.tape, h.output, h.size, fun n hn _ => h.block n hn, fun n i v hc _ => ?_⟩
    rw [h.cell (p := ⟨n, i, none⟩) (cell_lt hc)]
    exact hc
theorem Chg.keep {X M M' : Mut} {w w' : World} (h : Chg X w w') (hX : ∀ b i, X b i → M b i) (hM : ∀ b i, b < w.heap.size → M' b i → M b i) : Keep M M' w w' :=
  ⟨fun b o v hc hm => h.cell b o v hc fun hx => hm (hX b o hx), fun b o hb hm hm' => hm (hM b o hb hm'), fun b hb hm => h.block b hb fun i hx => hm i (hX b i hx)⟩

theorem Chg.drew (w : World) : Chg (fun _ _ => False) w w.drew := ⟨rfl, rfl, rfl, Nat.le_refl _, fun _ _ _ => rfl, fun _ _ _ h _ => h⟩
theorem Chg.alloc (w : World) (ob : Obj) : Chg (fun _ _ => False) w (w.alloc ob) := by
  refine ⟨rfl, rfl, rfl, by simp, fun b hb _ => ?_, fun b i v hc _ => ?_⟩
  · simp only [World.alloc, Array.getElem?_push]
    rw [if_neg (by omega)]
  · rw [World.cell?_alloc_lt w ob ⟨b, i, none⟩ (cell_lt hc)]
    exact hc

theorem lookup_mem {id : Id} {ob : Ob} : ∀ {o : Obs}, lookup id o = some ob → (id, ob) ∈ o
  | [], h => by simp [lookup] at h
  | (k, x) :: r, h => by
    simp only [lookup] at h
    split at h
    · rename_i e
      subst e
      simp at h
      simp [h]
    · exact List.mem_cons_of_mem _ (lookup_mem h)
theorem lookup_of_mem {id : Id} {ob : Ob} : ∀ {o : Obs}, (o.map (·.1)).Nodup → (id, ob) ∈ o → lookup id o = some ob
  | [], _, h => by simp at h
  | (k, x) :: r, hn, h => by
    simp only [List.map_cons, List.nodup_cons] at hn
    simp only [lookup]
    rcases List.mem_cons.1 h with e | h
    · injection e with e1 e2
      subst e1 e2
      simp
    · have : k ≠ id := by
        rintro rfl
        exact hn.1 (List.mem_map.2 ⟨_, h, rfl⟩)
      rw [if_neg this]
      exact lookup_of_mem hn.2 h
end Go.Ab

namespace Go.Ab

/-- A field's kind. -/
inductive EK where | s | i | b
deriving DecidableEq
/-- Are these cells one? -/
def eqCells : List EK → List D → List D → Option Bool
  | [], [], [] => some true
  | .s :: ks, .s a :: r, .s b :: r' => match eqCells ks r r' with | some c => some (a == b && c) | none => none
  | .i :: ks, .v (.int k a) :: r, .v (.int k' b) :: r' => if k = k' then (match eqCells ks r r' with | some c => some (a == b && c) | none => none) else none
  | .b :: ks, .v (.bool a) :: r, .v (.bool b) :: r' => match eqCells ks r r' with | some c => some (a == b && c) | none => none
  | _, _, _ => none
def EK.fits : EK → Option TypeDesc → Bool
  | .s, some .string | .i, some (.int _) | .b, some .bool => true
  | _, _ => false
/-- Flat fields that can be compared. -/
def flatB (P : Program) : Nat → List EK → List Field → Bool
  | _, [], [] => true
  | i, k :: ks, f :: fs => f.name != "_" && f.offset == i && k.fits (P.underlying f.type) && flatB P (i + 1) ks fs
  | _, _, _ => false
def eqB (P : Program) (t : TypeId) (ks : List EK) : Bool :=
  match P.underlying t with
  | some (.struct a) => !P.stoodInHeld t && !P.eqGuardType P.depth t && flatB P 0 ks a.toList
  | _ => false

theorem run_part_flat {P : Program} {w : World} {t : TypeId} {k : EK} (hf : k.fits (P.underlying t) = true) {U : Array Value} {i : Nat} {v : Value} (hv : U[i]? = some v) : (part t U i).run P w = .ok v w := by
  have ha : (isAgg t).run P w = .ok false w := by
    cases hu : P.underlying t with
    | none => rw [hu] at hf; cases k <;> simp [EK.fits] at hf
    | some u =>
      rw [hu] at hf
      unfold isAgg
      simp only [Sem.run_bind, run_underlying hu, Result.andThen_ok]
      cases u <;> first | rfl | (cases k <;> simp [EK.fits] at hf)
  unfold part
  simp only [Sem.run_bind, ha, Result.andThen_ok, Bool.false_eq_true, if_false, hv, Sem.run_pure]
theorem run_flat {P : Program} {M : Mut} {w : World} {U V : Array Value} (d : Nat) : ∀ (ks : List EK) (fs : List Field) (i : Nat) (xs ys : List D) (us vs : List Value) (r : Bool), flatB P i ks fs = true → eqCells ks xs ys = some r → RdL M w xs us → RdL M w ys vs →
    U.toList.drop i = us → V.toList.drop i = vs → (Op.eqFields (d + 1) U V fs).run P w = .ok r w
  | [], [], i, xs, ys, us, vs, r, hf, he, hx, hy, hU, hV => by
    cases xs <;> cases ys <;> simp [eqCells] at he
    subst he
    simp [Op.eqFields]
  | [], f :: fs, i, xs, ys, us, vs, r, hf, he, hx, hy, hU, hV => by simp [flatB] at hf
  | k :: ks, [], i, xs, ys, us, vs, r, hf, he, hx, hy, hU, hV => by simp [flatB] at hf
  | k :: ks, f :: fs, i, xs, ys, us, vs, r, hf, he, hx, hy, hU, hV => by
    simp only [flatB, Bool.and_eq_true, bne_iff_ne, ne_eq, beq_iff_eq] at hf
    obtain ⟨⟨⟨h1, h2⟩, h3⟩, h4⟩ := hf
    have fin : ∀ (x y : D) (xs' ys' : List D) (c c' : Bool), xs = x :: xs' → ys = y :: ys' → eqCells ks xs' ys' = some c' → r = (c && c') → (∀ u v, Rd M w x u → Rd M w y v → (Op.equalIn (d + 1) f.type u v).run P w = .ok c w) → (Op.eqFields (d + 1) U V (f :: fs)).run P w = .ok r w := by
      rintro x y xs' ys' c c' rfl rfl hc hr hq
      simp only [RdL] at hx hy
      obtain ⟨u, us', rfl, hu, hx⟩ := hx
      obtain ⟨v, vs', rfl, hv, hy⟩ := hy
      have gU : U[i]? = some u := by
        have := congrArg (fun l => l[0]?) hU
        simpa using this
      have gV : V[i]? = some v := by
        have := congrArg (fun l => l[0]?) hV
        simpa using this
      have dU : U.toList.drop (i + 1) = us' := by
        have := congrArg (List.drop 1) hU
        simpa [List.drop_drop, Nat.add_comm] using this
      have dV : V.toList.drop (i + 1) = vs' := by
        have := congrArg (List.drop 1) hV
        simpa [List.drop_drop, Nat.add_comm] using this
      have p1 := run_part_flat (P := P) (w := w) h3 gU
      have p2 := run_part_flat (P := P) (w := w) h3 gV
      have ih := run_flat (M := M) d ks fs (i + 1) xs' ys' us' vs' c' h4 hc hx hy dU dV
      unfold Op.eqFields
      rw [if_pos h1, h2]
      simp only [Sem.run_bind, p1, p2, Result.andThen_ok, hq u v hu hv]
      cases c with
      | true => simp [ih, hr]
      | false => simp [hr]
    have und : ∀ {k : EK}, k.fits (P.underlying f.type) = true → (k = .s → P.underlying f.type = some .string) ∧ (k = .i → ∃ q, P.underlying f.type = some (.int q)) ∧ (k = .b → P.underlying f.type = some .bool) := by
      intro k hk
      cases hu : P.underlying f.type with
      | none => rw [hu] at hk; cases k <;> simp [EK.fits] at hk
      | some u =>
        rw [hu] at hk
        cases k <;> cases u <;> simp [EK.fits] at hk <;> simp
    unfold eqCells at he
    split at he
    · simp_all
    · rename_i ks' a r1 b r1' e0
      simp only [List.cons.injEq] at e0
      obtain ⟨rfl, rfl⟩ := e0
      split at he
      · rename_i c hc
        simp only [Option.some.injEq] at he
        refine fin _ _ _ _ (a == b) c rfl rfl hc he.symm fun u v hu hv => ?_
        simp only [Rd] at hu hv
        subst hu hv
        rw [run_equalIn_string w d f.type _ _ ((und h3).1 rfl)]
        simp [ByteArray.toList_eq]
      · simp at he
    · rename_i ks' k1 a r1 k2 b r1' e0
      simp only [List.cons.injEq] at e0
      obtain ⟨rfl, rfl⟩ := e0
      split at he
      · rename_i hkk
        subst hkk
        split at he
        · rename_i c hc
          simp only [Option.some.injEq] at he
          refine fin _ _ _ _ (a == b) c rfl rfl hc he.symm fun u v hu hv => ?_
          simp only [Rd] at hu hv
          subst hu hv
          obtain ⟨q, hq⟩ := (und h3).2.1 rfl
          exact run_equalIn_int w d f.type k1 q a b hq
        · simp at he
      · simp at he
    · rename_i ks' a r1 b r1' e0
      simp only [List.cons.injEq] at e0
      obtain ⟨rfl, rfl⟩ := e0
      split at he
      · rename_i c hc
        simp only [Option.some.injEq] at he
        refine fin _ _ _ _ (a == b) c rfl rfl hc he.symm fun u v hu hv => ?_
        simp only [Rd] at hu hv
        subst hu hv
        exact run_equalIn_bool w d f.type a b ((und h3).2.2 rfl)
      · simp at he
    · simp at he
/-- Two structs of flat fields: what '==' gives. -/
theorem run_eqSt {P : Program} {t : TypeId} {ks : List EK} (h : eqB P t ks = true) {M : Mut} {w : World} {xs ys : List D} {us vs : List Value} {r : Bool} (he : eqCells ks xs ys = some r) (hx : RdL M w xs us) (hy : RdL M w ys vs) :
    (∀ op x y, (eqGuard op t x y (.agg us.toArray) (.agg vs.toArray)).run P w = .ok () w) ∧ (Op.equal t (.agg us.toArray) (.agg vs.toArray)).run P w = .ok r w := by
  unfold eqB at h
  split at h
  · rename_i a ha
    simp only [Bool.and_eq_true, Bool.not_eq_true'] at h
    obtain ⟨⟨h1, h2⟩, h3⟩ := h
    refine ⟨fun op x y => run_eqGuard_agg w op t x y _ _ h2, ?_⟩
    have hf : P.fieldsOf t = a := by simp [Program.fieldsOf, ha]
    have := run_equalIn_agg w 9999 t us.toArray vs.toArray (by rw [hf]; exact ha) h1
    unfold Op.equal Op.maxDepth
    rw [this, hf]
    exact run_flat 9998 ks a.toList 0 xs ys us vs r h3 he hx hy (by simp) (by simp)
  · simp at h
end Go.Ab

namespace Go.Ab

/-- What a type is, as far as the evaluator asks. -/
inductive TD where
  | int (k : IntKind) | bool | str | slice (e : TypeId) | strct (fs : List (TypeId × Nat)) | ptr (e : TypeId) | iface (empty : Bool) | func | map (k e : TypeId) | arr (n : Nat) (e : TypeId) | other
deriving DecidableEq

structure Ctx where
  td : TypeId → TD
  sz : TypeId → Nat
  zero : TypeId → List D
  glob : Nat → Option (List D)
  eqt : TypeId → List EK
  cmp : TypeId → Bool
  has : TypeId → TypeId → Option Bool
  meth : TypeId → String → Option FuncId
  gf : FuncId → Bool
  /-- types of few bytes -/
  small : TypeId → Bool
  /-- the slots whose new slices may be written -/
  wr : Nat → Bool
  mf : FuncId → List AV → Obs → Option (List AV × Obs)

def TD.agg : TD → Bool
  | .strct _ | .arr _ _ => true
  | _ => false
def TD.ok : TD → Bool
  | .other => false
  | _ => true
def lim : Nat := 4294967296
/-- how many elements of few bytes a slice may get by appending -/
def lim2 : Nat := 2600000000000
/-- The mark of a box that is never written. -/
def iceMark : TypeId := 4294967295

/-- A zero value: a slice of none has no room behind it. -/
def zA : D → AV
  | .sl n [] => .tight n []
  | d => .d d
structure St where
  t : List AV
  o : Obs

def ofConst : Value → D
  | .string b => .s b.data.toList
  | v => .v v

mutual
def AV.data (o : Obs) : AV → Option D
  | .d x => some x
  | .own k => match lookup k o with | some (.tok n xs) => some (.sl n xs) | _ => none
  | .tight n xs => some (.sl n xs)
  | .agg cs => match datas o cs with | some ds => some (.st ds) | none => none
  | .clo f as bs => match datas o as, datas o bs with | some xs, some ys => some (.fn f xs ys) | _, _ => none
  | _ => none
def datas (o : Obs) : List AV → Option (List D)
  | [] => some []
  | a :: r => match a.data o, datas o r with | some x, some y => some (x :: y) | _, _ => none
end

def St.get (T : Ctx) (s : St) : Operand → AV
  | .tmp t => s.t.getD t .undef
  | .const v => .d (ofConst v)
  | .global g => match T.glob g with | some cs => .d (.ptr cs) | none => .undef
  | .func f => .d (.fn (.func f) [] [])
def nilfix (T : Ctx) (t : TypeId) : AV → AV
  | .d (.v (.slice none 0 0)) => (match T.td t with | .slice e => .d (.sl (T.sz e) []) | _ => .d (.v (.slice none 0 0)))
  | x => x
def St.put (s : St) (d : Option Tmp) (v : AV) : St := match d with | some d => { s with t := s.t.set d v } | none => s

def subE (fo : Id → AV) (fr : Id → Nat → AV) : List (List AV) → List (List AV)
  | [] => []
  | e :: r => subL fo fr e :: subE fo fr r
def subM (fo : Id → AV) (fr : Id → Nat → AV) : List (D × AV) → List (D × AV)
  | [] => []
  | (k, v) :: r => (k, v.sub fo fr) :: subM fo fr r
def subO (fo : Id → AV) (fr : Id → Nat → AV) : Obs → Obs
  | [] => []
  | (k, .box cs) :: r => (k, .box (subL fo fr cs)) :: subO fo fr r
  | (k, .tok n xs) :: r => (k, .tok n xs) :: subO fo fr r
  | (k, .arr g n es) :: r => (k, .arr g n (subE fo fr es)) :: subO fo fr r
  | (k, .map es) :: r => (k, .map (subM fo fr es)) :: subO fo fr r

/-- Nothing is left of an object. -/
def dropO (id : Id) (s : St) (k : Id) : AV := if k = id then (match lookup id s.o with | some (.tok n xs) => .d (.sl n xs) | _ => .undef) else .own k
def dropR (id : Id) (i : Id) (off : Nat) : AV := if i = id then .undef else .ref i off
def St.newBox (s : St) (d : Tmp) (cs : List AV) : St :=
  { t := (subL (dropO (1, d) s) (dropR (1, d)) s.t).set d (.ref (1, d) 0), o := ((1, d), .box (subL (dropO (1, d) s) (dropR (1, d)) cs)) :: subO (dropO (1, d) s) (dropR (1, d)) (erase (1, d) s.o) }
/-- A new slice that may be written. -/
def St.newArr (s : St) (d : Tmp) (g : Bool) (n : Nat) (es : List (List AV)) : St :=
  { t := (subL (dropO (1, d) s) (dropR (1, d)) s.t).set d (.own (1, d)), o := ((1, d), .arr g n (subE (dropO (1, d) s) (dropR (1, d)) es)) :: subO (dropO (1, d) s) (dropR (1, d)) (erase (1, d) s.o) }
def St.newTok (s : St) (d : Tmp) (n : Nat) (xs : List D) : St :=
  { t := (subL (dropO (1, d) s) (dropR (1, d)) s.t).set d (.own (1, d)), o := ((1, d), .tok n xs) :: subO (dropO (1, d) s) (dropR (1, d)) (erase (1, d) s.o) }
def St.newMap (s : St) (d : Tmp) : St :=
  { t := (subL (dropO (1, d) s) (dropR (1, d)) s.t).set d (.own (1, d)), o := ((1, d), .map []) :: subO (dropO (1, d) s) (dropR (1, d)) (erase (1, d) s.o) }
/-- A slice of its own is added to: what else holds it reads as it did. -/
def shutO (id : Id) (n : Nat) (xs : List D) (k : Id) : AV := if k = id then .d (.sl n xs) else .own k
def St.grow (s : St) (d : Option Tmp) (id : Id) (n : Nat) (xs ys : List D) : St :=
  St.put { t := subL (shutO id n xs) (dropR id) s.t, o := update id (.tok n (xs ++ ys)) (subO (shutO id n xs) (dropR id) s.o) } d (.own id)
/-- A slice of its own is cut at its front: what else holds it reads as it did. -/
def St.shift (s : St) (d : Option Tmp) (id : Id) (n : Nat) (xs ys : List D) : St :=
  St.put { t := subL (shutO id n xs) (dropR id) s.t, o := update id (.tok n ys) (subO (shutO id n xs) (dropR id) s.o) } d (.own id)
/-- The like for one that may be written: what else holds it is forgotten. -/
def forO (id k : Id) : AV := if k = id then .undef else .own k
def St.growA (s : St) (d : Option Tmp) (id : Id) (g : Bool) (n : Nat) (es fs : List (List AV)) : St :=
  St.put { t := subL (forO id) (dropR id) s.t, o := update id (.arr g n (subE (forO id) (dropR id) (es ++ fs))) (subO (forO id) (dropR id) s.o) } d (.own id)
/-- It is written no more. -/
def icedO (id : Id) (n : Nat) (xs : List D) (k : Id) : AV := if k = id then .d (.sl n xs) else .own k
def St.iceA (s : St) (id : Id) (n : Nat) (xs : List D) : St := { t := subL (icedO id n xs) (dropR id) s.t, o := subO (icedO id n xs) (dropR id) (erase id s.o) }
/-- A box that is written no more. -/
def iceR (id : Id) (cs : List D) (i : Id) (off : Nat) : AV := if i = id then (if off ≤ cs.length then .d (.ptr (cs.drop off)) else .undef) else .ref i off
def St.ice (s : St) (id : Id) (cs : List D) : St := { t := subL .own (iceR id cs) s.t, o := subO .own (iceR id cs) (erase id s.o) }

/-- May a value lie in one cell? -/
def AV.cell : AV → Bool
  | .d x => x.cell
  | .agg _ | .tup _ | .undef => false
  | _ => true
def AV.cells : AV → Option (List AV)
  | .agg cs => if cs.all AV.cell then some cs else none
  | .d (.st cs) => if (cs.map AV.d).all AV.cell then some (cs.map .d) else none
  | x => if x.cell then some [x] else none
def setCells (cs : List AV) (off : Nat) : List AV → List AV
  | [] => cs
  | v :: r => setCells (cs.set off v) (off + 1) r

def valD (a : Bool) (cs : List D) : D := if a then .st cs else cs.headD (.v .nilFunc)
def valA (a : Bool) (cs : List AV) : AV := if a then .agg cs else cs.headD .undef
def datasE (o : Obs) (g : Bool) : List (List AV) → Option (List D)
  | [] => some []
  | e :: r => match datas o e, datasE o g r with | some ds, some xs => if ds.all D.cell = true ∧ (g = true ∨ ds.length = 1) then some (valD g ds :: xs) else none | _, _ => none
/-- the elements' bytes -/
def bytesOf : List D → Option (List UInt8)
  | [] => some []
  | .v (.int .u8 n) :: r => match bytesOf r with | some l => if 0 ≤ n ∧ n < 256 then some (UInt8.ofNat n.toNat :: l) else none | none => none
  | _ => none
def encB (b : UInt8) : D := .v (.int .u8 b.toNat)

def intBin (op : BinOp) (k : IntKind) (a b : Int) : Option D :=
  match op with
  | .add => some (.v (.int k (k.wrap (a + b))))
  | .sub => some (.v (.int k (k.wrap (a - b))))
  | .mul => some (.v (.int k (k.wrap (a * b))))
  | .eql => some (.v (.bool (a == b)))
  | .neq => some (.v (.bool (a != b)))
  | .lss => some (.v (.bool (decide (a < b))))
  | .leq => some (.v (.bool (decide (a ≤ b))))
  | .gtr => some (.v (.bool (decide (a > b))))
  | .geq => some (.v (.bool (decide (a ≥ b))))
  | .quo => if b = 0 then none else some (.v (.int k (k.wrap (a.tdiv b))))
  | .rem => if b = 0 then none else some (.v (.int k (a.tmod b)))
  | .and => some (.v (.int k (k.wrap (BitVec.ofInt k.bits a &&& BitVec.ofInt k.bits b).toNat)))
  | .or => some (.v (.int k (k.wrap (BitVec.ofInt k.bits a ||| BitVec.ofInt k.bits b).toNat)))
  | .shl => if b < 0 then none else some (.v (.int k (k.wrap (a * 2 ^ (min b.toNat k.bits)))))
  | .shr => if b < 0 then none else some (.v (.int k (a.fdiv (2 ^ (min b.toNat k.bits)))))
  | _ => none
def strBin (op : BinOp) (a b : List UInt8) : Option D :=
  match op with
  | .add => if a.length + b.length ≤ lim then some (.s (a ++ b)) else none
  | .eql => some (.v (.bool (a == b)))
  | .neq => some (.v (.bool (!(a == b))))
  | .lss => some (.v (.bool (Op.bytesLess a b)))
  | .leq => some (.v (.bool (Op.bytesLess a b || a == b)))
  | .gtr => some (.v (.bool (!(Op.bytesLess a b || a == b))))
  | .geq => some (.v (.bool (!Op.bytesLess a b)))
  | _ => none
/-- is it nil? -/
def nilEq : D → D → Option Bool
  | .v .nilIface, .v .nilIface => some true
  | .ifc _ _, .v .nilIface => some false
  | .v .nilIface, .ifc _ _ => some false
  | .ptr _, .v (.pointer none) => some false
  | .v (.pointer none), .v (.pointer none) => some true
  | .fn _ _ _, .v .nilFunc => some false
  | .v .nilFunc, .v .nilFunc => some true
  | .v (.bool a), .v (.bool b) => some (a == b)
  | _, _ => none
def isNil : Operand → Bool
  | .const .nilIface | .const (.pointer none) | .const .nilFunc => true
  | _ => false
/-- a block that no view reaches -/
def plainB : Obj → Bool
  | .cells _ _ (0, 0) => true
  | _ => false
/-- '==' on a type -/
def eqD (td : TD) (c : Bool) (ks : List EK) (cm : TypeId → Bool) (x y : D) : Option Bool :=
  match td, x, y with
  | .iface _, .v .nilIface, .v .nilIface => if c then some true else none
  | .iface _, .ifc t (.at p o), .ifc t' (.at p' o') => if t = t' then (if (cm t && (plainB o && plainB o')) = true then some (decide (p = p')) else none) else some false
  | .iface _, .ifc t _, .ifc t' _ => if t = t' then none else some false
  | .iface _, .ifc _ _, .v .nilIface | .iface _, .v .nilIface, .ifc _ _ => some false
  | .iface _, .v (.iface _ _), .v .nilIface | .iface _, .v .nilIface, .v (.iface _ _) => some false
  | .ptr _, .ptr _, .v (.pointer none) => some false
  | .ptr _, .v (.pointer none), .v (.pointer none) => some true
  | .bool, .v (.bool a), .v (.bool b) => some (a == b)
  | .strct _, .st xs, .st ys => if ks = [] then none else eqCells ks xs ys
  | _, _, _ => none
def dBin (op : BinOp) (td : TD) (c : Bool) (ks : List EK) (cm : TypeId → Bool) (x y : D) : Option D :=
  match x, y with
  | .v (.int k a), .v (.int k' b) => if k = k' ∨ op = .shl ∨ op = .shr then intBin op k a b else none
  | .s a, .s b => strBin op a b
  | x, y => match op with
    | .eql => (match eqD td c ks cm x y with | some b => some (.v (.bool b)) | none => none)
    | .neq => (match eqD td c ks cm x y with | some b => some (.v (.bool (!b))) | none => none)
    | _ => none
def isConst : Operand → Bool
  | .const _ => true
  | _ => false

/-- a type assertion -/
def assertD (T : Ctx) (t : TypeId) (ok : Bool) (x : AV) : Option AV :=
  match x, T.td t with
  | .d (.ifc t' x), .iface _ => (match ok, T.has t' t with
    | true, some true => some (.tup [.d (.ifc t' x), .d (.v (.bool true))])
    | true, some false => some (.tup [.d (.v .nilIface), .d (.v (.bool false))])
    | _, _ => none)
  | _, .iface _ => none
  | _, .other => none
  | .d (.ifc t' x), _ => if ok then
      (if t' = t then some (.tup [.d x, .d (.v (.bool true))]) else some (.tup [.d (valD (T.td t).agg (T.zero t)), .d (.v (.bool false))]))
      else (if t' = t then some (.d x) else none)
  | _, _ => none
/-! ### maps -/
/-- Is a datum a key of a type? -/
def keyOkT (T : Ctx) (kt : TypeId) (k : D) : Bool :=
  match T.td kt, k with
  | .str, .s _ => true
  | .int q, .v (.int q' _) => decide (q' = q)
  | .bool, .v (.bool _) => true
  | .strct _, .st xs => if T.eqt kt = [] then false else (match eqCells (T.eqt kt) xs xs with | some _ => true | none => false)
  | _, _ => false
/-- Are two keys one? -/
def keyEqT (T : Ctx) (kt : TypeId) (a b : D) : Option Bool :=
  match T.td kt, a, b with
  | .str, .s x, .s y => some (x == y)
  | .int q, .v (.int q1 x), .v (.int q2 y) => if q1 = q ∧ q2 = q then some (x == y) else none
  | .bool, .v (.bool x), .v (.bool y) => some (x == y)
  | .strct _, .st xs, .st ys => if T.eqt kt = [] then none else eqCells (T.eqt kt) xs ys
  | _, _, _ => none
def findM (T : Ctx) (kt : TypeId) (k : D) : List (D × AV) → Nat → Option (Option (Nat × AV))
  | [], _ => some none
  | (k', v) :: r, i => match keyEqT T kt k k' with
    | some true => some (some (i, v))
    | some false => findM T kt k r (i + 1)
    | none => none
/-- A map with a key put. -/
def putM (T : Ctx) (kt : TypeId) (k : D) (v : AV) (es : List (D × AV)) : Option (List (D × AV)) :=
  match findM T kt k es 0 with
  | some (some (i, _)) => some (es.set i (k, v))
  | some none => some (es ++ [(k, v)])
  | none => none
/-- A map without a key. -/
def delM (T : Ctx) (kt : TypeId) (k : D) (es : List (D × AV)) : Option (List (D × AV)) :=
  match findM T kt k es 0 with
  | some (some (i, _)) => some (es.eraseIdx i)
  | some none => some es
  | none => none
/-- What a look-up gives. -/
def lookA (ok : Bool) (v : AV) (is : Bool) : AV := if ok = true then .tup [v, .d (.v (.bool is))] else v
/-- What a slice without room behind it is. -/
def tightOf (T : Ctx) (t : TypeId) : AV → Option (Nat × List D)
  | .tight n xs => some (n, xs)
  | .d (.v (.slice none 0 0)) => (match T.td t with | .slice e => some (T.sz e, []) | _ => none)
  | _ => none
/-- May a literal's slice be written? -/
def bldW (T : Ctx) (op : Oper) : Option Tmp :=
  match op.dst with
  | some d => if op.type != iceMark && T.wr d then some d else none
  | none => none
/-- Where a slot says so, a slice of its own that is cut at its front stays one (not in a drawn region). -/
def shiftId (T : Ctx) (op : Oper) (hi : Option Operand) (s : St) (x : Operand) : Option Id :=
  if (op.type != iceMark && (hi.isNone && T.wr (6000000 + op.dst.getD 0))) = true then (match s.get T x with | .own k => some k | _ => none) else none
section
variable {R : Type}
/-- an index: the rest only in range -/
def atK {α : Type} (xs : List α) (i : Int) (κ : α → Option R) : Option R :=
  if 0 ≤ i then match xs[i.toNat]? with | some x => κ x | none => none else none
/-- the bounds of a cut: the rest only if they are right -/
def cutK (len : Nat) (lo hi : Int) (κ : Nat → Nat → Option R) : Option R :=
  if 0 ≤ lo ∧ lo ≤ hi ∧ hi ≤ len then κ lo.toNat hi.toNat else none

/-! ### calls that turn objects -/
mutual
def AV.ids : AV → List Id
  | .own k => [k]
  | .ref id _ => [id]
  | .elt id _ _ => [id]
  | .agg cs => idsL cs
  | .tup cs => idsL cs
  | .clo _ as bs => idsL as ++ idsL bs
  | _ => []
def idsL : List AV → List Id
  | [] => []
  | x :: r => x.ids ++ idsL r
end
def idsM : List (D × AV) → List Id
  | [] => []
  | (_, v) :: r => v.ids ++ idsM r
def idsO (o : Obs) : List Id → List Id
  | [] => []
  | k :: r => (match lookup k o with | some (.box cs) => idsL cs | some (.arr _ _ es) => idsL es.flatten | some (.map es) => idsM es | _ => []) ++ idsO o r
/-- objects, their values put otherwise -/
def Ob.sub (fo : Id → AV) (fr : Id → Nat → AV) : Ob → Ob
  | .box cs => .box (subL fo fr cs)
  | .tok n xs => .tok n xs
  | .arr g n es => .arr g n (subE fo fr es)
  | .map es => .map (subM fo fr es)
def nubI (seen : List Id) : List Id → List Id
  | [] => []
  | k :: r => if seen.contains k = true then nubI seen r else k :: nubI (k :: seen) r
/-- The objects that are reached, each once. -/
def reachN (o : Obs) : Nat → List Id → List Id
  | 0, ids => ids
  | n + 1, ids => ids ++ reachN o n (idsO o ids)
def reachL (o : Obs) (as : List AV) : List Id := nubI [] (reachN o 4 (idsL as))
def idxI (k : Id) : List Id → Option Nat
  | [] => none
  | j :: r => if j = k then some 0 else match idxI k r with | some i => some (i + 1) | none => none
/-- The callee's names. -/
def fwO (L : List Id) (k : Id) : AV := match idxI k L with | some i => .own (0, i) | none => .undef
def fwR (L : List Id) (k : Id) (off : Nat) : AV := match idxI k L with | some i => .ref (0, i) off | none => .undef
def packO (o : Obs) (L : List Id) : Nat → List Id → Option Obs
  | _, [] => some []
  | i, k :: r => match lookup k o, packO o L (i + 1) r with | some ob, some os => some (((0, i), ob.sub (fwO L) (fwR L)) :: os) | _, _ => none
def newId (d : Nat) (k : Id) : Bool := Nat.ble 2 k.1 && k.2 == d
/-- the first number that no name of this slot bears -/
def baseN (d : Nat) : List Id → Nat
  | [] => 2
  | k :: r => if newId d k = true then (if k.1 < baseN d r then baseN d r else k.1 + 1) else baseN d r
/-- The caller's names again; what the callee made is named after the slot of the call's result. -/
def bkId (L K : List Id) (d : Nat) (k : Id) : Option Id := if k.1 = 0 then L[k.2]? else match idxI k K with | some j => some (baseN d L + j, d) | none => none
def bkO (L K : List Id) (d : Nat) (k : Id) : AV := match bkId L K d k with | some j => .own j | none => .undef
def bkR (L K : List Id) (d : Nat) (k : Id) (off : Nat) : AV := match bkId L K d k with | some j => .ref j off | none => .undef
def backO (L K : List Id) (d : Nat) : Obs → Obs
  | [] => []
  | (k, ob) :: r => match bkId L K d k with | some j => (j, ob.sub (bkO L K d) (bkR L K d)) :: backO L K d r | none => backO L K d r
/-- What the caller still holds of what it handed over. -/
def shO (o : Obs) (L : List Id) (d : Nat) (k : Id) : AV := if (L.contains k || newId d k) = true then (match lookup k o with | some (.tok n xs) => .d (.sl n xs) | some (.map _) => (if L.contains k = true then .own k else .undef) | _ => .undef) else .own k
def shR (o : Obs) (L : List Id) (d : Nat) (k : Id) (off : Nat) : AV :=
  if L.contains k = true then (match lookup k o with | some (.box _) => .ref k off | _ => .undef) else if newId d k = true then .undef else .ref k off
def mergeO (L : List Id) (o3 : Obs) (fo : Id → AV) (fr : Id → Nat → AV) (d : Nat) : Obs → Obs
  | [] => []
  | (k, ob) :: r => if L.contains k = true then (match lookup k o3 with | some ob' => (k, ob') :: mergeO L o3 fo fr d r | none => mergeO L o3 fo fr d r)
    else if newId d k = true then mergeO L o3 fo fr d r else (k, ob.sub fo fr) :: mergeO L o3 fo fr d r
def newO (L : List Id) : Obs → Obs
  | [] => []
  | (k, ob) :: r => if L.contains k = true then newO L r else (k, ob) :: newO L r
def keysN : Obs → List Id
  | [] => []
  | (k, _) :: r => if k.1 = 0 then keysN r else k :: keysN r
def packA : List AV → AV
  | [x] => x
  | xs => .tup xs
def gfOf (T : Ctx) : AV → Option (FuncId × List AV × List AV)
  | .d (.fn (.func g) as bs) => if T.gf g = true then some (g, as.map .d, bs.map .d) else none
  | .clo (.func g) as bs => if T.gf g = true then some (g, as, bs) else none
  | _ => none
def gAfter (s : St) (dst : Option Tmp) (L : List Id) (rs : List AV) (o2 : Obs) : St :=
  let d := dst.getD 0
  let K := keysN o2
  let o3 := backO L K d o2
  St.put ⟨subL (shO s.o L d) (shR s.o L d) s.t, mergeO L o3 (shO s.o L d) (shR s.o L d) d s.o ++ newO L o3⟩ dst (packA (subL (bkO L K d) (bkR L K d) rs))
/-- New slices that a call handed back are written no more. -/
def St.iceL (s : St) : List Id → St
  | [] => s
  | k :: r => (match lookup k s.o with
    | some (.arr g n es) => (match datasE s.o g es with | some xs => (s.iceA k n xs).iceL r | none => s.iceL r)
    | some (.box cs) => (match datas s.o cs with | some ds => if ds.all D.cell = true then (s.ice k ds).iceL r else s.iceL r | none => s.iceL r)
    | _ => s.iceL r)
def St.iceN (s : St) (d : Nat) : St := s.iceL ((s.o.map (·.1)).filter (newId d) ++ (s.o.map (·.1)).filter (newId d))
/-- Behind a call: where a slot says so, its results are data from now on. -/
def St.cool (T : Ctx) (dst : Option Tmp) (s : St) : St := if T.wr (1000000 + dst.getD 0) = true then s.iceN (dst.getD 0) else s
/-- Ahead of a call: where a slot says so, the slices that are handed over are written no more. -/
def St.chill (T : Ctx) (dst : Option Tmp) (c : Call) (s : St) : St := if T.wr (2000000 + dst.getD 0) = true then s.iceL ((idsL (c.args.toList.map (s.get T))).filter fun k => k.1 != 0) else s
/-- Where a slot says so, what reads as data is handed over as data (and stays whose it is). -/
def lendA (T : Ctx) (dst : Option Tmp) (o : Obs) (x : AV) : AV := if T.wr (3000000 + dst.getD 0) = true then (match x.data o with | some d => .d d | none => x) else x
/-- An argument; where a slot says so, no slice is handed over as one without room. -/
def argA (T : Ctx) (dst : Option Tmp) (t : TypeId) (o : Obs) (x : AV) : AV :=
  if T.wr (4000000 + dst.getD 0) = true then (match x with
    | .d (.v (.slice none 0 0)) => (match T.td t with | .slice e => .tight (T.sz e) [] | _ => x)
    | x => lendA T dst o (nilfix T t x))
  else lendA T dst o (nilfix T t x)
def gcallL (T : Ctx) (s : St) (dst : Option Tmp) (g : FuncId) (as : List AV) (L : List Id) (κ : St → Option R) : Option R :=
  match packO s.o L 0 L with
  | some o1 => (match T.mf g (subL (fwO L) (fwR L) as) o1 with
    | some (rs, o2) => κ ((gAfter s dst L rs o2).cool T dst)
    | none => none)
  | none => none
def gcallK (T : Ctx) (s : St) (dst : Option Tmp) (g : FuncId) (as : List AV) (κ : St → Option R) : Option R := gcallL T s dst g as (reachL s.o as) κ

/-- An oracle: what a function that only reads gives for data. -/
abbrev Abs := FuncId → List D → Option (List D)

def packD : List D → AV
  | [x] => .d x
  | xs => .tup (xs.map .d)

variable (T : Ctx) (E : Abs)

def boundK (s : St) (x : Option Operand) (dflt : Int) (κ : Int → Option R) : Option R :=
  match x with
  | none => κ dflt
  | some x => match s.get T x with | .d (.v (.int _ i)) => κ i | _ => none

def opK (op : Oper) (s : St) (κ : St → Option R) : Option R :=
  match op.op with
  | .move x => κ (s.put op.dst (nilfix T op.type (s.get T x)))
  | .assign x =>
    match op.dst with
    | some d => (match s.get T x with
      | .d (.v (.slice none 0 0)) => (match T.td op.type with | .slice e => κ (if T.wr d = true then s.newArr d (T.td e).agg (T.sz e) [] else s.newTok d (T.sz e) []) | _ => none)
      | .tight n xs => κ (s.newTok d n xs)
      | v => κ (s.put (some d) v))
    | none => none
  | .pick c a b => match s.get T c with
    | .d (.v (.bool t)) => (match t with | true => κ (s.put op.dst (s.get T a)) | false => κ (s.put op.dst (s.get T b)))
    | _ => none
  | .binOp b t x y _ => match (s.get T x).data s.o, (s.get T y).data s.o with
    | some dx, some dy => (match dBin b (T.td t) (isConst x || isConst y) (T.eqt t) T.cmp dx dy with | some r => κ (s.put op.dst (.d r)) | none => none)
    | _, _ => match b, s.get T x, s.get T y with
      | .eql, .ref _ _, .d (.v (.pointer none)) => (match T.td t with | .ptr _ => κ (s.put op.dst (.d (.v (.bool false)))) | _ => none)
      | .neq, .ref _ _, .d (.v (.pointer none)) => (match T.td t with | .ptr _ => κ (s.put op.dst (.d (.v (.bool true)))) | _ => none)
      | _, _, _ => none
  | .unOp u _ x => match s.get T x with
    | .d (.v (.bool b)) => (match u with | .not => κ (s.put op.dst (.d (.v (.bool (!b))))) | _ => none)
    | .d (.v (.int k n)) => (match u with | .neg => κ (s.put op.dst (.d (.v (.int k (k.wrap (0 - n)))))) | _ => none)
    | _ => none
  | .convert a b x => match T.td a, T.td b, (s.get T x).data s.o with
    | .int _, .int k, some (.v (.int _ n)) => κ (s.put op.dst (.d (.v (.int k (k.wrap n)))))
    | .str, .str, some (.s l) => κ (s.put op.dst (.d (.s l)))
    | .slice e, .str, some (.sl n xs) => (match T.td e with
      | .int .u8 => (match bytesOf xs with | some l => κ (s.put op.dst (.d (.s l))) | none => none)
      | _ => none)
    | _, _, _ => none
  | .alloc t => match op.dst with | some d => if (T.td t).ok = true then κ (s.newBox d ((T.zero t).map zA)) else none | none => none
  | .box t x => if op.type = iceMark ∨ T.wr (5000000 + op.dst.getD 0) = true then
      (match (nilfix T t (s.get T x)).cells with
      | some cs => (match datas s.o cs with
        | some ds => if ds.all D.cell = true then κ (s.put op.dst (.d (.ptr ds))) else none
        | none => none)
      | none => none)
    else (match op.dst, (nilfix T t (s.get T x)).cells with | some d, some cs => κ (s.newBox d cs) | _, _ => none)
  | .store t a x => match s.get T a, (nilfix T t (s.get T x)).cells with
    | .ref id off, some vs => (match lookup id s.o with
      | some (.box cs) => if off + vs.length ≤ cs.length ∧ vs.length = T.sz t ∧ (T.td t).ok = true then κ (St.put { s with o := update id (.box (setCells cs off vs)) s.o } op.dst (.d (.v undef))) else none
      | _ => none)
    | .elt id i off, some vs => (match lookup id s.o with
      | some (.arr g n es) => (match es[i]? with
        | some e => if off + vs.length ≤ e.length ∧ vs.length = T.sz t ∧ (T.td t).ok = true then κ (St.put { s with o := update id (.arr g n (es.set i (setCells e off vs))) s.o } op.dst (.d (.v undef))) else none
        | none => none)
      | _ => none)
    | _, _ => none
  | .load t a => match s.get T a with
    | .ref id off => (match lookup id s.o with
      | some (.box cs) => if off + T.sz t ≤ cs.length ∧ ((T.td t).agg = true ∨ T.sz t = 1) ∧ (T.td t).ok = true then κ (s.put op.dst (valA (T.td t).agg ((cs.drop off).take (T.sz t)))) else none
      | _ => none)
    | .elt id i off => (match lookup id s.o with
      | some (.arr _ _ es) => (match es[i]? with
        | some e => if off + T.sz t ≤ e.length ∧ ((T.td t).agg = true ∨ T.sz t = 1) ∧ (T.td t).ok = true then κ (s.put op.dst (valA (T.td t).agg ((e.drop off).take (T.sz t)))) else none
        | none => none)
      | _ => none)
    | .d (.ptr cs) => if T.sz t ≤ cs.length ∧ ((T.td t).agg = true ∨ T.sz t = 1) ∧ (T.td t).ok = true then κ (s.put op.dst (.d (valD (T.td t).agg (cs.take (T.sz t))))) else none
    | _ => none
  | .nilCheck x => match s.get T x with
    | .d (.ptr cs) => κ (s.put op.dst (.d (.ptr cs)))
    | .ref id off => κ (s.put op.dst (.ref id off))
    | .elt id i off => κ (s.put op.dst (.elt id i off))
    | _ => none
  | .fieldAddr t a i => match T.td t with
    | .strct fs => (match fs[i]? with
      | some (_, off) => (match s.get T a with
        | .ref id o => κ (s.put op.dst (.ref id (o + off)))
        | .elt id i o => κ (s.put op.dst (.elt id i (o + off)))
        | .d (.ptr cs) => if off ≤ cs.length then κ (s.put op.dst (.d (.ptr (cs.drop off)))) else none
        | _ => none)
      | none => none)
    | _ => none
  | .field t x i => match T.td t with
    | .strct fs => (match fs[i]? with
      | some (ft, off) => (match (s.get T x).data s.o with
        | some (.st cs) => if off + T.sz ft ≤ cs.length ∧ ((T.td ft).agg = true ∨ T.sz ft = 1) then κ (s.put op.dst (.d (valD (T.td ft).agg ((cs.drop off).take (T.sz ft))))) else none
        | some _ => none
        | none => (match s.get T x with
          | .agg cs => if off + T.sz ft ≤ cs.length ∧ ((T.td ft).agg = true ∨ T.sz ft = 1) then κ (s.put op.dst (valA (T.td ft).agg ((cs.drop off).take (T.sz ft)))) else none
          | _ => none))
      | none => none)
    | _ => none
  | .indexAddr t a i => match T.td t, (s.get T a).data s.o, s.get T i with
    | .slice e, some (.sl n xs), .d (.v (.int _ i)) => if n = T.sz e then atK xs i fun x => κ (s.put op.dst (.d (.ptr x.cells))) else none
    | .slice e, none, .d (.v (.int _ i)) => (match s.get T a with
      | .own k => (match lookup k s.o with
        | some (.arr _ n es) => if n = T.sz e then atK es i fun _ => κ (s.put op.dst (.elt k i.toNat 0)) else none
        | _ => none)
      | _ => none)
    | .arr m e, some (.ptr cs), .d (.v (.int _ i)) => if 0 ≤ i ∧ i < m ∧ m * T.sz e = cs.length ∧ 1 < m then κ (s.put op.dst (.d (.ptr (cs.drop (i.toNat * T.sz e))))) else none
    | _, _, _ => none
  | .index t x i => match T.td t, s.get T x, s.get T i with
    | .str, .d (.s l), .d (.v (.int _ i)) => atK l i fun b => κ (s.put op.dst (.d (encB b)))
    | _, _, _ => none
  | .slice t x lo hi mx => match T.td t, (s.get T x).data s.o, mx with
    | .str, some (.s l), none => boundK T s lo 0 fun lo => boundK T s hi l.length fun hi => cutK l.length lo hi fun a b => κ (s.put op.dst (.d (.s ((l.take b).drop a))))
    | .slice e, some (.sl n xs), none => if n = T.sz e then boundK T s lo 0 fun lo => boundK T s hi xs.length fun hj => cutK xs.length lo hj fun a b => (match shiftId T op hi s x with | some k => κ (s.shift op.dst k n xs (xs.drop a)) | none => κ (s.put op.dst (.d (.sl n ((xs.take b).drop a))))) else none
    | .slice e, some (.sl n xs), some mx => if n = T.sz e ∧ hi.isSome = true then boundK T s lo 0 fun lo => boundK T s hi xs.length fun hi => boundK T s (some mx) xs.length fun mx => if mx = hi then cutK xs.length lo hi fun a b => κ (s.put op.dst (.tight n ((xs.take b).drop a))) else none else none
    | _, _, _ => none
  | .makeInterface t x => match T.td t with
    | .iface _ => none
    | .other => none
    | _ => (match (nilfix T t (s.get T x)).data s.o with
      | some x => κ (s.put op.dst (.d (.ifc t x)))
      | none => (match s.get T x with
        | .ref id 0 => if id.1 = 0 then none else (match lookup id s.o with
          | some (.box cs) => (match datas s.o cs with | some ds => if ds.all D.cell then κ ((s.ice id ds).put op.dst (.d (.ifc t (.ptr ds)))) else none | none => none)
          | _ => none)
        | _ => none))
  | .build t parts => match T.td t with
    | .strct fs => (match buildK s fs parts.toList ((T.zero t).map zA) with | some cs => κ (s.put op.dst (.agg cs)) | none => none)
    | _ => none
  | .buildSlice t len parts => match T.td t with
    | .slice e => (match datas s.o (parts.toList.map fun p => nilfix T e (s.get T p.2)) with
      | some xs => if parts.toList.map (·.1) = List.range len ∧ len * T.sz e ≤ 16777216 then (match len, op.dst with
          | 0, some d => κ (s.newTok d (T.sz e) [])
          | _, _ => if xs.all (fun x => x.cells.length = T.sz e && x.cells.all D.cell) then (match bldW T op with
              | some d => κ (s.newArr d (T.td e).agg (T.sz e) (xs.map fun x => x.cells.map .d))
              | none => κ (s.put op.dst (.tight (T.sz e) xs))) else none) else none
      | none => none)
    | _ => none
  | .typeAssert x _ t ok => match assertD T t ok (s.get T x) with
    | some v => κ (s.put op.dst v)
    | none => none
  | .extract x i => match s.get T x with
    | .tup xs => (match xs[i]? with | some x => κ (s.put op.dst x) | none => none)
    | _ => none
  | .makeMap t r => match T.td t, op.dst, r with
    | .map _ _, some d, none => κ (s.newMap d)
    | .map _ _, some d, some x => (match s.get T x with | .d (.v (.int _ _)) => κ (s.newMap d) | _ => none)
    | _, _, _ => none
  | .lookup t x i ok => match T.td t, (s.get T i).data s.o with
    | .map kt et, some k => if keyOkT T kt k = true ∧ (T.td et).ok = true then (match s.get T x with
      | .own id => (match lookup id s.o with
        | some (.map es) => (match findM T kt k es 0 with
          | some (some (_, v)) => κ (s.put op.dst (lookA ok v true))
          | some none => κ (s.put op.dst (lookA ok (.d (valD (T.td et).agg (T.zero et))) false))
          | none => none)
        | _ => none)
      | .d (.v (.map none)) => κ (s.put op.dst (lookA ok (.d (valD (T.td et).agg (T.zero et))) false))
      | _ => none) else none
    | _, _ => none
  | .mapUpdate t m k v => match T.td t, s.get T m, (s.get T k).data s.o with
    | .map kt et, .own id, some k => if keyOkT T kt k = true then (match lookup id s.o with
      | some (.map es) => (match putM T kt k (nilfix T et (s.get T v)) es with
        | some es' => κ (St.put { s with o := update id (.map es') s.o } op.dst (.d (.v undef)))
        | none => none)
      | _ => none) else none
    | _, _, _ => none
  | .insert t m k v => match T.td t, s.get T m, (s.get T k).data s.o with
    | .map kt et, .own id, some k => if keyOkT T kt k = true then (match lookup id s.o with
      | some (.map es) => (match putM T kt k (nilfix T et (s.get T v)) es with
        | some es' => κ (St.put { s with o := update id (.map es') s.o } op.dst (.d (.v undef)))
        | none => none)
      | _ => none) else none
    | _, _, _ => none
  | .makeSlice t l c => match T.td t, op.dst, s.get T l, s.get T c with
    | .slice e, some d, .d (.v (.int _ l)), .d (.v (.int _ c)) => if 0 ≤ l ∧ l ≤ c ∧ c ≤ lim ∧ (T.td e).ok = true ∧ (T.sz e ≠ 0) ∧ ((T.td e).agg = true ∨ T.sz e = 1) then
        κ (if T.wr d = true then s.newArr d (T.td e).agg (T.sz e) (List.replicate l.toNat ((T.zero e).map .d)) else s.newTok d (T.sz e) (List.replicate l.toNat (valD (T.td e).agg (T.zero e)))) else none
    | _, _, _, _ => none
  | .makeFunc f as bs => κ (s.put op.dst (.clo f (as.toList.map (s.get T)) (bs.toList.map (s.get T))))
  | .call c => match c.callee with
    | .builtin b => (match b, c.args.toList, c.argTypes.toList with
      | .len, [x], [t] => (match T.td t, (s.get T x).data s.o with
        | .str, some (.s l) => κ (s.put op.dst (.d (.v (.int .i64 l.length))))
        | .slice _, some (.sl _ xs) => κ (s.put op.dst (.d (.v (.int .i64 xs.length))))
        | .slice _, none => (match s.get T x with
          | .own k => (match lookup k s.o with
            | some (.arr _ _ es) => κ (s.put op.dst (.d (.v (.int .i64 es.length))))
            | _ => none)
          | _ => none)
        | .map _ _, some (.v (.map none)) => κ (s.put op.dst (.d (.v (.int .i64 0))))
        | .map _ _, none => (match s.get T x with
          | .own k => (match lookup k s.o with
            | some (.map es) => κ (s.put op.dst (.d (.v (.int .i64 es.length))))
            | _ => none)
          | _ => none)
        | _, _ => none)
      | .max, [x, y], [_, _] => (match s.get T x, s.get T y with
        | .d (.v (.int q a)), .d (.v (.int _ b)) => κ (s.put op.dst (.d (.v (.int q (if b > a then b else a)))))
        | _, _ => none)
      | .min, [x, y], [_, _] => (match s.get T x, s.get T y with
        | .d (.v (.int q a)), .d (.v (.int _ b)) => κ (s.put op.dst (.d (.v (.int q (if b < a then b else a)))))
        | _, _ => none)
      | .delete, [m, k], [t, _] => (match T.td t, s.get T m, (s.get T k).data s.o with
        | .map kt _, .own id, some k => if keyOkT T kt k = true then (match lookup id s.o with
          | some (.map es) => (match delM T kt k es with
            | some es' => κ (St.put { s with o := update id (.map es') s.o } op.dst (.tup []))
            | none => none)
          | _ => none) else none
        | _, _, _ => none)
      | .append, [x, y], [t, t'] => (match T.td t, T.td t', (nilfix T t' (s.get T y)).data s.o with
        | .slice e, .slice _, some (.sl n' ys) => (match s.get T x with
          | .own k => (match lookup k s.o with
            | some (.tok n xs) => if n = T.sz e ∧ n' = n ∧ (xs.length + ys.length ≤ lim ∨ T.small e = true ∧ xs.length + ys.length ≤ lim2) then κ (s.grow op.dst k n xs ys) else none
            | some (.arr g n es) => if n = T.sz e ∧ n' = n ∧ es.length + ys.length ≤ lim then κ (s.growA op.dst k g n es (ys.map fun y => y.cells.map .d)) else none
            | _ => none)
          | x => (match tightOf T t x, op.dst with
            | some (n, xs), some d => if n = T.sz e ∧ n' = n ∧ (xs.length + ys.length ≤ lim ∨ T.small e = true ∧ xs.length + ys.length ≤ lim2) then κ (s.newTok d n (xs ++ ys)) else none
            | _, _ => none))
        | .slice e, .str, some (.s l) => (match s.get T x with
          | .own k => (match lookup k s.o with
            | some (.tok n xs) => if n = T.sz e ∧ n = 1 ∧ xs.length + l.length ≤ lim then κ (s.grow op.dst k n xs (l.map encB)) else none
            | _ => none)
          | _ => none)
        | _, _, _ => none)
      | _, _, _ => none)
    | .value f => (match gfOf T ((s.chill T op.dst c).get T f) with
      | some (g, first, cap) => if c.args.size = c.argTypes.size then gcallK T (s.chill T op.dst c) op.dst g (first ++ ((c.args.toList.zip c.argTypes.toList).map fun p => argA T op.dst p.2 (s.chill T op.dst c).o ((s.chill T op.dst c).get T p.1)) ++ cap) κ else none
      | none => match (s.get T f).data s.o, datas s.o ((c.args.toList.zip c.argTypes.toList).map fun p => nilfix T p.2 (s.get T p.1)) with
      | some (.fn (.func f) first cap), some args => if c.args.size = c.argTypes.size then (match E f (first ++ args ++ cap) with
        | some rs => κ (s.put op.dst (packD rs))
        | none => none) else none
      | _, _ => none)
    | .invoke recv name => (match s.get T recv, datas s.o ((c.args.toList.zip c.argTypes.toList).map fun p => nilfix T p.2 (s.get T p.1)) with
      | .d (.ifc t x), some args => if c.args.size = c.argTypes.size then (match T.meth t name with
        | some g => (match E g (x :: args) with
          | some rs => κ (s.put op.dst (packD rs))
          | none => none)
        | none => none) else none
      | _, _ => none)
  | _ => none
where
  buildK (s : St) (fs : List (TypeId × Nat)) : List (Nat × Operand) → List AV → Option (List AV)
    | [], cs => some cs
    | (i, x) :: r, cs => match fs[i]? with
      | some (ft, off) => (match (nilfix T ft (s.get T x)).cells with
        | some vs => if vs.length = T.sz ft ∧ off + vs.length ≤ cs.length then buildK s fs r (setCells cs off vs) else none
        | none => none)
      | none => none

/-- One operation of a region, with its guard. -/
def opG (ops : List Oper) (o : Oper) (s : St) (κ : St → Option R) : Option R :=
  match o.guard with
  | none => opK T E o s κ
  | some (j, want) => match ((ops[j]?).bind (·.dst)).bind (s.t[·]?) with
    | some (.d (.v (.bool b))) => (match b, want with
      | true, true | false, false => opK T E o s κ
      | _, _ => κ (s.put o.dst (.d (.v undef))))
    | some (.d (.v (.tuple _))) => κ (s.put o.dst (.d (.v undef)))
    | _ => none
def opsK (ops : List Oper) : List Oper → St → (St → Option R) → Option R
  | [], s, κ => κ s
  | o :: r, s, κ => opG T E ops o s fun s => opsK ops r s κ

end
/-- An assignment in a drawn region only puts; a box that stays free of objects is never written. -/
def mv (fr : List Nat) (o : Oper) : Oper := match o.op, o.dst with
  | .assign x, _ => { o with op := .move x }
  | .box _ _, some d => if fr.contains d = true then { o with type := iceMark } else o
  | .buildSlice _ _ _, _ => { o with type := iceMark }
  | .slice _ _ _ _ _, _ => { o with type := iceMark }
  | _, _ => o
/-- Does a box of this region lie in the slot? -/
def boxed (ops : Array Oper) (t : Tmp) : Bool := ops.any fun o => o.dst == some t && (match o.op with | .alloc _ | .box _ _ => true | _ => false)
def isMk (o : Oper) : Bool := match o.op with | .makeInterface _ _ => true | _ => false
/-- What turns objects. -/
def isB (gf : FuncId → Bool) (ops : Array Oper) (fr : List Nat) (o : Oper) : Bool :=
  match o.op with
  | .alloc _ | .store _ _ _ => true
  | .box _ _ => o.type != iceMark
  | .makeInterface _ (.tmp t) => boxed ops t && !fr.contains t
  | .buildSlice _ 0 _ => true
  | .buildSlice _ (_ + 1) _ => o.type != iceMark
  | .slice _ _ _ _ _ => o.type != iceMark
  | .call c => (match c.callee with | .builtin .append => true | .builtin .delete => true | .value (.func g) => gf g | .value _ => true | _ => false)
  | .makeMap _ _ | .mapUpdate _ _ _ _ | .insert _ _ _ _ | .makeSlice _ _ _ => true
  | _ => false
def frOp (ops : Array Oper) (fr : List Nat) (o : Oper) : Bool :=
  (o.looksAt ops).all (fun t => fr.contains t && Nat.blt t 500000) && (match o.dst with | some d => fr.contains d && Nat.blt d 500000 && (decide (fr.headD 0 < 900000) || !fr.contains (500000 + d)) | none => true)
/-- A box that a region makes out of its order: its slot is listed as 800000 + slot. -/
def isNew (fr : List Nat) (o : Oper) : Option Tmp :=
  match o.op, o.dst, o.guard with
  | .alloc _, some d, none => if 800000 ≤ fr.headD 0 ∧ fr.headD 0 < 900000 ∧ fr.contains (800000 + d) = true then some d else none
  | _, _, _ => none
/-- What only reads. -/
def isRdOp : Op → Bool
  | .move _ | .load _ _ | .nilCheck _ | .fieldAddr _ _ _ => true
  | _ => false
/-- An append that may go ahead of what only reads: its slot is listed as 800000 + slot, the list begins with 900000. -/
def isApp (fr : List Nat) (o : Oper) : Option Tmp :=
  match o.op, o.dst, o.guard with
  | .call c, some d, none => (match c.callee with | .builtin .append => if 900000 ≤ fr.headD 0 ∧ fr.contains (800000 + d) = true then some d else none | .value _ => if 900000 ≤ fr.headD 0 ∧ fr.contains (800000 + d) = true then some d else none | _ => none)
  | .makeMap _ none, some d, none => if 900000 ≤ fr.headD 0 ∧ fr.contains (800000 + d) = true then some d else none
  | _, _, _ => none
/-- What only reads beside such an append: what it goes through lies in slots listed as 500000 + slot (they hold the names of boxes). -/
def rdArgs (o : Oper) : List Operand := match o.op with | .move _ => [] | _ => o.op.operands.toList
def isRd (fr : List Nat) (o : Oper) : Bool :=
  isRdOp o.op && o.guard.isNone && (rdArgs o).all (fun x => match x with | .tmp t => fr.contains (500000 + t) && Nat.blt t 300000 | _ => true) && (match o.dst with | some d => !fr.contains d && Nat.blt d 300000 | none => false)
/-- A store, and what looks at slots alone. -/
def isSt (o : Oper) : Bool := match o.op, o.dst, o.guard with | .store _ _ _, none, none => true | _, _, _ => false
def isMvOp : Op → Bool
  | .move _ | .nilCheck _ | .fieldAddr _ _ _ => true
  | _ => false
def isMv (fr : List Nat) (o : Oper) : Bool := isMvOp o.op && o.guard.isNone && (match o.dst with | some d => !fr.contains d | none => false)
/-- What is put there names no such box: slots listed as 500000 + slot. -/
def kOp (fr : List Nat) (o : Oper) : Bool := match o.dst with | some d => fr.contains (500000 + d) && Nat.blt d 300000 | none => true
def Ob.idsB : Ob → List Id
  | .box cs => idsL cs
  | .tok _ _ => []
  | .arr _ _ es => idsL es.flatten
  | .map es => idsM es
/-- Nothing names an object. -/
def freshB (k : Id) (s : St) : Bool := s.t.all (fun x => !x.ids.contains k) && s.o.all fun p => !(p.1 == k) && !p.2.idsB.contains k
/-- A call that is handed no object may go ahead of what only reads, as an append may. -/
def isCallP (fr : List Nat) (o : Oper) : Option (Call × Operand × Tmp) :=
  match o.op, o.dst, o.guard with
  | .call c, some d, none => (match c.callee with | .value f => if (900000 ≤ fr.headD 0 ∧ fr.contains (800000 + d) = true) ∨ (800000 ≤ fr.headD 0 ∧ fr.headD 0 < 900000 ∧ fr.contains (850000 + d) = true) then some (c, f, d) else none | _ => none)
  | _, _, _ => none
def callPre (T : Ctx) (c : Call) (f : Operand) (d : Tmp) (s : St) : Bool :=
  !T.wr (1000000 + d) && (s.o.all (fun p => !newId d p.1) && ((idsL (c.args.toList.map (s.get T))).isEmpty && ((gfOf T (s.get T f)).isSome && (s.get T f).ids.isEmpty)))
def preB (T : Ctx) (fr : List Nat) (o : Oper) (s : St) : Bool :=
  match isNew fr o with
  | some d => freshB (1, d) s
  | none => match isCallP fr o with
    | some (c, f, d) => callPre T c f d s
    | none => true
def kfree (fr : List Nat) (x : AV) : Bool := x.ids.all fun k => !(k.1 == 1 && fr.contains (800000 + k.2))
def kOk (fr : List Nat) (s : St) : Bool := fr.all fun e => !(decide (500000 ≤ e) && decide (e < 800000)) || (match s.t[e - 500000]? with | some x => kfree fr x | none => false)
/-- a pointer to a box that no such append makes anew; no slice -/
def pinT (fr : List Nat) (o : Obs) (x : AV) : Bool :=
  match x with
  | .ref id _ => (match lookup id o with | some (.box _) => true | _ => false) && !(id.1 == 1 && fr.contains (800000 + id.2))
  | .d (.sl _ _) => false
  | .d _ => true
  | .undef => true
  | _ => false
def pOk (fr : List Nat) (s : St) : Bool := fr.all fun e => !(decide (500000 ≤ e) && decide (e < 800000)) || (match s.t[e - 500000]? with | some x => pinT fr s.o x | none => false)
def kGate (fr : List Nat) (s : St) : Bool := (decide (fr.headD 0 < 800000) || (decide (900000 ≤ fr.headD 0) || kOk fr s)) && (decide (fr.headD 0 < 900000) || pOk fr s)
/-- What is put into a listed slot is something. -/
def undOk (fr : List Nat) (s : St) (d : Nat) : Bool := decide (fr.headD 0 < 900000) || (fr.contains d || (!fr.contains (500000 + d) || (match s.t[d]? with | some .undef => false | _ => true)))
/-- These two may change places. -/
def comm (gf : FuncId → Bool) (ops : Array Oper) (fr : List Nat) (a i : Oper) : Bool :=
  a.apart ops i && (match isNew fr a, isNew fr i with
    | some _, some _ => false
    | some _, none => kOp fr i && (!isB gf ops fr i && !isMk i || (isCallP fr i).isSome)
    | none, some _ => kOp fr a && (!isB gf ops fr a && !isMk a || (isCallP fr a).isSome)
    | none, none => (match isB gf ops fr a, isB gf ops fr i with
      | true, true => false
      | true, false => frOp ops fr i || ((isApp fr a).isSome && isRd fr i || isSt a && isMv fr i)
      | false, true => frOp ops fr a || (isRd fr a && (isApp fr i).isSome || isMv fr a && isSt i)
      | false, false => (!isMk a || frOp ops fr a) && (!isMk i || frOp ops fr i)))
/-- What comes before. -/
def anc (ops : Array Oper) : Nat → Nat → List Nat
  | 0, _ => []
  | n + 1, i => match ops[i]? with
    | some o => (o.after.toList.filter (Region.binds .any)).flatMap fun e => e.on :: anc ops n e.on
    | none => []
/-- The like, reckoned the long way: for the proof alone. -/
def drawOkS (gf : FuncId → Bool) (fr : List Nat) (ops : Array Oper) : Bool :=
  (List.range ops.size).all fun i => match ops[i]? with
    | some oi => oi.after.toList.all (fun e => !Region.binds .any e || decide (e.on < i)) &&
      (let up := anc ops ops.size i
       (List.range i).all fun a => up.contains a || (match ops[a]? with | some oa => comm gf ops fr (mv fr oa) (mv fr oi) | none => true))
    | none => true
def nubN (seen : List Nat) : List Nat → List Nat
  | [] => []
  | k :: r => if seen.contains k = true then nubN seen r else k :: nubN (k :: seen) r
def upOne (o : Oper) (acc : List (List Nat)) : List Nat := nubN [] ((o.after.toList.filter (Region.binds .any)).flatMap fun e => e.on :: (acc[e.on]?.getD []))
/-- What comes before each operation. -/
def upsGo : List Oper → List (List Nat) → List (List Nat)
  | [], acc => acc
  | o :: r, acc => upsGo r (acc ++ [upOne o acc])
def drawOk (gf : FuncId → Bool) (fr : List Nat) (ops : Array Oper) : Bool :=
  let U := upsGo ops.toList []
  (List.range ops.size).all fun i => match ops[i]? with
    | some oi => oi.after.toList.all (fun e => !Region.binds .any e || decide (e.on < i)) &&
      (let up := U[i]?.getD []
       (List.range i).all fun a => up.contains a || (match ops[a]? with | some oa => comm gf ops fr (mv fr oa) (mv fr oi) | none => true))
    | none => true
def clear (fr : List Nat) (s : St) : Option Tmp → Bool
  | some d => ((!fr.contains d || (match s.t[d]? with | some x => x.ids.isEmpty | none => false)) && undOk fr s d) && kGate fr s
  | none => kGate fr s

section
variable {R : Type} (T : Ctx) (E : Abs)
def dopsK (fr : List Nat) (ops : List Oper) : List Oper → St → (St → Option R) → Option R
  | [], s, κ => κ s
  | o :: r, s, κ => if preB T fr o s = true then opG T E ops (mv fr o) s fun s' => if clear fr s' o.dst = true then dopsK fr ops r s' κ else none else none
def drawK (fr : List Nat) (ops : Array Oper) (s : St) (κ : St → Option R) : Option R :=
  if (!fr.contains 999999 && (fr.all (fun d => decide (500000 ≤ d) || clear fr s (some d)) && kGate fr s)) = true then dopsK T E fr ops.toList ops.toList s κ else none

inductive Ex where | normal | exit (i : Nat) | goto (l : Nat) | ret

def iter (body : St → (Ex → St → Option R) → Option R) : Nat → St → (Ex → St → Option R) → Option R
  | 0, _, _ => none
  | n + 1, s, κ => body s fun e s => match e with | .normal => iter body n s κ | .exit i => κ (.exit i) s | .goto l => κ (.goto l) s | .ret => κ .ret s

/-- Only these slots are looked at from here on. -/
def keepT (ks : List Nat) : Nat → List AV → List AV
  | _, [] => []
  | i, x :: r => (if ks.contains i then x else .undef) :: keepT ks (i + 1) r
def pickO (ids : List Id) : Obs → Obs
  | [] => []
  | (k, x) :: r => if k.1 = 0 ∨ ids.contains k = true then (k, x) :: pickO ids r else pickO ids r
def closedO (ids : List Id) : Obs → Bool
  | [] => true
  | (_, .box cs) :: r => (idsL cs).all (fun k => k.1 == 0 || ids.contains k) && closedO ids r
  | (_, .tok _ _) :: r => closedO ids r
  | (_, .arr _ _ es) :: r => (idsL es.flatten).all (fun k => k.1 == 0 || ids.contains k) && closedO ids r
  | (_, .map es) :: r => (idsM es).all (fun k => k.1 == 0 || ids.contains k) && closedO ids r
def St.keep (s : St) (ks : List Nat) (κ : St → Option R) : Option R :=
  let t := keepT ks 0 s.t
  let c := reachN s.o 4 (idsL t)
  if closedO c (pickO c s.o) then κ { t := t, o := pickO c s.o } else none

def firstRegion : Code → Nat
  | .region i _ _ => i
  | .seq a _ => firstRegion a
  | .block _ c => firstRegion c
  | .loop c => firstRegion c
  | .scope c => firstRegion c
  | _ => 0

/-- A jump within a scope: where to, and what comes of it. -/
abbrev Jmp (R : Type) := Code → Code → St → (Ex → St → Option R) → Option R
def codeG (jmp : Jmp R) (kp fr : Nat → List Nat) (n : Nat) : Code → St → (Ex → St → Option R) → Option R
  | .skip, s, κ => κ .normal s
  | .label _, s, κ => κ .normal s
  | .region _ ops false, s, κ => opsK T E ops.toList ops.toList s (κ .normal)
  | .region id ops true, s, κ => drawK T E (fr id) ops s (κ .normal)
  | .seq a b, s, κ => codeG jmp kp fr n a s fun e s => match e with | .normal => codeG jmp kp fr n b s κ | .exit i => κ (.exit i) s | .goto l => κ (.goto l) s | .ret => κ .ret s
  | .cond c a b, s, κ => match s.get T c with
    | .d (.v (.bool t)) => (match t with | true => codeG jmp kp fr n a s κ | false => codeG jmp kp fr n b s κ)
    | _ => none
  | .block id c, s, κ => codeG jmp kp fr n c s fun e s => match e with | .normal => κ .normal s | .exit i => if i = id then κ .normal s else κ (.exit i) s | .goto l => κ (.goto l) s | .ret => κ .ret s
  | .loop c, s, κ => iter (fun s κ => s.keep (kp (firstRegion c)) fun s => codeG jmp kp fr n c s κ) n s κ
  | .scope c, s, κ => codeG jmp kp fr n c s fun e s => match e with
    | .goto l => (match findLabel c l with | some rest => s.keep (kp (1000000 + l)) fun s => jmp c rest s κ | none => none)
    | .normal => κ .normal s | .exit i => κ (.exit i) s | .ret => κ .ret s
  | .exit i, s, κ => κ (.exit i) s
  | .goto l, s, κ => κ (.goto l) s
  | .ret, s, κ => κ .ret s
  | _, _, _ => none
def runG (kp fr : Nat → List Nat) (n : Nat) : Nat → Jmp R
  | 0 => fun _ _ _ _ => none
  | m + 1 => fun c rest s κ => codeG T E (runG kp fr n m) kp fr n rest s fun e s => match e with
    | .goto l => (match findLabel c l with | some rest' => s.keep (kp (1000000 + l)) fun s => runG kp fr n m c rest' s κ | none => none)
    | .normal => κ .normal s | .exit i => κ (.exit i) s | .ret => κ .ret s
def codeK (kp fr : Nat → List Nat) (n : Nat) (c : Code) (s : St) (κ : Ex → St → Option R) : Option R := codeG T E (runG T E kp fr n n) kp fr n c s κ
end

/-- The drawn regions' check, once for a whole code; where a region is marked (999999) nothing is reckoned. -/
def drawsOk (gf : FuncId → Bool) (fr : Nat → List Nat) : Code → Bool
  | .region id ops true => (fr id).contains 999999 || drawOk gf (fr id) ops
  | .seq a b => drawsOk gf fr a && drawsOk gf fr b
  | .cond _ a b => drawsOk gf fr a && drawsOk gf fr b
  | .block _ c => drawsOk gf fr c
  | .loop c => drawsOk gf fr c
  | .scope c => drawsOk gf fr c
  | _ => true
/-- A result: a datum; a box that is handed back is written no more. -/
def resD (s : St) (x : AV) : Option D :=
  match x with
  | .ref id off => match lookup id s.o with
    | some (.box cs) => (match datas s.o (cs.drop off) with | some ds => if ds.all D.cell then some (.ptr ds) else none | none => none)
    | _ => none
  | .own k => match lookup k s.o with
    | some (.arr g n es) => (match datasE s.o g es with | some xs => some (.sl n xs) | none => none)
    | _ => (AV.own k).data s.o
  | x => x.data s.o
def resK (T : Ctx) (s : St) : List ResultVar → Option (List D)
  | [] => some []
  | .tmp t :: r => match resD s (s.t.getD t .undef), resK T s r with | some x, some xs => some (x :: xs) | _, _ => none
  | .cell a t :: r => match s.t.getD a .undef with
    | .ref id off => (match lookup id s.o with
      | some (.box cs) => if off + T.sz t ≤ cs.length ∧ ((T.td t).agg = true ∨ T.sz t = 1) ∧ (T.td t).ok = true then (match resD s (valA (T.td t).agg ((cs.drop off).take (T.sz t))), resK T s r with | some x, some xs => some (x :: xs) | _, _ => none) else none
      | _ => none)
    | _ => none
def fnK (T : Ctx) (E : Abs) (kp fr : Nat → List Nat) (n : Nat) (f : Func) (args : List D) : Option (List D) :=
  match f.body with
  | some c => codeK T E kp fr n c { t := args.map .d ++ List.replicate (f.ntmps - args.length) (.d (.v undef)), o := [] } fun e s =>
    match e with
    | .exit _ => none
    | .goto _ => none
    | _ => resK T s f.results.toList
  | none => none

/-- The results as the frame holds them. -/
def outK (T : Ctx) (s : St) : List ResultVar → Option (List AV)
  | [] => some []
  | .tmp t :: r => match outK T s r with | some xs => some (s.t.getD t .undef :: xs) | none => none
  | .cell a t :: r => match s.t.getD a .undef with
    | .ref id off => (match lookup id s.o with
      | some (.box cs) => if off + T.sz t ≤ cs.length ∧ ((T.td t).agg = true ∨ T.sz t = 1) ∧ (T.td t).ok = true then (match outK T s r with | some xs => some (valA (T.td t).agg ((cs.drop off).take (T.sz t)) :: xs) | none => none) else none
      | _ => none)
    | _ => none
/-- The objects that were handed over. -/
def zeroIds : Obs → List Id
  | [] => []
  | (k, _) :: r => if k.1 = 0 then k :: zeroIds r else zeroIds r
/-- What is left of a frame: its results, what it was handed, what these reach. -/
def leave (rs : List AV) (o : Obs) (ids : List Id) : Option (List AV × Obs) := if closedO ids (pickO ids o) = true then some (rs, pickO ids o) else none
/-- A function that turns what it is handed. -/
def gnK (T : Ctx) (E : Abs) (kp fr : Nat → List Nat) (n : Nat) (f : Func) (as : List AV) (o : Obs) : Option (List AV × Obs) :=
  match f.body with
  | some c => codeK T E kp fr n c { t := as ++ List.replicate (f.ntmps - as.length) (.d (.v undef)), o := o } fun e s =>
    match e with
    | .exit _ => none
    | .goto _ => none
    | _ => match outK T s f.results.toList with
      | some rs => leave rs s.o (reachN s.o 4 (idsL rs ++ zeroIds s.o))
      | none => none
  | none => none

end Go.Ab

namespace Go.Ab

/-- What a frame may write of what was there; the boxes that it was handed, and where they lie. -/
structure Fm where
  x : Mut
  z : Id → Nat → Nat → Prop

/-- A frame's values and memory are as its abstract state says. N: what others may write; X: what this call may write of what was there. -/
structure SR (T : Ctx) (N : Mut) (w0 : World) (X : Fm) (γ : Gam) (w : World) (s : St) (a : Act) : Prop where
  inv : Inv γ N s.o w
  t : RVL γ s.o (all γ N s.o) w s.t a.tmps.toList
  defers : a.defers = []
  chg : Chg X.x w0 w
  fresh : ∀ b i, own γ s.o b i → X.x b i ∨ w0.heap.size ≤ b
  pin : ∀ id b q, X.z id b q → id.1 = 0 ∧ (γ id).b = some b ∧ ∃ ob, lookup id s.o = some ob ∧ ob.kd = q ∧ q ≠ 0
  glob : ∀ g cs, T.glob g = some cs → RdC (all γ N s.o) w cs ⟨g, 0, none⟩ 0

theorem own_lt {γ : Gam} {N : Mut} {o : Obs} {w : World} (h : Inv γ N o w) {p : Id × Ob} (hp : p ∈ o) {b : Nat} (hb : (γ p.1).b = some b) : b < w.heap.size := by
  have := h.obs p hp
  obtain ⟨id, ob⟩ := p
  cases ob with
  | box cs =>
    obtain ⟨b', arr, ty, e, hh, _⟩ := this
    have e' : (γ id).b = some b := hb
    rw [e'] at e
    injection e with e
    subst e
    exact (Array.getElem?_eq_some_iff.1 hh).1
  | tok n xs =>
    have e' : (γ id).b = some b := hb
    simp only [RO, e'] at this
    obtain ⟨arr, ty, hh, _⟩ := this
    exact (Array.getElem?_eq_some_iff.1 hh).1
  | arr g n es =>
    have e' : (γ id).b = some b := hb
    simp only [RO, e'] at this
    obtain ⟨arr, ty, hh, _⟩ := this
    exact (Array.getElem?_eq_some_iff.1 hh).1
  | map es =>
    obtain ⟨b', ents, clock, e, hh, _⟩ := this
    have e' : (γ id).b = some b := hb
    rw [e'] at e
    injection e with e
    subst e
    exact (Array.getElem?_eq_some_iff.1 hh).1

theorem SR.core {T : Ctx} {N : Mut} {w0 : World} {X : Fm} {γ γ' : Gam} {w w' : World} {s : St} {o' : Obs} {a : Act} {fo : Id → AV} {fr : Id → Nat → AV}
    (h : SR T N w0 X γ w s a) {X' : Mut} (c : Chg X' w w') (hX : ∀ b i, X' b i → own γ s.o b i)
    (hM : ∀ b i, b < w.heap.size → own γ' o' b i → own γ s.o b i)
    (ho : (∀ x u, Rd (all γ N s.o) w x u → Rd (all γ' N o') w' x u) → ∀ k u, RV γ s.o (all γ N s.o) w (.own k) u → RV γ' o' (all γ' N o') w' (fo k) u)
    (hr : (∀ x u, Rd (all γ N s.o) w x u → Rd (all γ' N o') w' x u) → ∀ id off u, RV γ s.o (all γ N s.o) w (.ref id off) u → RV γ' o' (all γ' N o') w' (fr id off) u)
    (he : (∀ x u, Rd (all γ N s.o) w x u → Rd (all γ' N o') w' x u) → ∀ id i off u, RV γ s.o (all γ N s.o) w (.elt id i off) u → RV γ' o' (all γ' N o') w' (eltO (fo id) i off) u)
    (hz : ∀ id ob, id.1 = 0 → ob.kd ≠ 0 → lookup id s.o = some ob → (γ' id).b = (γ id).b ∧ ∃ ob', lookup id o' = some ob' ∧ ob'.kd = ob.kd)
    (inv' : Keep (all γ N s.o) (all γ' N o') w w' → Inv γ' N o' w') : SR T N w0 X γ' w' ⟨subL fo fr s.t, o'⟩ a := by
  have hk : Keep (all γ N s.o) (all γ' N o') w w' := by
    refine c.keep (fun b i hx => .inr (hX b i hx)) fun b i hb hm => ?_
    rcases hm with hm | hm
    · exact .inl hm
    · exact .inr (hM b i hb hm)
  have hd : ∀ x u, Rd (all γ N s.o) w x u → Rd (all γ' N o') w' x u := fun x u => Rd.keep hk x u
  refine ⟨inv' hk, RVL.sub hd (ho hd) (hr hd) (he hd) _ _ h.t, h.defers, h.chg.trans c fun b i hx => h.fresh b i (hX b i hx), fun b i hm => ?_, fun id b q hb => ?_, fun g cs hg => RdC.keep hk _ _ _ (h.glob g cs hg)⟩
  case refine_2 =>
    obtain ⟨h1, h2, ob, h3, h6, h7⟩ := h.pin id b q hb
    obtain ⟨h4, ob', h5, h8⟩ := hz id ob h1 (by rw [h6]; exact h7) h3
    exact ⟨h1, h4.trans h2, ob', h5, h8.trans h6, h7⟩
  rcases Nat.lt_or_ge b w.heap.size with hb | hb
  · exact h.fresh b i (hM b i hb hm)
  · exact .inr (Nat.le_trans h.chg.size hb)

/-- A pure step of the world. -/
theorem SR.world {T : Ctx} {N : Mut} {w0 : World} {X : Fm} {γ : Gam} {w w' : World} {s : St} {a : Act} (h : SR T N w0 X γ w s a) (c : Chg (fun _ _ => False) w w') : SR T N w0 X γ w' s a := by
  have hh := h.core (γ' := γ) (o' := s.o) (fo := .own) (fr := .ref) c (fun _ _ hx => hx.elim) (fun _ _ _ hm => hm) (fun _ k u hv => hv) (fun _ id off u hv => hv) (fun _ id i off u hv => by simpa only [eltO, RV] using hv) (fun id ob _ _ hl => ⟨rfl, ob, hl, rfl⟩) fun hk => ⟨h.inv.keys, h.inv.apart, h.inv.sep, fun b i hb => Nat.lt_of_lt_of_le (h.inv.old b i hb) c.size, fun p hp => ?_⟩
  · rw [subL_id] at hh
    exact hh
  · have hro := h.inv.obs p hp
    obtain ⟨id, ob⟩ := p
    have hd : ∀ x u, Rd (all γ N s.o) w x u → Rd (all γ N s.o) w' x u := fun x u => Rd.keep hk x u
    cases ob with
    | box cs =>
      obtain ⟨b, arr, ty, e, hb, hv⟩ := hro
      refine ⟨b, arr, ty, e, ?_, RVL.same hd (fun _ _ hv => hv) (fun _ _ _ hv => hv) (fun _ _ _ _ hv => hv) _ _ hv⟩
      rw [c.block b (Array.getElem?_eq_some_iff.1 hb).1 fun _ hf => hf, hb]
    | tok n xs =>
      simp only [RO] at hro ⊢
      cases hg : (γ id).b with
      | none => rw [hg] at hro; exact ⟨hd _ _ hro.1, hro.2⟩
      | some b =>
        rw [hg] at hro
        obtain ⟨arr, ty, hb, h1, h2, h3⟩ := hro
        refine ⟨arr, ty, ?_, h1, h2, RdE.keep hk _ _ _ _ h3⟩
        rw [c.block b (Array.getElem?_eq_some_iff.1 hb).1 fun _ hf => hf, hb]
    | arr g n es =>
      simp only [RO] at hro ⊢
      cases hg : (γ id).b with
      | none => rw [hg] at hro; exact hro
      | some b =>
        rw [hg] at hro
        obtain ⟨arr, ty, hb, h1, h2, h3, us, rest, e, h4⟩ := hro
        refine ⟨arr, ty, ?_, h1, h2, h3, us, rest, e, RVL.same hd (fun _ _ hv => hv) (fun _ _ _ hv => hv) (fun _ _ _ _ hv => hv) _ _ h4⟩
        rw [c.block b (Array.getElem?_eq_some_iff.1 hb).1 fun _ hf => hf, hb]
    | map es =>
      obtain ⟨b, ents, clock, e, hb, h1, h2, h3⟩ := hro
      refine ⟨b, ents, clock, e, ?_, h1, h2, RVL.same hd (fun _ _ hv => hv) (fun _ _ _ hv => hv) (fun _ _ _ _ hv => hv) _ _ h3⟩
      rw [c.block b (Array.getElem?_eq_some_iff.1 hb).1 fun _ hf => hf, hb]

theorem RVL_set {γ : Gam} {o : Obs} {M : Mut} {w : World} {v : AV} {u : Value} (hv : RV γ o M w v u) : ∀ {xs : List AV} {us : List Value} (i : Nat), RVL γ o M w xs us → RVL γ o M w (xs.set i v) (us.set i u)
  | [], us, i, h => by
    simp only [RVL] at h
    subst h
    simp [RVL]
  | x :: xs, us, i, h => by
    simp only [RVL] at h
    obtain ⟨u', us', rfl, h1, h2⟩ := h
    cases i with
    | zero =>
      simp only [List.set_cons_zero, RVL]
      exact ⟨_, _, rfl, hv, h2⟩
    | succ i =>
      simp only [List.set_cons_succ, RVL]
      exact ⟨_, _, rfl, h1, RVL_set hv i h2⟩

theorem SR.put {T : Ctx} {N : Mut} {w0 : World} {X : Fm} {γ : Gam} {w : World} {s : St} {a : Act} (h : SR T N w0 X γ w s a) (d : Option Tmp) {v : AV} {u : Value} (hv : RV γ s.o (all γ N s.o) w v u) :
    SR T N w0 X γ w (s.put d v) (a.put d u) := by
  cases d with
  | none => exact h
  | some d =>
    refine ⟨h.inv, ?_, h.defers, h.chg, h.fresh, h.pin, h.glob⟩
    simp only [St.put, Act.put, Array.toList_setIfInBounds]
    exact RVL_set hv d h.t

/-! ### values of operands -/
theorem SR.get {T : Ctx} {N : Mut} {w0 : World} {X : Fm} {γ : Gam} {w : World} {s : St} {a : Act} (h : SR T N w0 X γ w s a) (x : Operand) : RV γ s.o (all γ N s.o) w (s.get T x) (a.eval x) := by
  cases x with
  | tmp t =>
    simp only [St.get, Act.eval]
    cases ht : s.t[t]? with
    | none => simp [List.getD, ht, RV]
    | some v =>
      obtain ⟨u, hu, hv⟩ := RVL_get h.t ht
      have : a.tmps.getD t undef = u := by
        rw [Array.getD_eq_getD_getElem?]
        simp at hu
        simp [hu]
      rw [this]
      simpa [List.getD, ht] using hv
  | const v =>
    simp only [St.get, Act.eval, RV]
    cases v <;> simp [ofConst, Rd]
  | global g =>
    simp only [St.get, Act.eval]
    cases hg : T.glob g with
    | none => simp [RV]
    | some cs =>
      simp only [RV, Rd]
      exact ⟨_, rfl, h.glob g cs hg⟩
  | func f =>
    simp only [St.get, Act.eval, RV, Rd]
    exact ⟨[], [], rfl, by simp [RdL], by simp [RdL]⟩

theorem nilfix_ok {T : Ctx} {γ : Gam} {o : Obs} {M : Mut} {w : World} (t : TypeId) {v : AV} {u : Value} (h : RV γ o M w v u) : RV γ o M w (nilfix T t v) u := by
  unfold nilfix
  split
  · split
    · simp only [RV, Rd] at h ⊢
      subst h
      exact ⟨none, 0, 0, rfl, rfl, Nat.le_refl _, fun _ => rfl, fun p hp => by simp at hp⟩
    · exact h
  · exact h

theorem RdE_at0 (M : Mut) (w : World) (n : Nat) (xs : List D) (b sk : Nat) : RdE M w n xs ⟨b, sk, none⟩ 0 ↔ RdE M w n xs ⟨b, 0, none⟩ sk := by
  have := RdE_shift M w n xs ⟨b, 0, none⟩ sk 0
  have e : (⟨b, 0, none⟩ : Addr).add sk = ⟨b, sk, none⟩ := by
    by_cases h : sk = 0 <;> simp [Addr.add, h]
  rw [e] at this
  simpa only [Nat.add_zero] using this
theorem tok_rd {γ : Gam} {N : Mut} {o : Obs} {w : World} (hi : Inv γ N o w) {k : Id} {n : Nat} {xs : List D} (hl : lookup k o = some (.tok n xs)) : Rd (all γ N o) w (.sl n xs) (tokVal (γ k) xs.length) := by
  have hro := hi.obs _ (lookup_mem hl)
  simp only [RO] at hro
  simp only [Rd, tokVal]
  cases hb : (γ k).b with
  | none =>
    rw [hb] at hro
    simpa only [Rd] using hro.1
  | some b =>
    rw [hb] at hro
    obtain ⟨arr, ty, _, h1, _, h3⟩ := hro
    exact ⟨_, _, _, rfl, rfl, h1, fun hn => by simp at hn, fun p hp => by injection hp with hp; subst hp; exact (RdE_at0 ..).2 h3⟩

mutual
theorem data_ok {γ : Gam} {N : Mut} {o : Obs} {w : World} (hi : Inv γ N o w) : ∀ (v : AV) (u : Value) (d : D), RV γ o (all γ N o) w v u → v.data o = some d → Rd (all γ N o) w d u
  | .d x, u, d, h, e => by
    simp only [AV.data, Option.some.injEq] at e
    subst e
    simpa only [RV] using h
  | .own k, u, d, h, e => by
    simp only [RV] at h
    obtain ⟨ob, l, hl, hs, rfl⟩ := h
    cases ob with
    | box cs => simp [Ob.sl] at hs
    | arr g n es => simp [AV.data, hl] at e
    | map es => simp [AV.data, hl] at e
    | tok n xs =>
      simp only [Ob.sl, Option.some.injEq] at hs
      subst hs
      simp only [AV.data, hl, Option.some.injEq] at e
      subst e
      exact tok_rd hi hl
  | .tight n xs, u, d, h, e => by
    simp only [AV.data, Option.some.injEq] at e
    subst e
    simp only [RV] at h
    exact h.1
  | .ref id off, u, d, h, e => by simp [AV.data] at e
  | .elt id i off, u, d, h, e => by simp [AV.data] at e
  | .agg cs, u, d, h, e => by
    simp only [RV] at h
    obtain ⟨us, rfl, h⟩ := h
    simp only [AV.data] at e
    split at e
    · rename_i ds hds
      simp only [Option.some.injEq] at e
      subst e
      simp only [Rd]
      exact ⟨us, rfl, datas_ok hi cs us ds h hds⟩
    · simp at e
  | .tup cs, u, d, h, e => by simp [AV.data] at e
  | .clo f as bs, u, d, h, e => by
    simp only [RV] at h
    obtain ⟨xs, ys, rfl, h1, h2⟩ := h
    simp only [AV.data] at e
    split at e
    · rename_i d1 d2 hd1 hd2
      simp only [Option.some.injEq] at e
      subst e
      simp only [Rd]
      exact ⟨xs, ys, rfl, datas_ok hi as xs d1 h1 hd1, datas_ok hi bs ys d2 h2 hd2⟩
    · simp at e
  | .undef, u, d, h, e => by simp [AV.data] at e
theorem datas_ok {γ : Gam} {N : Mut} {o : Obs} {w : World} (hi : Inv γ N o w) : ∀ (vs : List AV) (us : List Value) (ds : List D), RVL γ o (all γ N o) w vs us → datas o vs = some ds → RdL (all γ N o) w ds us
  | [], us, ds, h, e => by
    simp only [datas, Option.some.injEq] at e
    subst e
    simpa only [RVL, RdL] using h
  | v :: vs, us, ds, h, e => by
    simp only [RVL] at h
    obtain ⟨u, us', rfl, h1, h2⟩ := h
    simp only [datas] at e
    split at e
    · rename_i x y hx hy
      simp only [Option.some.injEq] at e
      subst e
      simp only [RdL]
      exact ⟨u, us', rfl, data_ok hi v u x h1 hx, datas_ok hi vs us' y h2 hy⟩
    · simp at e
end
theorem SR.data {T : Ctx} {N : Mut} {w0 : World} {X : Fm} {γ : Gam} {w : World} {s : St} {a : Act} (h : SR T N w0 X γ w s a) {x : Operand} {d : D} (e : (s.get T x).data s.o = some d) : Rd (all γ N s.o) w d (a.eval x) :=
  data_ok h.inv _ _ _ (h.get x) e

end Go.Ab

namespace Go.Ab

theorem erase_sub {id : Id} {p : Id × Ob} : ∀ {o : Obs}, p ∈ erase id o → p ∈ o ∧ p.1 ≠ id
  | [], h => by simp [erase] at h
  | (k, x) :: r, h => by
    simp only [erase] at h
    split at h
    · have := erase_sub h
      exact ⟨List.mem_cons_of_mem _ this.1, this.2⟩
    · rename_i hne
      rcases List.mem_cons.1 h with e | h
      · subst e
        exact ⟨by simp, hne⟩
      · have := erase_sub h
        exact ⟨List.mem_cons_of_mem _ this.1, this.2⟩
theorem erase_nodup {id : Id} : ∀ {o : Obs}, (o.map (·.1)).Nodup → ((erase id o).map (·.1)).Nodup
  | [], h => by simp [erase]
  | (k, x) :: r, h => by
    simp only [List.map_cons, List.nodup_cons] at h
    simp only [erase]
    split
    · exact erase_nodup h.2
    · simp only [List.map_cons, List.nodup_cons]
      refine ⟨fun hm => h.1 ?_, erase_nodup h.2⟩
      obtain ⟨p, hp, e⟩ := List.mem_map.1 hm
      exact List.mem_map.2 ⟨p, (erase_sub hp).1, e⟩
theorem mem_erase {id : Id} {p : Id × Ob} : ∀ {o : Obs}, p ∈ o → p.1 ≠ id → p ∈ erase id o
  | [], h, _ => by simp at h
  | (k, x) :: r, h, hne => by
    simp only [erase]
    rcases List.mem_cons.1 h with e | h
    · subst e
      simp at hne
      simp [hne]
    · split
      · exact mem_erase h hne
      · exact List.mem_cons_of_mem _ (mem_erase h hne)

theorem subO_eq (fo : Id → AV) (fr : Id → Nat → AV) : ∀ o : Obs, subO fo fr o = o.map fun p => (p.1, p.2.sub fo fr)
  | [] => rfl
  | (k, .box cs) :: r => by simp [subO, subO_eq fo fr r, Ob.sub]
  | (k, .tok n xs) :: r => by simp [subO, subO_eq fo fr r, Ob.sub]
  | (k, .arr g n es) :: r => by simp [subO, subO_eq fo fr r, Ob.sub]
  | (k, .map es) :: r => by simp [subO, subO_eq fo fr r, Ob.sub]
theorem subO_keys (fo : Id → AV) (fr : Id → Nat → AV) (o : Obs) : (subO fo fr o).map (·.1) = o.map (·.1) := by
  rw [subO_eq, List.map_map]
  rfl
theorem Ob.sub_sl (fo : Id → AV) (fr : Id → Nat → AV) (ob : Ob) : (ob.sub fo fr).sl = ob.sl := by
  have key : ∀ es : List (List AV), (subE fo fr es).length = es.length := by
    intro es
    induction es with
    | nil => rfl
    | cons e r ih => simp [subE, ih]
  cases ob <;> simp [Ob.sub, Ob.sl, key]
theorem Ob.sub_kd (fo : Id → AV) (fr : Id → Nat → AV) (ob : Ob) : (ob.sub fo fr).kd = ob.kd := by cases ob <;> rfl
theorem subL_length (fo : Id → AV) (fr : Id → Nat → AV) : ∀ xs : List AV, (subL fo fr xs).length = xs.length
  | [] => rfl
  | x :: xs => by simp [subL, subL_length fo fr xs]
theorem subL_append (fo : Id → AV) (fr : Id → Nat → AV) : ∀ xs ys : List AV, subL fo fr (xs ++ ys) = subL fo fr xs ++ subL fo fr ys
  | [], ys => rfl
  | x :: xs, ys => by simp [subL, subL_append fo fr xs ys]
theorem subE_flat (fo : Id → AV) (fr : Id → Nat → AV) : ∀ es : List (List AV), (subE fo fr es).flatten = subL fo fr es.flatten
  | [] => rfl
  | e :: r => by simp [subE, subE_flat fo fr r, subL_append]
theorem subE_eq (fo : Id → AV) (fr : Id → Nat → AV) : ∀ es : List (List AV), subE fo fr es = es.map (subL fo fr)
  | [] => rfl
  | e :: r => by simp [subE, subE_eq fo fr r]
theorem subE_id (es : List (List AV)) : subE .own .ref es = es := by
  induction es with
  | nil => rfl
  | cons e r ih => simp [subE, ih, subL_id]
theorem Ob.sub_may (fo : Id → AV) (fr : Id → Nat → AV) (ob : Ob) : (ob.sub fo fr).may = ob.may := by cases ob <;> rfl
theorem subM_val (fo : Id → AV) (fr : Id → Nat → AV) : ∀ es : List (D × AV), (subM fo fr es).map (·.2) = subL fo fr (es.map (·.2))
  | [] => rfl
  | (k, v) :: r => by simp [subM, subL, subM_val fo fr r]
theorem subM_key (fo : Id → AV) (fr : Id → Nat → AV) : ∀ es : List (D × AV), (subM fo fr es).map (·.1) = es.map (·.1)
  | [] => rfl
  | (k, v) :: r => by simp [subM, subM_key fo fr r]
theorem subM_keyV (fo : Id → AV) (fr : Id → Nat → AV) : ∀ es : List (D × AV), (subM fo fr es).map (fun e => keyV e.1) = es.map (fun e => keyV e.1)
  | [] => rfl
  | (k, v) :: r => by simp [subM, subM_keyV fo fr r]
theorem subM_id : ∀ es : List (D × AV), subM .own .ref es = es
  | [] => rfl
  | (k, v) :: r => by simp [subM, AV.sub_id, subM_id r]
theorem idsM_eq : ∀ es : List (D × AV), idsM es = idsL (es.map (·.2))
  | [] => rfl
  | (k, v) :: r => by simp [idsM, idsL, idsM_eq r]
theorem lookup_subO (fo : Id → AV) (fr : Id → Nat → AV) (id : Id) : ∀ o : Obs, lookup id (subO fo fr o) = (lookup id o).map (Ob.sub fo fr)
  | [] => rfl
  | (k, .box cs) :: r => by
    simp only [subO, lookup]
    split
    · rfl
    · exact lookup_subO fo fr id r
  | (k, .tok n xs) :: r => by
    simp only [subO, lookup]
    split
    · rfl
    · exact lookup_subO fo fr id r
  | (k, .map es) :: r => by
    simp only [subO, lookup]
    split
    · rfl
    · exact lookup_subO fo fr id r
  | (k, .arr g n es) :: r => by
    simp only [subO, lookup]
    split
    · rfl
    · exact lookup_subO fo fr id r
theorem lookup_erase {id k : Id} (h : k ≠ id) : ∀ o : Obs, lookup k (erase id o) = lookup k o
  | [] => rfl
  | (j, x) :: r => by
    simp only [erase, lookup]
    split
    · rename_i e
      subst e
      rw [if_neg (Ne.symm h)]
      exact lookup_erase h r
    · simp only [lookup]
      rw [lookup_erase h r]

def upd (γ : Gam) (id : Id) (g : Gh) : Gam := fun k => if k = id then g else γ k
theorem upd_same (γ : Gam) (id : Id) (g : Gh) : upd γ id g id = g := by simp [upd]
theorem upd_ne (γ : Gam) {id k : Id} (g : Gh) (h : k ≠ id) : upd γ id g k = γ k := by simp [upd, h]

/-- What an object of the old state becomes, if it isn't the one that is dropped. -/
theorem RO.sub {γ γ' : Gam} {o o' : Obs} {M M' : Mut} {w w' : World} {fo : Id → AV} {fr : Id → Nat → AV} (hk : Keep M M' w w') (id : Id) (ob : Ob)
    (hg : γ' id = γ id) (hb : ∀ b, (γ id).b = some b → w'.heap[b]? = w.heap[b]?)
    (ho : ∀ k u, RV γ o M w (.own k) u → RV γ' o' M' w' (fo k) u) (hr : ∀ id off u, RV γ o M w (.ref id off) u → RV γ' o' M' w' (fr id off) u)
    (he : ∀ id i off u, RV γ o M w (.elt id i off) u → RV γ' o' M' w' (eltO (fo id) i off) u)
    (h : RO γ o M w id ob) : RO γ' o' M' w' id (ob.sub fo fr) := by
  have hd : ∀ x u, Rd M w x u → Rd M' w' x u := fun x u => Rd.keep hk x u
  cases ob with
  | box cs =>
    obtain ⟨b, arr, ty, e, hh, hv⟩ := h
    exact ⟨b, arr, ty, by rw [hg]; exact e, by rw [hb b e]; exact hh, RVL.sub hd ho hr he _ _ hv⟩
  | tok n xs =>
    simp only [RO, Ob.sub] at h ⊢
    rw [hg]
    cases e : (γ id).b with
    | none => rw [e] at h; exact ⟨hd _ _ h.1, h.2⟩
    | some b =>
      rw [e] at h
      obtain ⟨arr, ty, hh, h1, h2, h3⟩ := h
      exact ⟨arr, ty, by rw [hb b e]; exact hh, h1, h2, RdE.keep hk _ _ _ _ h3⟩
  | arr g n es =>
    simp only [RO, Ob.sub] at h ⊢
    rw [hg]
    cases e : (γ id).b with
    | none => rw [e] at h; exact ⟨by rw [h.1]; rfl, h.2⟩
    | some b =>
      rw [e] at h
      obtain ⟨arr, ty, hh, h1, h2, h3, us, rest, e2, h4⟩ := h
      refine ⟨arr, ty, by rw [hb b e]; exact hh, by rw [subE_eq, List.length_map]; exact h1, h2, fun x hx => ?_, us, rest, e2, by rw [subE_flat]; exact RVL.sub hd ho hr he _ _ h4⟩
      rw [subE_eq] at hx
      obtain ⟨y, hy, rfl⟩ := List.mem_map.1 hx
      rw [subL_length]
      exact h3 y hy
  | map es =>
    simp only [RO, Ob.sub] at h ⊢
    obtain ⟨b, ents, clock, e, hh, h1, h2, h3⟩ := h
    refine ⟨b, ents, clock, by rw [hg]; exact e, by rw [hb b e]; exact hh, h1, by rw [subM_keyV]; exact h2, ?_⟩
    rw [subM_val]
    exact RVL.sub hd ho hr he _ _ h3

/-- A new object under a name: what was under it before is dropped. -/
theorem SR.new {T : Ctx} {N : Mut} {w0 : World} {X : Fm} {γ : Gam} {w w' : World} {s : St} {a : Act} (h : SR T N w0 X γ w s a) (c : Chg (fun _ _ => False) w w')
    (id : Id) (g : Gh) (ob : Ob) (hg : ∀ b, g.b = some b → w.heap.size ≤ b ∧ b < w'.heap.size)
    (hro : ∀ (γ' : Gam) (o' : Obs), Keep (all γ N s.o) (all γ' N o') w w' → γ' id = g → (∀ x u, RV γ s.o (all γ N s.o) w x u → RV γ' o' (all γ' N o') w' (x.sub (dropO id s) (dropR id)) u) → (∀ b i, N b i → b < w.heap.size) → (∀ b i, w.heap.size ≤ b → b < w'.heap.size → own γ' o' b i → g.b = some b ∧ ob.may g i) → RO γ' o' (all γ' N o') w' id ob) (hid : id.1 ≠ 0 := by simp) :
    SR T N w0 X (upd γ id g) w' ⟨subL (dropO id s) (dropR id) s.t, (id, ob) :: subO (dropO id s) (dropR id) (erase id s.o)⟩ a := by
  have hsub : ∀ p ∈ subO (dropO id s) (dropR id) (erase id s.o), p.1 ≠ id ∧ ∃ q ∈ s.o, q.1 = p.1 ∧ p.2 = q.2.sub (dropO id s) (dropR id) := by
    intro p hp
    rw [subO_eq] at hp
    obtain ⟨q, hq, rfl⟩ := List.mem_map.1 hp
    exact ⟨(erase_sub hq).2, q, (erase_sub hq).1, rfl, rfl⟩
  have hown : ∀ b i, own (upd γ id g) ((id, ob) :: subO (dropO id s) (dropR id) (erase id s.o)) b i → own γ s.o b i ∨ (g.b = some b ∧ ob.may g i) := by
    rintro b i ⟨p, hp, hb, hm⟩
    rcases List.mem_cons.1 hp with e | hp
    · subst e
      simp only [upd_same] at hb hm
      exact .inr ⟨hb, hm⟩
    · obtain ⟨hne, q, hq, e, e2⟩ := hsub p hp
      rw [upd_ne γ g hne, ← e] at hb hm
      rw [e2, Ob.sub_may] at hm
      exact .inl ⟨q, hq, hb, hm⟩
  have ho : ∀ M', (∀ x u, Rd (all γ N s.o) w x u → Rd M' w' x u) → ∀ k u, RV γ s.o (all γ N s.o) w (.own k) u → RV (upd γ id g) ((id, ob) :: subO (dropO id s) (dropR id) (erase id s.o)) M' w' (dropO id s k) u := by
    intro M' hd k u hv
    simp only [RV] at hv
    obtain ⟨ob1, l, hl, hs, rfl⟩ := hv
    by_cases e : k = id
    · cases ob1 with
      | box cs => simp [Ob.sl] at hs
      | arr g n es =>
        have e1 : dropO id s k = .undef := by subst e; simp [dropO, hl]
        rw [e1]
        simp only [RV]
      | map es =>
        have e1 : dropO id s k = .undef := by subst e; simp [dropO, hl]
        rw [e1]
        simp only [RV]
      | tok n xs =>
        simp only [Ob.sl, Option.some.injEq] at hs
        subst hs
        have e1 : dropO id s k = .d (.sl n xs) := by subst e; simp [dropO, hl]
        rw [e1]
        simp only [RV]
        exact hd _ _ (tok_rd h.inv hl)
    · have e1 : dropO id s k = .own k := by simp [dropO, e]
      rw [e1]
      simp only [RV]
      refine ⟨ob1.sub (dropO id s) (dropR id), l, ?_, by rw [Ob.sub_sl]; exact hs, by rw [upd_ne γ g e]⟩
      simp only [lookup]
      rw [if_neg (Ne.symm e), lookup_subO, lookup_erase e, hl]
      rfl
  have he : ∀ M', ∀ k i off u, RV γ s.o (all γ N s.o) w (.elt k i off) u → RV (upd γ id g) ((id, ob) :: subO (dropO id s) (dropR id) (erase id s.o)) M' w' (eltO (dropO id s k) i off) u := by
    intro M' k i off u hv
    simp only [RV] at hv
    obtain ⟨b, g', n, es, hb, hl, rfl⟩ := hv
    by_cases e : k = id
    · have e1 : dropO id s k = .undef := by subst e; simp [dropO, hl]
      rw [e1]
      simp only [eltO, RV]
    · have e1 : dropO id s k = .own k := by simp [dropO, e]
      rw [e1]
      simp only [eltO, RV]
      refine ⟨b, g', n, subE (dropO id s) (dropR id) es, by rw [upd_ne γ g e]; exact hb, ?_, rfl⟩
      simp only [lookup]
      rw [if_neg (Ne.symm e), lookup_subO, lookup_erase e, hl]
      rfl
  have hr : ∀ M', ∀ i off u, RV γ s.o (all γ N s.o) w (.ref i off) u → RV (upd γ id g) ((id, ob) :: subO (dropO id s) (dropR id) (erase id s.o)) M' w' (dropR id i off) u := by
    intro M' i off u hv
    by_cases e : i = id
    · have e1 : dropR id i off = .undef := by simp [dropR, e]
      rw [e1]
      simp only [RV]
    · have e1 : dropR id i off = .ref i off := by simp [dropR, e]
      rw [e1]
      simp only [RV] at hv ⊢
      rw [upd_ne γ g e]
      exact hv
  refine h.core c (fun _ _ hx => hx.elim) (fun b i hb hm => ?_) (fun hd => ho _ hd) (fun hd => hr _) (fun hd => he _) (fun i ob1 hi _ hl => ?_) fun hk => ⟨?_, ?_, ?_, fun b i hb => Nat.lt_of_lt_of_le (h.inv.old b i hb) c.size, ?_⟩
  case refine_2 =>
    have hne : i ≠ id := fun e => hid (e ▸ hi)
    refine ⟨by rw [upd_ne γ g hne], ob1.sub (dropO id s) (dropR id), ?_, Ob.sub_kd ..⟩
    simp only [lookup]
    rw [if_neg (Ne.symm hne), lookup_subO, lookup_erase hne, hl]
    rfl
  · rcases hown b i hm with hm | ⟨hm, _⟩
    · exact hm
    · have := (hg b hm).1
      omega
  · simp only [List.map_cons, List.nodup_cons, subO_keys]
    refine ⟨fun hm => ?_, erase_nodup h.inv.keys⟩
    obtain ⟨p, hp, e⟩ := List.mem_map.1 hm
    exact (erase_sub hp).2 e
  · have side : ∀ p, p ∈ (id, ob) :: subO (dropO id s) (dropR id) (erase id s.o) → ∀ b, (upd γ id g p.1).b = some b → (p.1 = id ∧ w.heap.size ≤ b) ∨ (p.1 ≠ id ∧ b < w.heap.size ∧ ∃ q ∈ s.o, q.1 = p.1 ∧ (γ q.1).b = some b) := by
      intro p hp b hb
      rcases List.mem_cons.1 hp with e | hp
      · subst e
        simp only [upd_same] at hb
        exact .inl ⟨rfl, (hg b hb).1⟩
      · obtain ⟨hne, q, hq, e, e2⟩ := hsub p hp
        rw [upd_ne γ g hne, ← e] at hb
        exact .inr ⟨hne, own_lt h.inv hq hb, q, hq, e, hb⟩
    intro p hp q hq b hb hb'
    rcases side p hp b hb with ⟨e, hlt⟩ | ⟨hne, hlt, p', hp', e, hbp⟩ <;> rcases side q hq b hb' with ⟨e', hlt'⟩ | ⟨hne', hlt', q', hq', e', hbq⟩
    · rw [e, e']
    · omega
    · omega
    · rw [← e, ← e']
      exact h.inv.apart p' hp' q' hq' b hbp hbq
  · intro p hp b hb i hn
    rcases List.mem_cons.1 hp with e | hp
    · subst e
      simp only [upd_same] at hb
      have := (hg b hb).1
      have := h.inv.old b i hn
      omega
    · obtain ⟨hne, q, hq, e, e2⟩ := hsub p hp
      rw [upd_ne γ g hne, ← e] at hb
      exact h.inv.sep q hq b hb i hn
  · intro p hp
    rcases List.mem_cons.1 hp with e | hp
    · subst e
      refine hro _ _ hk (upd_same γ id g) (fun x u hx => RV.sub (fun x u => Rd.keep hk x u) (ho _ fun x u => Rd.keep hk x u) (hr _) (he _) x u hx) h.inv.old fun b i hb hb' hm => ?_
      · rcases hown b i hm with ⟨q, hq, hqb, _⟩ | hm
        · have := own_lt h.inv hq hqb
          omega
        · exact hm
    · obtain ⟨hne, q, hq, e, e2⟩ := hsub p hp
      rw [e2, ← e]
      refine RO.sub hk q.1 q.2 (upd_ne γ g (by rw [e]; exact hne)) (fun b hb => ?_) (ho _ fun x u => Rd.keep hk x u) (hr _) (he _) (h.inv.obs q hq)
      exact c.block b (own_lt h.inv hq hb) fun _ hf => hf


theorem RVL.map {γ γ' : Gam} {o o' : Obs} {M M' : Mut} {w w' : World} {fo : Id → AV} {fr : Id → Nat → AV}
    (tr : ∀ x u, RV γ o M w x u → RV γ' o' M' w' (x.sub fo fr) u) : ∀ (xs : List AV) (us : List Value), RVL γ o M w xs us → RVL γ' o' M' w' (subL fo fr xs) us
  | [], us, h => by simpa only [RVL, subL] using h
  | x :: xs, us, h => by
    simp only [RVL, subL] at h ⊢
    obtain ⟨u, us', e, h1, h2⟩ := h
    exact ⟨u, us', e, tr x u h1, RVL.map tr xs us' h2⟩

theorem subL_set (fo : Id → AV) (fr : Id → Nat → AV) (v : AV) : ∀ (xs : List AV) (i : Nat), subL fo fr (xs.set i v) = (subL fo fr xs).set i (v.sub fo fr)
  | [], i => by simp [subL]
  | x :: xs, 0 => by simp [subL]
  | x :: xs, i + 1 => by simp [subL, subL_set fo fr v xs i]

theorem heap_alloc (w : World) (ob : Obj) : (w.alloc ob).heap[w.heap.size]? = some ob := by
  show (w.heap.push ob)[w.heap.size]? = some ob
  simp

/-- A new variable in memory. -/
theorem SR.newBox {T : Ctx} {N : Mut} {w0 : World} {X : Fm} {γ : Gam} {w : World} {s : St} {a : Act} (h : SR T N w0 X γ w s a) (d : Tmp) {cs : List AV} {us : List Value} (ty : TypeId) (hc : RVL γ s.o (all γ N s.o) w cs us) :
    ∃ γ', SR T N w0 X γ' (w.alloc (.cells us.toArray ty)) (s.newBox d cs) (a.put (some d) (.pointer (some ⟨w.heap.size, 0, none⟩))) := by
  have hn := h.new (Chg.alloc w (.cells us.toArray ty)) (1, d) ⟨some w.heap.size, 0, .slice none 0 0, 0⟩ (.box (subL (dropO (1, d) s) (dropR (1, d)) cs)) (fun b hb => by
      simp only [Option.some.injEq] at hb
      subst hb
      simp) (fun γ' o' hk hg tr _ _ => ⟨w.heap.size, us.toArray, ty, by rw [hg], heap_alloc _ _, by
      simpa using RVL.map tr cs us hc⟩)
  exact ⟨_, hn.put (some d) (v := .ref (1, d) 0) (u := .pointer (some ⟨w.heap.size, 0, none⟩)) (by
    simp only [RV, upd_same]
    exact ⟨_, rfl, rfl⟩)⟩

/-- A new map. -/
theorem SR.newMap {T : Ctx} {N : Mut} {w0 : World} {X : Fm} {γ : Gam} {w : World} {s : St} {a : Act} (h : SR T N w0 X γ w s a) (d : Tmp) :
    ∃ γ', SR T N w0 X γ' (w.alloc (.map #[] 0)) (s.newMap d) (a.put (some d) (.map (some w.heap.size))) := by
  have hn := h.new (Chg.alloc w (.map #[] 0)) (1, d) ⟨some w.heap.size, 0, .slice none 0 0, 0⟩ (.map []) (fun b hb => by
      simp only [Option.some.injEq] at hb
      subst hb
      simp) (fun γ' o' hk hg tr _ _ => ⟨w.heap.size, #[], 0, by rw [hg], heap_alloc _ _, MapKept.stamped_empty 0, rfl, by simp [RVL]⟩)
  exact ⟨_, hn.put (some d) (v := .own (1, d)) (u := .map (some w.heap.size)) (by
    simp only [RV, upd_same, lookup, if_true]
    exact ⟨.map [], .m, rfl, rfl, rfl⟩)⟩

/-- A new slice of the frame's own that has no memory yet. -/
theorem SR.newNil {T : Ctx} {N : Mut} {w0 : World} {X : Fm} {γ : Gam} {w : World} {s : St} {a : Act} (h : SR T N w0 X γ w s a) (d : Tmp) (n : Nat) :
    ∃ γ', SR T N w0 X γ' w (s.newTok d n []) (a.put (some d) (.slice none 0 0)) := by
  have hn := h.new (Chg.refl _ w) (1, d) ⟨none, 0, .slice none 0 0, 0⟩ (.tok n []) (fun b hb => by simp at hb) (fun γ' o' hk hg tr _ _ => by
    simp only [RO, hg, Rd]
    exact ⟨⟨none, 0, 0, rfl, rfl, Nat.le_refl _, fun _ => rfl, fun p hp => by simp at hp⟩, none, 0, rfl⟩)
  exact ⟨_, hn.put (some d) (v := .own (1, d)) (u := .slice none 0 0) (by
    simp only [RV, upd_same, lookup, if_true]
    exact ⟨.tok n [], .n 0, rfl, rfl, rfl⟩)⟩

/-- The like, whose elements may be written. -/
theorem SR.newNilA {T : Ctx} {N : Mut} {w0 : World} {X : Fm} {γ : Gam} {w : World} {s : St} {a : Act} (h : SR T N w0 X γ w s a) (d : Tmp) (g : Bool) (n : Nat) :
    ∃ γ', SR T N w0 X γ' w (s.newArr d g n []) (a.put (some d) (.slice none 0 0)) := by
  have hn := h.new (Chg.refl _ w) (1, d) ⟨none, 0, .slice none 0 0, 0⟩ (.arr g n []) (fun b hb => by simp at hb) (fun γ' o' hk hg tr _ _ => by
    simp only [RO, hg]
    exact ⟨trivial, trivial⟩)
  exact ⟨_, hn.put (some d) (v := .own (1, d)) (u := .slice none 0 0) (by
    simp only [RV, upd_same, lookup, if_true]
    exact ⟨.arr g n [], .n 0, rfl, rfl, rfl⟩)⟩

/-- A slice without room behind it becomes the frame's own: whatever is added to it goes elsewhere. -/
theorem SR.newTight {T : Ctx} {N : Mut} {w0 : World} {X : Fm} {γ : Gam} {w : World} {s : St} {a : Act} (h : SR T N w0 X γ w s a) (d : Tmp) {n : Nat} {xs : List D} {u : Value} (hu : RV γ s.o (all γ N s.o) w (.tight n xs) u) :
    ∃ γ', SR T N w0 X γ' w (s.newTok d n xs) (a.put (some d) u) := by
  have hn := h.new (Chg.refl _ w) (1, d) ⟨none, 0, u, 0⟩ (.tok n xs) (fun b hb => by simp at hb) (fun γ' o' hk hg tr _ _ => by
    simp only [RO, hg]
    have := tr _ _ hu
    simpa only [AV.sub, RV] using this)
  exact ⟨_, hn.put (some d) (v := .own (1, d)) (u := u) (by
    simp only [RV, upd_same, lookup, if_true]
    exact ⟨.tok n xs, .n xs.length, rfl, rfl, rfl⟩)⟩

/-- A new slice of the frame's own in a new block: its elements, and room behind them. -/
theorem SR.newTok {T : Ctx} {N : Mut} {w0 : World} {X : Fm} {γ : Gam} {w : World} {s : St} {a : Act} (h : SR T N w0 X γ w s a) (d : Tmp) (n : Nat) (xs : List D) (cells : List Value) (cap : Nat) (ty : TypeId) (hlen : xs.length ≤ cap)
    (hsz : cap * n = cells.length) (hx : ∀ x ∈ xs, x.cells.length = n) (hq : ∀ d ∈ flat xs, d.cell = true) (rest : List Value) (hc : ∃ us, cells = us ++ rest ∧ RdL (all γ N s.o) w (flat xs) us) :
    ∃ γ', SR T N w0 X γ' (w.alloc (.cells cells.toArray ty)) (s.newTok d n xs) (a.put (some d) (.slice (some ⟨w.heap.size, 0, none⟩) xs.length cap)) := by
  obtain ⟨us, rfl, hus⟩ := hc
  have hn := h.new (Chg.alloc w (.cells (us ++ rest).toArray ty)) (1, d) ⟨some w.heap.size, cap, .slice none 0 0, 0⟩ (.tok n xs) (fun b hb => by
      simp only [Option.some.injEq] at hb
      subst hb
      simp) (fun γ' o' hk hg tr hN hnew => by
      simp only [RO, hg]
      refine ⟨_, ty, heap_alloc _ _, hlen, by simpa using hsz, (RdE_flat ..).2 ⟨hx, ?_⟩⟩
      have key : ∀ (ds : List D) (vs : List Value) (k : Nat), RdL (all γ N s.o) w ds vs → (∀ d ∈ ds, d.cell = true) → k + ds.length ≤ xs.length * n → (∀ i v, vs[i]? = some v → (us ++ rest)[k + i]? = some v) → RdC (all γ' N o') (w.alloc (.cells (us ++ rest).toArray ty)) ds ⟨w.heap.size, 0, none⟩ k := by
        intro ds
        induction ds with
        | nil => intro vs k _ _ _ _; simp only [RdC]
        | cons e ds ih =>
          intro vs k hv hcl hle hat
          simp only [RdL] at hv
          obtain ⟨u, vs', rfl, h1, h2⟩ := hv
          simp only [List.length_cons] at hle
          simp only [RdC]
          have hadd : (⟨w.heap.size, 0, none⟩ : Addr).add k = ⟨w.heap.size, k, none⟩ := by
            unfold Addr.add
            by_cases hk0 : k = 0
            · simp [hk0]
            · simp [hk0]
          refine ⟨⟨hcl e (by simp), u, ?_, ?_, ?_⟩, ih vs' (k + 1) h2 (fun d hd => hcl d (by simp [hd])) (by omega) fun i v hi => ?_⟩
          · rw [hadd, World.cell?_alloc_new]
            simpa using hat 0 u (by simp)
          · rw [hadd]
            rintro (hm | hm)
            · exact Nat.lt_irrefl _ (hN _ _ hm)
            · have := (hnew _ _ (Nat.le_refl _) (by simp) hm).2
              simp only [Ob.may] at this
              omega
          · have := tr (.d e) u (by simpa only [RV] using h1)
            simpa only [AV.sub, RV] using this
          · rw [show k + 1 + i = k + (i + 1) from by omega]
            exact hat (i + 1) v (by simpa using hi)
      refine key (flat xs) us 0 hus hq (by rw [flat_length n xs hx]; omega) fun i v hi => ?_
      rw [Nat.zero_add]
      have := (List.getElem?_eq_some_iff.1 hi).1
      rw [List.getElem?_append_left this]
      exact hi)
  exact ⟨_, hn.put (some d) (v := .own (1, d)) (u := .slice (some ⟨w.heap.size, 0, none⟩) xs.length cap) (by
    simp only [RV, upd_same, lookup, if_true]
    exact ⟨.tok n xs, .n xs.length, rfl, rfl, rfl⟩)⟩

end Go.Ab

namespace Go.Ab

theorem update_keys (id : Id) (x : Ob) : ∀ o : Obs, (update id x o).map (·.1) = o.map (·.1)
  | [] => rfl
  | (k, y) :: r => by
    simp only [update]
    split <;> simp [update_keys id x r]
theorem lookup_update_same {id : Id} (x : Ob) : ∀ {o : Obs} {y : Ob}, lookup id o = some y → lookup id (update id x o) = some x
  | [], y, h => by simp [lookup] at h
  | (k, z) :: r, y, h => by
    simp only [update, lookup] at h ⊢
    split
    · rename_i e
      simp [lookup, e]
    · rename_i e
      rw [if_neg e] at h
      simp only [lookup, if_neg e]
      exact lookup_update_same x h
theorem lookup_update_ne {id k : Id} (x : Ob) (hne : k ≠ id) : ∀ (o : Obs), lookup k (update id x o) = lookup k o
  | [] => rfl
  | (j, z) :: r => by
    simp only [update]
    split
    · rename_i e
      subst e
      simp only [lookup]
      rw [if_neg (Ne.symm hne), if_neg (Ne.symm hne)]
      exact lookup_update_ne x hne r
    · simp only [lookup]
      rw [lookup_update_ne x hne r]
theorem mem_update {id : Id} {x : Ob} {p : Id × Ob} : ∀ {o : Obs}, p ∈ update id x o → (p.1 = id ∧ p.2 = x) ∨ (p.1 ≠ id ∧ p ∈ o)
  | [], h => by simp [update] at h
  | (k, y) :: r, h => by
    simp only [update] at h
    split at h
    · rename_i e
      rcases List.mem_cons.1 h with e' | h
      · subst e'
        exact .inl ⟨e, rfl⟩
      · rcases mem_update h with h | h
        · exact .inl h
        · exact .inr ⟨h.1, List.mem_cons_of_mem _ h.2⟩
    · rename_i e
      rcases List.mem_cons.1 h with e' | h
      · subst e'
        exact .inr ⟨e, by simp⟩
      · rcases mem_update h with h | h
        · exact .inl h
        · exact .inr ⟨h.1, List.mem_cons_of_mem _ h.2⟩

/-- what lies in one cell is no row of cells -/
theorem cell_one {γ : Gam} {o : Obs} {M : Mut} {w : World} {v : AV} {u : Value} (hown : ∀ k ob l, lookup k o = some ob → ob.sl = some l → (slVal (γ k) l).oneCell' = true) (h : RV γ o M w v u) (hc : v.cell = true) : u.oneCell' = true := by
  cases v with
  | d x =>
    cases x with
    | v y =>
      simp only [RV, Rd] at h
      subst h
      cases u <;> simp_all [AV.cell, D.cell, Value.oneCell']
    | s l => simp only [RV, Rd] at h; subst h; rfl
    | sl n xs => simp only [RV, Rd] at h; obtain ⟨a, l, c, rfl, _⟩ := h; rfl
    | st cs => simp [AV.cell, D.cell] at hc
    | ptr cs => simp only [RV, Rd] at h; obtain ⟨p, rfl, _⟩ := h; rfl
    | ifc t x => simp only [RV, Rd] at h; obtain ⟨p, rfl, _⟩ := h; rfl
    | fn f as bs => simp only [RV, Rd] at h; obtain ⟨xs, ys, rfl, _⟩ := h; rfl
    | «at» p o => simp only [RV, Rd] at h; obtain ⟨rfl, _⟩ := h; rfl
    | wh y b o =>
      simp only [RV, Rd] at h
      obtain ⟨rfl, _⟩ := h
      cases u <;> simp_all [AV.cell, D.cell, Value.oneCell']
  | own k =>
    simp only [RV] at h
    obtain ⟨ob, l, hl, hs, rfl⟩ := h
    exact hown k ob l hl hs
  | tight n xs =>
    simp only [RV] at h
    obtain ⟨_, a, l, rfl⟩ := h
    rfl
  | ref i off => simp only [RV] at h; obtain ⟨b, _, rfl⟩ := h; rfl
  | elt i j off => simp only [RV] at h; obtain ⟨b, g, n, es, _, _, rfl⟩ := h; rfl
  | agg cs => simp [AV.cell] at hc
  | tup cs => simp [AV.cell] at hc
  | clo f as bs => simp only [RV] at h; obtain ⟨xs, ys, rfl, _⟩ := h; rfl
  | undef => simp [AV.cell] at hc

theorem SR.owns {T : Ctx} {N : Mut} {w0 : World} {X : Fm} {γ : Gam} {w : World} {s : St} {a : Act} (h : SR T N w0 X γ w s a) : ∀ k ob l, lookup k s.o = some ob → ob.sl = some l → (slVal (γ k) l).oneCell' = true := by
  intro k ob l hl hs
  cases ob with
  | box cs => simp [Ob.sl] at hs
  | tok n xs =>
    simp only [Ob.sl, Option.some.injEq] at hs
    subst hs
    have := tok_rd h.inv hl
    simp only [Rd] at this
    obtain ⟨a, l, c, e, _⟩ := this
    simp only [slVal]
    rw [e]
    rfl
  | map es =>
    simp only [Ob.sl, Option.some.injEq] at hs
    subst hs
    rfl
  | arr g n es =>
    simp only [Ob.sl, Option.some.injEq] at hs
    subst hs
    have hro := h.inv.obs _ (lookup_mem hl)
    simp only [RO] at hro
    simp only [slVal, tokVal]
    cases hb : (γ k).b with
    | none => rw [hb] at hro; simp only [hro.2]; rfl
    | some b => rfl

theorem heap_setCell_same (w : World) {b i : Nat} {arr : Array Value} {ty : TypeId} {fz : Nat × Nat} (u : Value) (h : w.heap[b]? = some (.cells arr ty fz)) :
    (w.setCell ⟨b, i, none⟩ u).heap[b]? = some (.cells (arr.setIfInBounds i u) ty fz) := by
  simp [World.setCell, Array.getElem?_modify, h]
theorem heap_setCell_ne (w : World) {b k i : Nat} (u : Value) (h : k ≠ b) : (w.setCell ⟨b, i, none⟩ u).heap[k]? = w.heap[k]? := by
  simp only [World.setCell, Array.getElem?_modify]
  rw [if_neg (by omega)]
theorem Chg.setCell (w : World) (b i : Nat) (u : Value) : Chg (fun n j => n = b ∧ j = i) w (w.setCell ⟨b, i, none⟩ u) := by
  refine ⟨rfl, rfl, rfl, by simp, fun n hn hx => heap_setCell_ne w u fun e => hx i ⟨e, rfl⟩, fun n j v hc hx => ?_⟩
  rw [World.cell?_setCell_other]
  · exact hc
  · intro e
    injection e with e1 e2
    exact hx ⟨e1.symm, e2.symm⟩

/-- One cell of a box is written: what it was told of holds on. -/
theorem SR.set_tr {T : Ctx} {N : Mut} {w0 : World} {X : Fm} {γ : Gam} {w : World} {s : St} {a : Act} (h : SR T N w0 X γ w s a) {id : Id} {cs : List AV} (hl : lookup id s.o = some (.box cs)) {b : Nat} (hb : (γ id).b = some b) (i : Nat) (v : AV) (u : Value) :
    Keep (all γ N s.o) (all γ N (update id (.box (cs.set i v)) s.o)) w (w.setCell ⟨b, i, none⟩ u) ∧ ∀ x y, RV γ s.o (all γ N s.o) w x y → RV γ (update id (.box (cs.set i v)) s.o) (all γ N (update id (.box (cs.set i v)) s.o)) (w.setCell ⟨b, i, none⟩ u) x y := by
  have hmem := lookup_mem hl
  have hk : Keep (all γ N s.o) (all γ N (update id (.box (cs.set i v)) s.o)) w (w.setCell ⟨b, i, none⟩ u) := by
    refine (Chg.setCell w b i u).keep (fun n j hx => .inr ⟨_, hmem, by rw [hb, hx.1], trivial⟩) ?_
    rintro n j _ (hm | ⟨p, hp, hpb, hm⟩)
    · exact .inl hm
    · rcases mem_update hp with ⟨e1, e2⟩ | ⟨_, hp⟩
      · exact .inr ⟨_, hmem, by simpa [e1] using hpb, trivial⟩
      · exact .inr ⟨p, hp, hpb, hm⟩
  refine ⟨hk, fun x y hx => RV.same (fun x u => Rd.keep hk x u) (fun k u' hv' => ?_) (fun i off u' hv' => by simpa only [RV] using hv') (fun k i off u' hv' => ?_) x y hx⟩
  · simp only [RV] at hv' ⊢
    obtain ⟨ob, l, hlk, hs, e⟩ := hv'
    refine ⟨ob, l, ?_, hs, e⟩
    rw [lookup_update_ne _ (fun e => by subst e; rw [hl] at hlk; injection hlk with hlk; subst hlk; simp [Ob.sl] at hs), hlk]
  · simp only [RV] at hv' ⊢
    obtain ⟨b', g, n, es, hb', hlk, e⟩ := hv'
    refine ⟨b', g, n, es, hb', ?_, e⟩
    rw [lookup_update_ne _ (fun e => by subst e; rw [hl] at hlk; simp at hlk), hlk]

/-- One cell of a box is written. -/
theorem SR.set {T : Ctx} {N : Mut} {w0 : World} {X : Fm} {γ : Gam} {w : World} {s : St} {a : Act} (h : SR T N w0 X γ w s a) {id : Id} {cs : List AV} (hl : lookup id s.o = some (.box cs)) {b : Nat} (hb : (γ id).b = some b) (i : Nat) {v : AV} {u : Value} (hv : RV γ s.o (all γ N s.o) w v u) :
    SR T N w0 X γ (w.setCell ⟨b, i, none⟩ u) { s with o := update id (.box (cs.set i v)) s.o } a := by
  have hmem := lookup_mem hl
  have hown : ∀ n j, own γ (update id (.box (cs.set i v)) s.o) n j → own γ s.o n j := by
    rintro n j ⟨p, hp, hpb, hm⟩
    rcases mem_update hp with ⟨e1, e2⟩ | ⟨_, hp⟩
    · exact ⟨_, hmem, by simpa [e1] using hpb, trivial⟩
    · exact ⟨p, hp, hpb, hm⟩
  have ho : ∀ M' w' k u', RV γ s.o (all γ N s.o) w (.own k) u' → RV γ (update id (.box (cs.set i v)) s.o) M' w' (.own k) u' := by
    intro M' w' k u' hv'
    simp only [RV] at hv' ⊢
    obtain ⟨ob, l, hlk, hs, e⟩ := hv'
    refine ⟨ob, l, ?_, hs, e⟩
    rw [lookup_update_ne _ (fun e => by subst e; rw [hl] at hlk; injection hlk with hlk; subst hlk; simp [Ob.sl] at hs), hlk]
  have he : ∀ M' w' k i' off u', RV γ s.o (all γ N s.o) w (.elt k i' off) u' → RV γ (update id (.box (cs.set i v)) s.o) M' w' (.elt k i' off) u' := by
    intro M' w' k i' off u' hv'
    simp only [RV] at hv' ⊢
    obtain ⟨b', g, n, es, hb', hlk, e⟩ := hv'
    refine ⟨b', g, n, es, hb', ?_, e⟩
    rw [lookup_update_ne _ (fun e => by subst e; rw [hl] at hlk; simp at hlk), hlk]
  have hh := h.core (γ' := γ) (o' := update id (.box (cs.set i v)) s.o) (fo := .own) (fr := .ref) (Chg.setCell w b i u) (fun n j hx => ⟨_, hmem, by rw [hb, hx.1], trivial⟩) (fun n j _ hm => hown n j hm) (fun _ => ho _ _) (fun _ i off u' hv' => by simpa only [RV] using hv') (fun _ => he _ _) (fun i ob _ _ hli => ⟨rfl, by
    by_cases e : i = id
    · subst e
      rw [hl] at hli
      injection hli with hli
      subst hli
      exact ⟨_, lookup_update_same _ hl, rfl⟩
    · exact ⟨ob, by rw [lookup_update_ne _ e, hli], rfl⟩⟩) fun hk => ⟨?_, ?_, ?_, fun n j hn => Nat.lt_of_lt_of_le (h.inv.old n j hn) (by simp), ?_⟩
  · rw [subL_id] at hh
    exact hh
  · rw [update_keys]
    exact h.inv.keys
  · intro p hp q hq n hpn hqn
    have key : ∀ p ∈ update id (.box (cs.set i v)) s.o, ∃ p' ∈ s.o, p'.1 = p.1 := by
      intro p hp
      rcases mem_update hp with ⟨e1, e2⟩ | ⟨_, hp⟩
      · exact ⟨_, hmem, e1.symm⟩
      · exact ⟨p, hp, rfl⟩
    obtain ⟨p', hp', e⟩ := key p hp
    obtain ⟨q', hq', e'⟩ := key q hq
    rw [← e, ← e']
    exact h.inv.apart p' hp' q' hq' n (by rw [e]; exact hpn) (by rw [e']; exact hqn)
  · intro p hp n hpn j hn
    rcases mem_update hp with ⟨e1, e2⟩ | ⟨_, hp⟩
    · exact h.inv.sep _ hmem n (by simpa [e1] using hpn) j hn
    · exact h.inv.sep p hp n hpn j hn
  · intro p hp
    have hd : ∀ x u', Rd (all γ N s.o) w x u' → Rd (all γ N (update id (.box (cs.set i v)) s.o)) (w.setCell ⟨b, i, none⟩ u) x u' := fun x u' => Rd.keep hk x u'
    rcases mem_update hp with ⟨e1, e2⟩ | ⟨hne, hp⟩
    · rw [e1, e2]
      obtain ⟨b', arr, ty, hb', hh, hvs⟩ := h.inv.obs _ hmem
      have hbb : b' = b := by
        have : some b' = some b := by rw [← hb', hb]
        injection this
      subst hbb
      refine ⟨b', _, ty, hb', heap_setCell_same w u hh, ?_⟩
      rw [Array.toList_setIfInBounds]
      exact RVL.same hd (ho _ _) (fun i off u' hv' => by simpa only [RV] using hv') (he _ _) _ _ (RVL_set hv i hvs)
    · have hne' : ∀ n, (γ p.1).b = some n → n ≠ b := by
        rintro n hn rfl
        exact hne (h.inv.apart p hp _ hmem n hn hb)
      have := RO.sub (fo := .own) (fr := .ref) hk p.1 p.2 rfl (fun n hn => heap_setCell_ne w u (hne' n hn)) (ho _ _) (fun i off u' hv' => by simpa only [RV] using hv') (he _ _) (h.inv.obs p hp)
      have e : p.2.sub .own .ref = p.2 := by cases p.2 <;> simp [Ob.sub, subL_id, subE_id, subM_id]
      rwa [e] at this


theorem update_update (id : Id) (x y : Ob) : ∀ o : Obs, update id y (update id x o) = update id y o
  | [] => rfl
  | (k, z) :: r => by
    simp only [update]
    split
    · rename_i e
      simp only [update, if_pos e, update_update id x y r]
    · rename_i e
      simp only [update, if_neg e, update_update id x y r]

theorem add_plain (b off i : Nat) : (⟨b, off, none⟩ : Addr).add i = ⟨b, off + i, none⟩ := by
  unfold Addr.add
  by_cases hi : i = 0
  · simp [hi]
  · simp [hi]

theorem box_cell {T : Ctx} {N : Mut} {w0 : World} {X : Fm} {γ : Gam} {w : World} {s : St} {a : Act} (h : SR T N w0 X γ w s a) {id : Id} {cs : List AV} (hl : lookup id s.o = some (.box cs)) {b : Nat} (hb : (γ id).b = some b) {i : Nat} {v : AV} (hi : cs[i]? = some v) :
    ∃ u, w.cell? ⟨b, i, none⟩ = some u ∧ w.frozen? ⟨b, i, none⟩ = false ∧ RV γ s.o (all γ N s.o) w v u := by
  obtain ⟨b', arr, ty, hb', hh, hvs⟩ := h.inv.obs _ (lookup_mem hl)
  have hbb : b' = b := by
    have : some b' = some b := by rw [← hb', hb]
    injection this
  subst hbb
  obtain ⟨u, hu, hv⟩ := RVL_get hvs hi
  refine ⟨u, ?_, ?_, hv⟩
  · simp only [World.cell?, hh]
    simpa using hu
  · simp [World.frozen?, hh]

/-- Cells of a box are written. -/
theorem SR.stores {T : Ctx} {N : Mut} {w0 : World} {X : Fm} {γ : Gam} (P : Program) {a : Act} {id : Id} {b : Nat} (hb : (γ id).b = some b) (off : Nat) :
    ∀ (vs : List AV) (us : List Value) (i : Nat) (w : World) (s : St) (cs : List AV), SR T N w0 X γ w s a → lookup id s.o = some (.box cs) → RVL γ s.o (all γ N s.o) w vs us → vs.all AV.cell = true → off + i + vs.length ≤ cs.length →
      ∃ w', (storeCells ⟨b, off, none⟩ us i).run P w = .ok () w' ∧ SR T N w0 X γ w' { s with o := update id (.box (setCells cs (off + i) vs)) s.o } a
  | [], us, i, w, s, cs, h, hl, hv, hc, hle => by
    simp only [RVL] at hv
    subst hv
    refine ⟨w, rfl, ?_⟩
    simp only [setCells]
    have e : update id (.box cs) s.o = s.o := by
      have key : ∀ o : Obs, (o.map (·.1)).Nodup → lookup id o = some (.box cs) → update id (.box cs) o = o := by
        intro o
        induction o with
        | nil => intro _ _; rfl
        | cons p r ih =>
          obtain ⟨k, z⟩ := p
          intro hn hl
          simp only [List.map_cons, List.nodup_cons] at hn
          simp only [update, lookup] at hl ⊢
          split
          · rename_i e
            rw [if_pos e] at hl
            injection hl with hl
            subst hl
            have : update id (.box cs) r = r := by
              clear ih
              have hnr : ∀ r : Obs, id ∉ r.map (·.1) → update id (.box cs) r = r := by
                intro r
                induction r with
                | nil => intro _; rfl
                | cons p r ih =>
                  obtain ⟨k', z'⟩ := p
                  intro hn
                  simp only [List.map_cons, List.mem_cons, not_or] at hn
                  simp only [update]
                  rw [if_neg (fun e => hn.1 e.symm), ih hn.2]
              exact hnr r (e ▸ hn.1)
            rw [this]
          · rename_i e
            rw [if_neg e] at hl
            rw [ih hn.2 hl]
      exact key s.o h.inv.keys hl
    rw [e]
    exact h
  | v :: vs, us, i, w, s, cs, h, hl, hv, hc, hle => by
    simp only [RVL] at hv
    obtain ⟨u, us', rfl, hv1, hv2⟩ := hv
    simp only [List.all_cons, Bool.and_eq_true] at hc
    simp only [List.length_cons] at hle
    have hlt : off + i < cs.length := by omega
    obtain ⟨u0, hcell, hfz, _⟩ := box_cell h hl hb (List.getElem?_eq_getElem hlt)
    obtain ⟨hk, htr⟩ := h.set_tr hl hb (off + i) v u
    have h1 := h.set hl hb (off + i) hv1
    have hl1 : lookup id (update id (.box (cs.set (off + i) v)) s.o) = some (.box (cs.set (off + i) v)) := lookup_update_same _ hl
    have hv2' : RVL γ (update id (.box (cs.set (off + i) v)) s.o) (all γ N (update id (.box (cs.set (off + i) v)) s.o)) (w.setCell ⟨b, off + i, none⟩ u) vs us' := by
      rw [RVL_iff] at hv2 ⊢
      exact ⟨hv2.1, fun j d y hd hy => htr _ _ (hv2.2 j d y hd hy)⟩
    obtain ⟨w', hrun, hs⟩ := SR.stores P hb off vs us' (i + 1) _ { s with o := update id (.box (cs.set (off + i) v)) s.o } _ h1 hl1 hv2' hc.2 (by simp; omega)
    refine ⟨w', ?_, ?_⟩
    · show ((store ((⟨b, off, none⟩ : Addr).add i) u >>= fun _ => storeCells ⟨b, off, none⟩ us' (i + 1)) : Sem Unit).run P w = _
      rw [Sem.run_bind, run_store P w _ u _ (cell_one h.owns hv1 hc.1), add_plain, hcell]
      simp only [hfz]
      exact hrun
    · simp only [update_update] at hs
      simpa only [setCells, Nat.add_assoc] using hs

end Go.Ab

namespace Go.Ab

theorem flat_set {α : Type} (n : Nat) : ∀ (es : List (List α)) (i j : Nat) (e : List α) (v : α), (∀ e ∈ es, e.length = n) → es[i]? = some e → j < n → (es.set i (e.set j v)).flatten = es.flatten.set (i * n + j) v
  | [], i, j, e, v, _, h, _ => by simp at h
  | x :: r, 0, j, e, v, hn, h, hj => by
    simp at h
    subst h
    have := hn x (by simp)
    simp only [List.set_cons_zero, List.flatten_cons, Nat.zero_mul, Nat.zero_add]
    rw [List.set_append_left _ _ (by omega)]
  | x :: r, i + 1, j, e, v, hn, h, hj => by
    have h1 := hn x (by simp)
    simp only [List.set_cons_succ, List.flatten_cons]
    rw [flat_set n r i j e v (fun y hy => hn y (by simp [hy])) (by simpa using h) hj, List.set_append_right _ _ (by rw [Nat.add_mul]; omega)]
    congr 2
    rw [Nat.add_mul]; omega
theorem flat_get {α : Type} (n : Nat) : ∀ (es : List (List α)) (i j : Nat) (e : List α), (∀ e ∈ es, e.length = n) → es[i]? = some e → j < n → es.flatten[i * n + j]? = e[j]?
  | [], i, j, e, _, h, _ => by simp at h
  | x :: r, 0, j, e, hn, h, hj => by
    simp at h
    subst h
    have := hn x (by simp)
    simp only [List.flatten_cons, Nat.zero_mul, Nat.zero_add]
    rw [List.getElem?_append_left (by omega)]
  | x :: r, i + 1, j, e, hn, h, hj => by
    have h1 := hn x (by simp)
    simp only [List.flatten_cons]
    rw [List.getElem?_append_right (by rw [Nat.add_mul]; omega), show (i + 1) * n + j - x.length = i * n + j from by rw [Nat.add_mul]; omega]
    exact flat_get n r i j e (fun y hy => hn y (by simp [hy])) (by simpa using h) hj

theorem flat_cut {α : Type} (n : Nat) (es : List (List α)) (i off m : Nat) (e : List α) (hn : ∀ e ∈ es, e.length = n) (hi : es[i]? = some e) (hm : off + m ≤ n) : (es.flatten.drop (i * n + off)).take m = (e.drop off).take m := by
  apply List.ext_getElem?
  intro j
  rw [List.getElem?_take, List.getElem?_take]
  split
  · rw [List.getElem?_drop, List.getElem?_drop, Nat.add_assoc]
    exact flat_get n es i (off + j) e hn hi (by omega)
  · rfl

/-- One cell of an element is written: what it was told of holds on. -/
theorem SR.setA_tr {T : Ctx} {N : Mut} {w0 : World} {X : Fm} {γ : Gam} {w : World} {s : St} {a : Act} (h : SR T N w0 X γ w s a) {id : Id} {g : Bool} {n : Nat} {es : List (List AV)} (hl : lookup id s.o = some (.arr g n es)) {b : Nat} (hb : (γ id).b = some b) (k : Nat) (i : Nat) (e' : List AV) (u : Value) :
    Keep (all γ N s.o) (all γ N (update id (.arr g n (es.set i e')) s.o)) w (w.setCell ⟨b, k, none⟩ u) ∧ ∀ x y, RV γ s.o (all γ N s.o) w x y → RV γ (update id (.arr g n (es.set i e')) s.o) (all γ N (update id (.arr g n (es.set i e')) s.o)) (w.setCell ⟨b, k, none⟩ u) x y := by
  have hmem := lookup_mem hl
  have hk : Keep (all γ N s.o) (all γ N (update id (.arr g n (es.set i e')) s.o)) w (w.setCell ⟨b, k, none⟩ u) := by
    refine (Chg.setCell w b k u).keep (fun n j hx => .inr ⟨_, hmem, by rw [hb, hx.1], trivial⟩) ?_
    rintro n j _ (hm | ⟨p, hp, hpb, hm⟩)
    · exact .inl hm
    · rcases mem_update hp with ⟨e1, e2⟩ | ⟨_, hp⟩
      · exact .inr ⟨_, hmem, by simpa [e1] using hpb, trivial⟩
      · exact .inr ⟨p, hp, hpb, hm⟩
  refine ⟨hk, fun x y hx => RV.same (fun x u => Rd.keep hk x u) (fun k u' hv' => ?_) (fun i off u' hv' => by simpa only [RV] using hv') (fun k i off u' hv' => ?_) x y hx⟩
  · simp only [RV] at hv' ⊢
    obtain ⟨ob, l, hlk, hs, e⟩ := hv'
    by_cases hki : k = id
    · subst hki
      rw [hl] at hlk
      injection hlk with hlk
      subst hlk
      exact ⟨_, l, lookup_update_same _ hl, by simpa [Ob.sl] using hs, e⟩
    · exact ⟨ob, l, by rw [lookup_update_ne _ hki, hlk], hs, e⟩
  · simp only [RV] at hv' ⊢
    obtain ⟨b', g', n', es', hb', hlk, e⟩ := hv'
    by_cases hki : k = id
    · subst hki
      rw [hl] at hlk
      injection hlk with hlk
      injection hlk with h1 h2 h3
      subst h1 h2 h3
      exact ⟨b', _, _, _, hb', lookup_update_same _ hl, e⟩
    · exact ⟨b', g', n', es', hb', by rw [lookup_update_ne _ hki, hlk], e⟩

/-- One cell of an element is written. -/
theorem SR.setA {T : Ctx} {N : Mut} {w0 : World} {X : Fm} {γ : Gam} {w : World} {s : St} {a : Act} (h : SR T N w0 X γ w s a) {id : Id} {g : Bool} {n : Nat} {es : List (List AV)} (hl : lookup id s.o = some (.arr g n es)) {b : Nat} (hb : (γ id).b = some b) {i j : Nat} {e : List AV} (hi : es[i]? = some e) (hj : j < e.length)
    {v : AV} {u : Value} (hv : RV γ s.o (all γ N s.o) w v u) :
    SR T N w0 X γ (w.setCell ⟨b, i * n + j, none⟩ u) { s with o := update id (.arr g n (es.set i (e.set j v))) s.o } a := by
  have hmem := lookup_mem hl
  obtain ⟨hk, htr⟩ := h.setA_tr hl hb (i * n + j) i (e.set j v) u
  have hown : ∀ n' j', own γ (update id (.arr g n (es.set i (e.set j v))) s.o) n' j' → own γ s.o n' j' := by
    rintro n' j' ⟨p, hp, hpb, hm⟩
    rcases mem_update hp with ⟨e1, e2⟩ | ⟨_, hp⟩
    · exact ⟨_, hmem, by simpa [e1] using hpb, trivial⟩
    · exact ⟨p, hp, hpb, hm⟩
  have hh := h.core (γ' := γ) (o' := update id (.arr g n (es.set i (e.set j v))) s.o) (fo := .own) (fr := .ref) (Chg.setCell w b (i * n + j) u) (fun n' j' hx => ⟨_, hmem, by rw [hb, hx.1], trivial⟩) (fun n' j' _ hm => hown n' j' hm) (fun _ k u' hv' => htr _ _ hv') (fun _ i off u' hv' => htr _ _ hv') (fun _ k i off u' hv' => htr _ _ hv') (fun i' ob1 _ hkd hli => ⟨rfl, by
    have hne : i' ≠ id := by
      rintro rfl
      rw [hl] at hli
      injection hli with hli
      subst hli
      exact hkd rfl
    exact ⟨ob1, by rw [lookup_update_ne _ hne, hli], rfl⟩⟩) fun hk => ⟨?_, ?_, ?_, fun n' j' hn => Nat.lt_of_lt_of_le (h.inv.old n' j' hn) (by simp), ?_⟩
  · rw [subL_id] at hh
    exact hh
  · rw [update_keys]
    exact h.inv.keys
  · intro p hp q hq n' hpn hqn
    have key : ∀ p ∈ update id (.arr g n (es.set i (e.set j v))) s.o, ∃ p' ∈ s.o, p'.1 = p.1 := by
      intro p hp
      rcases mem_update hp with ⟨e1, e2⟩ | ⟨_, hp⟩
      · exact ⟨_, hmem, e1.symm⟩
      · exact ⟨p, hp, rfl⟩
    obtain ⟨p', hp', e3⟩ := key p hp
    obtain ⟨q', hq', e4⟩ := key q hq
    rw [← e3, ← e4]
    exact h.inv.apart p' hp' q' hq' n' (by rw [e3]; exact hpn) (by rw [e4]; exact hqn)
  · intro p hp n' hpn j' hn
    rcases mem_update hp with ⟨e1, e2⟩ | ⟨_, hp⟩
    · exact h.inv.sep _ hmem n' (by simpa [e1] using hpn) j' hn
    · exact h.inv.sep p hp n' hpn j' hn
  · intro p hp
    rcases mem_update hp with ⟨e1, e2⟩ | ⟨hne, hp⟩
    · rw [e1, e2]
      have hro := h.inv.obs _ hmem
      simp only [RO, hb] at hro ⊢
      obtain ⟨arr, ty, hh, h1, h2, h3, us, rest, e3, h4⟩ := hro
      have hen := h3 e (List.mem_of_getElem? hi)
      have hlen := RVL_length h4
      have hin : i * n + j < es.flatten.length := by
        have := flat_get n es i j e h3 hi (by omega)
        rw [List.getElem?_eq_getElem hj] at this
        exact (List.getElem?_eq_some_iff.1 this).1
      refine ⟨_, ty, heap_setCell_same w u hh, by simpa using h1, by simpa using h2, fun x hx => ?_, us.set (i * n + j) u, rest, ?_, ?_⟩
      · rcases List.mem_or_eq_of_mem_set hx with hx | rfl
        · exact h3 x hx
        · simpa using hen
      · rw [Array.toList_setIfInBounds, e3, List.set_append_left _ _ (by omega)]
      · rw [flat_set n es i j e v h3 hi (by omega)]
        have h5 := RVL_set hv (i * n + j) h4
        rw [RVL_iff] at h5 ⊢
        exact ⟨h5.1, fun i d y hd hy => htr _ _ (h5.2 i d y hd hy)⟩
    · have hne' : ∀ n, (γ p.1).b = some n → n ≠ b := by
        rintro n hn rfl
        exact hne (h.inv.apart p hp _ hmem n hn hb)
      have := RO.sub (fo := .own) (fr := .ref) hk p.1 p.2 rfl (fun n hn => heap_setCell_ne w u (hne' n hn)) (fun k u' hv' => htr _ _ hv') (fun i off u' hv' => htr _ _ hv') (fun k i off u' hv' => htr _ _ hv') (h.inv.obs p hp)
      have e : p.2.sub .own .ref = p.2 := by cases p.2 <;> simp [Ob.sub, subL_id, subE_id, subM_id]
      rwa [e] at this
theorem arr_block {T : Ctx} {N : Mut} {w0 : World} {X : Fm} {γ : Gam} {w : World} {s : St} {a : Act} (h : SR T N w0 X γ w s a) {id : Id} {g : Bool} {n : Nat} {es : List (List AV)} (hl : lookup id s.o = some (.arr g n es)) {i : Nat} (hi : i < es.length) : ∃ b, (γ id).b = some b := by
  have hro := h.inv.obs _ (lookup_mem hl)
  simp only [RO] at hro
  cases hb : (γ id).b with
  | none =>
    rw [hb] at hro
    rw [hro.1] at hi
    simp at hi
  | some b => exact ⟨b, rfl⟩
theorem arr_sk {T : Ctx} {N : Mut} {w0 : World} {X : Fm} {γ : Gam} {w : World} {s : St} {a : Act} (h : SR T N w0 X γ w s a) {id : Id} {g : Bool} {n : Nat} {es : List (List AV)} (hl : lookup id s.o = some (.arr g n es)) {b : Nat} (hb : (γ id).b = some b) : (γ id).sk = 0 := by
  have hro := h.inv.obs _ (lookup_mem hl)
  simp only [RO, hb] at hro
  obtain ⟨_, _, _, h1, _⟩ := hro
  exact h1.2
theorem arr_cell {T : Ctx} {N : Mut} {w0 : World} {X : Fm} {γ : Gam} {w : World} {s : St} {a : Act} (h : SR T N w0 X γ w s a) {id : Id} {g : Bool} {n : Nat} {es : List (List AV)} (hl : lookup id s.o = some (.arr g n es)) {b : Nat} (hb : (γ id).b = some b) {i j : Nat} {e : List AV} (hi : es[i]? = some e) {v : AV} (hj : e[j]? = some v) :
    ∃ u, w.cell? ⟨b, i * n + j, none⟩ = some u ∧ w.frozen? ⟨b, i * n + j, none⟩ = false ∧ RV γ s.o (all γ N s.o) w v u := by
  have hro := h.inv.obs _ (lookup_mem hl)
  simp only [RO, hb] at hro
  obtain ⟨arr, ty, hh, h1, h2, h3, us, rest, e3, h4⟩ := hro
  have hen := h3 e (List.mem_of_getElem? hi)
  have hjl := (List.getElem?_eq_some_iff.1 hj).1
  have hf : es.flatten[i * n + j]? = some v := by rw [flat_get n es i j e h3 hi (by omega), hj]
  obtain ⟨u, hu, hv⟩ := RVL_get h4 hf
  have hul := (List.getElem?_eq_some_iff.1 hu).1
  refine ⟨u, ?_, by simp [World.frozen?, hh], hv⟩
  simp only [World.cell?, hh]
  have : arr.toList[i * n + j]? = some u := by rw [e3, List.getElem?_append_left hul, hu]
  simpa using this
theorem arr_n {T : Ctx} {N : Mut} {w0 : World} {X : Fm} {γ : Gam} {w : World} {s : St} {a : Act} (h : SR T N w0 X γ w s a) {id : Id} {g : Bool} {n : Nat} {es : List (List AV)} (hl : lookup id s.o = some (.arr g n es)) : ∀ e ∈ es, e.length = n := by
  have hro := h.inv.obs _ (lookup_mem hl)
  simp only [RO] at hro
  cases hb : (γ id).b with
  | none =>
    rw [hb] at hro
    rw [hro.1]
    simp
  | some b =>
    rw [hb] at hro
    obtain ⟨arr, ty, hh, h1, h2, h3, _⟩ := hro
    exact h3

theorem update_self {id : Id} {x : Ob} : ∀ o : Obs, (o.map (·.1)).Nodup → lookup id o = some x → update id x o = o
  | [], _, _ => rfl
  | (k, z) :: r, hn, hl => by
    simp only [List.map_cons, List.nodup_cons] at hn
    simp only [update, lookup] at hl ⊢
    split
    · rename_i e
      rw [if_pos e] at hl
      injection hl with hl
      subst hl
      have hnr : ∀ r : Obs, id ∉ r.map (·.1) → update id z r = r := by
        intro r
        induction r with
        | nil => intro _; rfl
        | cons p r ih =>
          obtain ⟨k', z'⟩ := p
          intro hn
          simp only [List.map_cons, List.mem_cons, not_or] at hn
          simp only [update]
          rw [if_neg (fun e => hn.1 e.symm), ih hn.2]
      rw [hnr r (e ▸ hn.1)]
    · rename_i e
      rw [if_neg e] at hl
      rw [update_self r hn.2 hl]

/-- Cells of an element are written. -/
theorem SR.storesA {T : Ctx} {N : Mut} {w0 : World} {X : Fm} {γ : Gam} (P : Program) {a : Act} {id : Id} {b : Nat} (hb : (γ id).b = some b) (g : Bool) (n i off : Nat) :
    ∀ (vs : List AV) (us : List Value) (j : Nat) (w : World) (s : St) (es : List (List AV)) (e : List AV), SR T N w0 X γ w s a → lookup id s.o = some (.arr g n es) → es[i]? = some e → RVL γ s.o (all γ N s.o) w vs us → vs.all AV.cell = true → off + j + vs.length ≤ e.length →
      ∃ w', (storeCells ⟨b, i * n + off, none⟩ us j).run P w = .ok () w' ∧ SR T N w0 X γ w' { s with o := update id (.arr g n (es.set i (setCells e (off + j) vs))) s.o } a
  | [], us, j, w, s, es, e, h, hl, hi, hv, hc, hle => by
    simp only [RVL] at hv
    subst hv
    refine ⟨w, rfl, ?_⟩
    simp only [setCells]
    have e1 : es.set i e = es := by
      apply List.ext_getElem?
      intro k
      by_cases hk : i = k
      · subst hk
        rw [List.getElem?_set_self (List.getElem?_eq_some_iff.1 hi).1, hi]
      · rw [List.getElem?_set_ne hk]
    rw [e1, update_self s.o h.inv.keys hl]
    exact h
  | v :: vs, us, j, w, s, es, e, h, hl, hi, hv, hc, hle => by
    simp only [RVL] at hv
    obtain ⟨u, us', rfl, hv1, hv2⟩ := hv
    simp only [List.all_cons, Bool.and_eq_true] at hc
    simp only [List.length_cons] at hle
    have hlt : off + j < e.length := by omega
    obtain ⟨u0, hcell, hfz, _⟩ := arr_cell h hl hb hi (List.getElem?_eq_getElem hlt)
    obtain ⟨hk, htr⟩ := h.setA_tr hl hb (i * n + (off + j)) i (e.set (off + j) v) u
    have h1 := h.setA hl hb hi hlt hv1
    have hl1 : lookup id (update id (.arr g n (es.set i (e.set (off + j) v))) s.o) = some (.arr g n (es.set i (e.set (off + j) v))) := lookup_update_same _ hl
    have hi1 : (es.set i (e.set (off + j) v))[i]? = some (e.set (off + j) v) := by
      rw [List.getElem?_set_self (List.getElem?_eq_some_iff.1 hi).1]
    have hv2' : RVL γ (update id (.arr g n (es.set i (e.set (off + j) v))) s.o) (all γ N (update id (.arr g n (es.set i (e.set (off + j) v))) s.o)) (w.setCell ⟨b, i * n + (off + j), none⟩ u) vs us' := by
      rw [RVL_iff] at hv2 ⊢
      exact ⟨hv2.1, fun j d y hd hy => htr _ _ (hv2.2 j d y hd hy)⟩
    obtain ⟨w', hrun, hs⟩ := SR.storesA P hb g n i off vs us' (j + 1) _ { s with o := update id (.arr g n (es.set i (e.set (off + j) v))) s.o } _ _ h1 hl1 hi1 hv2' hc.2 (by simp; omega)
    refine ⟨w', ?_, ?_⟩
    · show ((store ((⟨b, i * n + off, none⟩ : Addr).add j) u >>= fun _ => storeCells ⟨b, i * n + off, none⟩ us' (j + 1)) : Sem Unit).run P w = _
      rw [Sem.run_bind, run_store P w _ u _ (cell_one h.owns hv1 hc.1), add_plain, Nat.add_assoc, hcell]
      simp only [hfz]
      exact hrun
    · simp only [update_update, List.set_set] at hs
      simpa only [setCells, Nat.add_assoc] using hs
end Go.Ab

namespace Go.Ab

/-- Cells are stored one behind the other into a block. -/
theorem stores_raw (P : Program) (b off : Nat) (ty : TypeId) : ∀ (us : List Value) (i : Nat) (w : World) (arr : Array Value), w.heap[b]? = some (.cells arr ty (0, 0)) → off + i + us.length ≤ arr.size → (∀ u ∈ us, u.oneCell' = true) →
    ∃ w' arr', (storeCells ⟨b, off, none⟩ us i).run P w = .ok () w' ∧ w'.heap[b]? = some (.cells arr' ty (0, 0)) ∧ arr'.size = arr.size ∧ (∀ j, j < off + i → arr'[j]? = arr[j]?) ∧ (∀ j u, us[j]? = some u → arr'[off + i + j]? = some u) ∧
      Chg (fun n j => n = b ∧ off + i ≤ j) w w' ∧ (∀ k, k ≠ b → w'.heap[k]? = w.heap[k]?) ∧ w'.heap.size = w.heap.size
  | [], i, w, arr, h, _, _ => ⟨w, arr, rfl, h, rfl, fun _ _ => rfl, fun j u hu => by simp at hu, Chg.refl _ w, fun _ _ => rfl, rfl⟩
  | u :: us, i, w, arr, h, hle, hone => by
    simp only [List.length_cons] at hle
    have hc : w.cell? ⟨b, off + i, none⟩ = some arr[off + i] := by
      simp only [World.cell?, h]
      simp [Array.getElem?_eq_getElem (show off + i < arr.size by omega)]
    have hf : w.frozen? ⟨b, off + i, none⟩ = false := by simp [World.frozen?, h]
    obtain ⟨w', arr', hrun, hh, hsz, hlo, hat, hchg, hne, hws⟩ := stores_raw P b off ty us (i + 1) _ _ (heap_setCell_same w (i := off + i) u h) (by simp; omega) fun v hv => hone v (by simp [hv])
    refine ⟨w', arr', ?_, hh, by simpa using hsz, fun j hj => ?_, fun j v hv => ?_, ?_, fun k hk => ?_, by simpa using hws⟩
    · show ((store ((⟨b, off, none⟩ : Addr).add i) u >>= fun _ => storeCells ⟨b, off, none⟩ us (i + 1)) : Sem Unit).run P w = _
      rw [Sem.run_bind, run_store P w _ u _ (hone u (by simp)), add_plain, hc]
      simp only [hf]
      exact hrun
    · rw [hlo j (by omega), Array.getElem?_setIfInBounds_ne (by omega)]
    · cases j with
      | zero =>
        simp at hv
        subst hv
        rw [hlo (off + i + 0) (by omega)]
        simp [Array.getElem?_setIfInBounds_self_of_lt (show off + i < arr.size by omega)]
      | succ j =>
        rw [show off + i + (j + 1) = off + (i + 1) + j from by omega]
        exact hat j v (by simpa using hv)
    · refine ((Chg.setCell w b (off + i) u).mono ?_).trans hchg ?_
      · rintro n j _ ⟨rfl, rfl⟩
        exact ⟨rfl, Nat.le_refl _⟩
      · rintro n j ⟨rfl, hj⟩
        exact .inl ⟨rfl, by omega⟩
    · rw [hne k hk, heap_setCell_ne w u hk]

/-- A slice of the frame's own has got longer. -/
theorem SR.regrow {T : Ctx} {N : Mut} {w0 : World} {X : Fm} {γ : Gam} {w w' : World} {s : St} {a : Act} (h : SR T N w0 X γ w s a) {k : Id} {n : Nat} {xs : List D} (hl : lookup k s.o = some (.tok n xs)) (zs : List D) (g : Gh)
    {X' : Mut} (c : Chg X' w w') (hX : ∀ b i, X' b i → own γ s.o b i)
    (hother : ∀ p ∈ s.o, p.1 ≠ k → ∀ b, (γ p.1).b = some b → w'.heap[b]? = w.heap[b]?)
    (hg : ∀ b, g.b = some b → (w.heap.size ≤ b ∧ b < w'.heap.size) ∨ (γ k).b = some b)
    (hroom : ∀ b i, g.b = some b → (γ k).b = some b → g.sk + zs.length * n ≤ i → (γ k).sk + xs.length * n ≤ i)
    (hro : ∀ (o' : Obs), Keep (all γ N s.o) (all (upd γ k g) N o') w w' → (∀ b i, g.b = some b → all (upd γ k g) N o' b i → g.sk + zs.length * n ≤ i) → RO (upd γ k g) o' (all (upd γ k g) N o') w' k (.tok n zs)) :
    SR T N w0 X (upd γ k g) w' ⟨subL (shutO k n xs) (dropR k) s.t, update k (.tok n zs) (subO (shutO k n xs) (dropR k) s.o)⟩ a := by
  have hmem := lookup_mem hl
  have hsub : ∀ p ∈ update k (.tok n zs) (subO (shutO k n xs) (dropR k) s.o), (p.1 = k ∧ p.2 = .tok n zs) ∨ (p.1 ≠ k ∧ ∃ q ∈ s.o, q.1 = p.1 ∧ p.2 = q.2.sub (shutO k n xs) (dropR k)) := by
    intro p hp
    rcases mem_update hp with h | ⟨h1, h2⟩
    · exact .inl h
    · rw [subO_eq] at h2
      obtain ⟨q, hq, rfl⟩ := List.mem_map.1 h2
      exact .inr ⟨h1, q, hq, rfl, rfl⟩
  have hown : ∀ b i, own (upd γ k g) (update k (.tok n zs) (subO (shutO k n xs) (dropR k) s.o)) b i → (∃ q ∈ s.o, q.1 ≠ k ∧ (γ q.1).b = some b ∧ q.2.may (γ q.1) i) ∨ (g.b = some b ∧ g.sk + zs.length * n ≤ i) := by
    rintro b i ⟨p, hp, hb, hm⟩
    rcases hsub p hp with ⟨e1, e2⟩ | ⟨hne, q, hq, e, e2⟩
    · rw [e1, upd_same] at hb hm
      rw [e2] at hm
      exact .inr ⟨hb, hm⟩
    · rw [upd_ne γ g hne, ← e] at hb hm
      rw [e2, Ob.sub_may] at hm
      exact .inl ⟨q, hq, by rw [e]; exact hne, hb, hm⟩
  have ho : ∀ M', (∀ x u, Rd (all γ N s.o) w x u → Rd M' w' x u) → ∀ j u, RV γ s.o (all γ N s.o) w (.own j) u → RV (upd γ k g) (update k (.tok n zs) (subO (shutO k n xs) (dropR k) s.o)) M' w' (shutO k n xs j) u := by
    intro M' hd j u hv
    simp only [RV] at hv
    obtain ⟨ob', l', hl', hs', rfl⟩ := hv
    by_cases e : j = k
    · have e1 : shutO k n xs j = .d (.sl n xs) := by simp [shutO, e]
      rw [e1]
      subst e
      rw [hl] at hl'
      injection hl' with hl'
      subst hl'
      simp only [Ob.sl, Option.some.injEq] at hs'
      subst hs'
      simp only [RV]
      exact hd _ _ (tok_rd h.inv hl)
    · have e1 : shutO k n xs j = .own j := by simp [shutO, e]
      rw [e1]
      simp only [RV]
      refine ⟨ob'.sub (shutO k n xs) (dropR k), l', ?_, by rw [Ob.sub_sl]; exact hs', by rw [upd_ne γ g e]⟩
      rw [lookup_update_ne _ e, lookup_subO, hl']
      rfl
  have he : ∀ M', ∀ j i off u, RV γ s.o (all γ N s.o) w (.elt j i off) u → RV (upd γ k g) (update k (.tok n zs) (subO (shutO k n xs) (dropR k) s.o)) M' w' (eltO (shutO k n xs j) i off) u := by
    intro M' j i off u hv
    simp only [RV] at hv
    obtain ⟨b', g', n', es', hb', hl', rfl⟩ := hv
    have e : j ≠ k := by
      rintro rfl
      rw [hl] at hl'
      simp at hl'
    have e1 : shutO k n xs j = .own j := by simp [shutO, e]
    rw [e1]
    simp only [eltO, RV]
    refine ⟨b', g', n', subE (shutO k n xs) (dropR k) es', by rw [upd_ne γ g e]; exact hb', ?_, rfl⟩
    rw [lookup_update_ne _ e, lookup_subO, hl']
    rfl
  have hr : ∀ M', ∀ i off u, RV γ s.o (all γ N s.o) w (.ref i off) u → RV (upd γ k g) (update k (.tok n zs) (subO (shutO k n xs) (dropR k) s.o)) M' w' (dropR k i off) u := by
    intro M' i off u hv
    by_cases e : i = k
    · have e1 : dropR k i off = .undef := by simp [dropR, e]
      rw [e1]
      simp only [RV]
    · have e1 : dropR k i off = .ref i off := by simp [dropR, e]
      rw [e1]
      simp only [RV] at hv ⊢
      rw [upd_ne γ g e]
      exact hv
  refine h.core c hX (fun b i hb hm => ?_) (fun hd => ho _ hd) (fun hd => hr _) (fun hd => he _) (fun i ob1 _ hkd hli => by
    have hne : i ≠ k := by
      rintro rfl
      rw [hl] at hli
      injection hli with hli
      subst hli
      exact hkd rfl
    refine ⟨by rw [upd_ne γ g hne], ob1.sub (shutO k n xs) (dropR k), ?_, Ob.sub_kd ..⟩
    rw [lookup_update_ne _ hne, lookup_subO, hli]
    rfl) fun hk => ⟨?_, ?_, ?_, fun b i hb => Nat.lt_of_lt_of_le (h.inv.old b i hb) c.size, ?_⟩
  · rcases hown b i hm with ⟨q, hq, _, hqb, hqm⟩ | ⟨hgb, hgm⟩
    · exact ⟨q, hq, hqb, hqm⟩
    · rcases hg b hgb with h1 | h1
      · omega
      · exact ⟨_, hmem, h1, hroom b i hgb h1 hgm⟩
  · rw [update_keys, subO_keys]
    exact h.inv.keys
  · have side : ∀ p, p ∈ update k (.tok n zs) (subO (shutO k n xs) (dropR k) s.o) → ∀ b, (upd γ k g p.1).b = some b → (p.1 = k ∧ (w.heap.size ≤ b ∨ (γ k).b = some b)) ∨ (p.1 ≠ k ∧ b < w.heap.size ∧ ∃ q ∈ s.o, q.1 = p.1 ∧ (γ q.1).b = some b) := by
      intro p hp b hb
      rcases hsub p hp with ⟨e1, e2⟩ | ⟨hne, q, hq, e, e2⟩
      · rw [e1, upd_same] at hb
        exact .inl ⟨e1, (hg b hb).imp (·.1) id⟩
      · rw [upd_ne γ g hne, ← e] at hb
        exact .inr ⟨hne, own_lt h.inv hq hb, q, hq, e, hb⟩
    intro p hp q hq b hb hb'
    rcases side p hp b hb with ⟨e, hlt⟩ | ⟨hne, hlt, p', hp', e, hbp⟩ <;> rcases side q hq b hb' with ⟨e', hlt'⟩ | ⟨hne', hlt', q', hq', e', hbq⟩
    · rw [e, e']
    · rcases hlt with hlt | hlt
      · omega
      · exact absurd (h.inv.apart q' hq' _ hmem b hbq hlt) (by rw [e']; exact hne')
    · rcases hlt' with hlt' | hlt'
      · omega
      · exact absurd (h.inv.apart p' hp' _ hmem b hbp hlt') (by rw [e]; exact hne)
    · rw [← e, ← e']
      exact h.inv.apart p' hp' q' hq' b hbp hbq
  · intro p hp b hb i hn
    rcases hsub p hp with ⟨e1, e2⟩ | ⟨hne, q, hq, e, e2⟩
    · rw [e1, upd_same] at hb
      rcases hg b hb with h1 | h1
      · have := h.inv.old b i hn
        omega
      · exact h.inv.sep _ hmem b h1 i hn
    · rw [upd_ne γ g hne, ← e] at hb
      exact h.inv.sep q hq b hb i hn
  · intro p hp
    rcases hsub p hp with ⟨e1, e2⟩ | ⟨hne, q, hq, e, e2⟩
    · rw [e1, e2]
      refine hro _ hk fun b i hgb hm => ?_
      rcases hm with hm | hm
      · rcases hg b hgb with h1 | h1
        · have := h.inv.old b i hm
          omega
        · exact absurd hm (h.inv.sep _ hmem b h1 i)
      · rcases hown b i hm with ⟨q, hq, hqk, hqb, hqm⟩ | ⟨_, hgm⟩
        · rcases hg b hgb with h1 | h1
          · have := own_lt h.inv hq hqb
            omega
          · exact absurd (h.inv.apart q hq _ hmem b hqb h1) hqk
        · exact hgm
    · rw [e2, ← e]
      refine RO.sub hk q.1 q.2 (upd_ne γ g (by rw [e]; exact hne)) (fun b hb => hother q hq (by rw [e]; exact hne) b hb) (ho _ fun x u => Rd.keep hk x u) (hr _) (he _) (h.inv.obs q hq)

/-- A slice of the frame's own is cut at its front. -/
theorem SR.shift {T : Ctx} {N : Mut} {w0 : World} {X : Fm} {γ : Gam} {w : World} {s : St} {a : Act} (h : SR T N w0 X γ w s a) {k : Id} {n : Nat} {xs : List D} (hl : lookup k s.o = some (.tok n xs)) {i : Nat} (hi : i ≤ xs.length) :
    ∃ γ' base cap, tokVal (γ k) xs.length = .slice base xs.length cap ∧ xs.length ≤ cap ∧
      SR T N w0 X γ' w ⟨subL (shutO k n xs) (dropR k) s.t, update k (.tok n (xs.drop i)) (subO (shutO k n xs) (dropR k) s.o)⟩ a ∧
      tokVal (γ' k) (xs.drop i).length = .slice (if cap = i then base else base.map (·.add (i * n))) (xs.length - i) (cap - i) := by
  have hro := h.inv.obs _ (lookup_mem hl)
  simp only [RO] at hro
  have tight : ∀ v, (∀ M', Keep (all γ N s.o) M' w w → Rd M' w (.sl n (xs.drop i)) v ∧ ∃ a len, v = .slice a len len) → SR T N w0 X (upd γ k ⟨none, 0, v, 0⟩) w ⟨subL (shutO k n xs) (dropR k) s.t, update k (.tok n (xs.drop i)) (subO (shutO k n xs) (dropR k) s.o)⟩ a := by
    intro v hv
    refine h.regrow hl (xs.drop i) ⟨none, 0, v, 0⟩ (Chg.refl (fun _ _ => False) w) (fun _ _ hf => hf.elim) (fun _ _ _ _ _ => rfl) (fun b hb' => by simp at hb') (fun b i hb' => by simp at hb') fun o' hk _ => ?_
    simp only [RO, upd_same]
    exact hv _ hk
  cases hb : (γ k).b with
  | none =>
    rw [hb] at hro
    obtain ⟨hr, a0, l0, hval⟩ := hro
    have hr0 := hr
    simp only [Rd] at hr
    obtain ⟨ad, len, cap, e1, e2, h1, h2, h3⟩ := hr
    rw [hval] at e1
    injection e1 with e1 e3 e4
    subst e1 e2
    have hcap : cap = xs.length := by omega
    subst hcap
    subst e4
    refine ⟨_, a0, xs.length, by simp only [tokVal, hb, hval], Nat.le_refl _, tight (.slice (if xs.length = i then a0 else a0.map (·.add (i * n))) (xs.length - i) (xs.length - i)) (fun M' hk => ⟨?_, _, _, rfl⟩), by simp only [tokVal, upd_same]⟩
    have hr1 := Rd.keep hk _ _ hr0
    simp only [Rd, hval] at hr1
    obtain ⟨ad, len, cap, e1, e2, h1, h2, h3⟩ := hr1
    injection e1 with e1 e3 e4
    subst e1
    simp only [Rd]
    refine ⟨_, _, _, rfl, by simp, by omega, fun hnone => ?_, fun p hp => ?_⟩
    · split at hnone
      · omega
      · cases a0 with
        | none => have := h2 rfl; omega
        | some p => simp at hnone
    · split at hp
      · have : xs.drop i = [] := by
          apply List.drop_eq_nil_of_le
          omega
        rw [this]
        simp only [RdE]
      · cases a0 with
        | none => simp at hp
        | some q =>
          simp at hp
          subst hp
          rw [RdE_shift]
          have h10 := RdE_drop _ _ _ _ _ _ i (by omega) (h3 q rfl)
          simpa using h10
  | some b =>
    rw [hb] at hro
    obtain ⟨arr, ty, hh, h1, h2, h3⟩ := hro
    by_cases hc : (γ k).cap = i
    · have e0 : xs.drop i = [] := List.drop_eq_nil_of_le (by omega)
      refine ⟨_, some ⟨b, (γ k).sk, none⟩, (γ k).cap, by simp only [tokVal, hb], h1, tight (.slice (some ⟨b, (γ k).sk, none⟩) (xs.length - i) ((γ k).cap - i)) (fun M' hk => ⟨?_, some ⟨b, (γ k).sk, none⟩, (γ k).cap - i, ?_⟩), by simp only [tokVal, upd_same, if_pos hc]⟩
      · rw [e0]
        simp only [Rd]
        exact ⟨_, _, _, rfl, by simp; omega, by omega, fun hnone => by simp at hnone, fun p _ => by simp only [RdE]⟩
      · congr 1
        omega
    · refine ⟨upd γ k ⟨some b, (γ k).cap - i, .slice none 0 0, (γ k).sk + i * n⟩, some ⟨b, (γ k).sk, none⟩, (γ k).cap, by simp only [tokVal, hb], h1, ?_, by
        simp only [tokVal, upd_same, if_neg hc, Option.map_some, add_plain, List.length_drop]⟩
      have e1 : i * n + ((γ k).cap - i) * n = (γ k).cap * n := by
        rw [← Nat.add_mul]
        congr 1
        omega
      have e2 : i * n + (xs.length - i) * n = xs.length * n := by
        rw [← Nat.add_mul]
        congr 1
        omega
      refine h.regrow hl (xs.drop i) _ (Chg.refl (fun _ _ => False) w) (fun _ _ hf => hf.elim) (fun _ _ _ _ _ => rfl) (fun b' hb' => .inr (by simp only [Option.some.injEq] at hb'; rw [hb, hb'])) (fun b' j _ _ hj => ?_) fun o' hk _ => ?_
      · simp only [List.length_drop] at hj
        omega
      · simp only [RO, upd_same]
        refine ⟨arr, ty, hh, by simp; omega, by omega, ?_⟩
        have h10 := RdE_drop _ _ _ _ _ _ i hi (RdE.keep hk _ _ _ _ h3)
        exact h10

/-- In place: the room suffices. -/
theorem SR.growIn {T : Ctx} {N : Mut} {w0 : World} {X : Fm} {γ : Gam} {w : World} {s : St} {a : Act} (P : Program) (h : SR T N w0 X γ w s a) {k : Id} {n : Nat} {xs ys : List D} (hl : lookup k s.o = some (.tok n xs)) {b : Nat} (hb : (γ k).b = some b)
    (hfit : xs.length + ys.length ≤ (γ k).cap) (hy : ∀ y ∈ ys, y.cells.length = n) (hq : ∀ d ∈ flat ys, d.cell = true) {us : List Value} (hus : RdL (all γ N s.o) w (flat ys) us) (hone : ∀ u ∈ us, u.oneCell' = true) :
    ∃ w' γ', (storeCells ((⟨b, (γ k).sk, none⟩ : Addr).add (xs.length * n)) us).run P w = .ok () w' ∧ SR T N w0 X γ' w' ⟨subL (shutO k n xs) (dropR k) s.t, update k (.tok n (xs ++ ys)) (subO (shutO k n xs) (dropR k) s.o)⟩ a ∧ (γ' k) = γ k := by
  have hro := h.inv.obs _ (lookup_mem hl)
  simp only [RO, hb] at hro
  obtain ⟨arr, ty, hh, hcap, harr, hrd⟩ := hro
  have hlen : us.length = ys.length * n := by rw [RdL_length hus, flat_length n ys hy]
  have hmul : (γ k).sk + (xs.length * n + ys.length * n) ≤ arr.size := by
    rw [← harr, ← Nat.add_mul]
    exact Nat.add_le_add_left (Nat.mul_le_mul_right n hfit) _
  rw [add_plain]
  obtain ⟨w', arr', hrun, hh', hsz, hlo, hat, hchg, hne, hws⟩ := stores_raw P b ((γ k).sk + xs.length * n) ty us 0 w arr hh (by omega) hone
  refine ⟨w', upd γ k (γ k), hrun, ?_, upd_same _ _ _⟩
  refine h.regrow hl (xs ++ ys) (γ k) hchg ?_ ?_ (fun b' hb' => .inr hb') (fun b' i _ _ hi => by
    rw [List.length_append, Nat.add_mul] at hi
    omega) fun o' hk hfree => ?_
  · rintro b' i ⟨rfl, hi⟩
    exact ⟨_, lookup_mem hl, hb, by simpa [Ob.may] using hi⟩
  · intro p hp hpk b' hpb
    refine hne b' ?_
    rintro rfl
    exact hpk (h.inv.apart p hp _ (lookup_mem hl) b' hpb hb)
  · simp only [RO, upd_same, hb]
    refine ⟨arr', ty, hh', by simpa using hfit, by rw [hsz]; exact harr, (RdE_append ..).2 ⟨RdE.keep hk _ _ _ _ hrd, (RdE_flat ..).2 ⟨hy, ?_⟩⟩⟩
    have key : ∀ (ds : List D) (vs : List Value) (j : Nat), RdL (all γ N s.o) w ds vs → (∀ d ∈ ds, d.cell = true) → j + ds.length ≤ ys.length * n → (∀ i v, vs[i]? = some v → us[j + i]? = some v) → RdC (all (upd γ k (γ k)) N o') w' ds ⟨b, 0, none⟩ ((γ k).sk + xs.length * n + j) := by
      intro ds
      induction ds with
      | nil => intro vs j _ _ _ _; simp only [RdC]
      | cons e ds ih =>
        intro vs j hv hcl hle hv'
        simp only [RdL] at hv
        obtain ⟨u, vs', rfl, h1, h2⟩ := hv
        simp only [List.length_cons] at hle
        simp only [RdC, add_plain, Nat.zero_add]
        refine ⟨⟨hcl e (by simp), u, ?_, ?_, Rd.keep hk e u h1⟩, ?_⟩
        · simp only [World.cell?, hh']
          have := hat j u (hv' 0 u (by simp))
          simpa using this
        · intro hm
          have := hfree b _ hb hm
          rw [List.length_append, Nat.add_mul] at this
          omega
        · rw [Nat.add_assoc]
          exact ih vs' (j + 1) h2 (fun d hd => hcl d (by simp [hd])) (by omega) fun i v hi => by
            rw [show j + 1 + i = j + (i + 1) from by omega]
            exact hv' (i + 1) v (by simpa using hi)
    simpa using key (flat ys) us 0 hus hq (by rw [flat_length n ys hy]; omega) fun i v hi => by simpa using hi

/-- In a new block. -/
theorem SR.growNew {T : Ctx} {N : Mut} {w0 : World} {X : Fm} {γ : Gam} {w : World} {s : St} {a : Act} (h : SR T N w0 X γ w s a) {k : Id} {n : Nat} {xs ys : List D} (hl : lookup k s.o = some (.tok n xs))
    (cap : Nat) (ty : TypeId) (hfit : xs.length + ys.length ≤ cap) (hx : ∀ x ∈ xs, x.cells.length = n) (hy : ∀ y ∈ ys, y.cells.length = n) (hqx : ∀ d ∈ flat xs, d.cell = true) (hq : ∀ d ∈ flat ys, d.cell = true) {old us rest : List Value}
    (hold : RdL (all γ N s.o) w (flat xs) old) (hus : RdL (all γ N s.o) w (flat ys) us) (hsz : old.length + us.length + rest.length = cap * n) :
    ∃ γ', SR T N w0 X γ' (w.drew.alloc (.cells (old ++ us ++ rest).toArray ty)) ⟨subL (shutO k n xs) (dropR k) s.t, update k (.tok n (xs ++ ys)) (subO (shutO k n xs) (dropR k) s.o)⟩ a ∧ (γ' k) = ⟨some w.heap.size, cap, .slice none 0 0, 0⟩ := by
  have c : Chg (fun _ _ => False) w (w.drew.alloc (.cells (old ++ us ++ rest).toArray ty)) := (Chg.drew w).trans (Chg.alloc w.drew _) fun _ _ hf => hf.elim
  have hnew : (w.drew.alloc (.cells (old ++ us ++ rest).toArray ty)).heap[w.heap.size]? = some (.cells (old ++ us ++ rest).toArray ty) := heap_alloc w.drew _
  refine ⟨upd γ k ⟨some w.heap.size, cap, .slice none 0 0, 0⟩, ?_, upd_same _ _ _⟩
  refine h.regrow hl (xs ++ ys) ⟨some w.heap.size, cap, .slice none 0 0, 0⟩ c (fun _ _ hf => hf.elim) (fun p hp _ b hb => c.block b (own_lt h.inv hp hb) fun _ hf => hf) (fun b hb => .inl ?_) (fun b i hb hb' _ => by
    injection hb with hb
    have := own_lt h.inv (lookup_mem hl) (b := b) hb'
    omega) fun o' hk hfree => ?_
  · simp only [Option.some.injEq] at hb
    subst hb
    exact ⟨Nat.le_refl _, by simp⟩
  · simp only [RO, upd_same]
    refine ⟨_, ty, hnew, by simpa using hfit, by simp; omega, (RdE_flat ..).2 ⟨fun z hz => ?_, ?_⟩⟩
    · rcases List.mem_append.1 hz with hz | hz
      · exact hx z hz
      · exact hy z hz
    · have hlen : (old ++ us).length = (xs ++ ys).length * n := by
        rw [List.length_append, List.length_append, RdL_length hold, RdL_length hus, flat_length n xs hx, flat_length n ys hy, Nat.add_mul]
      have hall : RdL (all γ N s.o) w (flat (xs ++ ys)) (old ++ us) := by
        rw [flat_append]
        exact RdL_append hold hus
      have hcl : ∀ d ∈ flat (xs ++ ys), d.cell = true := by
        rw [flat_append]
        intro d hd
        rcases List.mem_append.1 hd with hd | hd
        · exact hqx d hd
        · exact hq d hd
      have key : ∀ (ds : List D) (vs : List Value) (j : Nat), RdL (all γ N s.o) w ds vs → (∀ d ∈ ds, d.cell = true) → j + ds.length ≤ (xs ++ ys).length * n → (∀ i v, vs[i]? = some v → (old ++ us)[j + i]? = some v) → RdC (all (upd γ k ⟨some w.heap.size, cap, .slice none 0 0, 0⟩) N o') (w.drew.alloc (.cells (old ++ us ++ rest).toArray ty)) ds ⟨w.heap.size, 0, none⟩ j := by
        intro ds
        induction ds with
        | nil => intro vs j _ _ _ _; simp only [RdC]
        | cons e ds ih =>
          intro vs j hv hcl hle hv'
          simp only [RdL] at hv
          obtain ⟨u, vs', rfl, h1, h2⟩ := hv
          simp only [List.length_cons] at hle
          simp only [RdC, add_plain, Nat.zero_add]
          refine ⟨⟨hcl e (by simp), u, ?_, ?_, Rd.keep hk e u h1⟩, ih vs' (j + 1) h2 (fun d hd => hcl d (by simp [hd])) (by omega) fun i v hi => by
            rw [show j + 1 + i = j + (i + 1) from by omega]
            exact hv' (i + 1) v (by simpa using hi)⟩
          · simp only [World.cell?, hnew]
            have h3 := hv' 0 u (by simp)
            have h4 := (List.getElem?_eq_some_iff.1 h3).1
            have h5 : ((old ++ us) ++ rest)[j]? = some u := by
              rw [List.getElem?_append_left (by simpa using h4)]
              simpa using h3
            simpa using h5
          · intro hm
            have := hfree w.heap.size _ rfl hm
            omega
      exact key _ _ 0 hall hcl (by rw [flat_length n (xs ++ ys) fun z hz => (List.mem_append.1 hz).elim (hx z) (hy z)]; omega) fun i v hi => by simpa using hi

end Go.Ab

namespace Go.Ab

/-- A slice that may be written has got longer. -/
theorem SR.regrowA {T : Ctx} {N : Mut} {w0 : World} {X : Fm} {γ : Gam} {w w' : World} {s : St} {a : Act} (h : SR T N w0 X γ w s a) {k : Id} {gg : Bool} {n : Nat} {es : List (List AV)} (hl : lookup k s.o = some (.arr gg n es)) (fs : List (List AV)) (g : Gh)
    {X' : Mut} (c : Chg X' w w') (hX : ∀ b i, X' b i → own γ s.o b i)
    (hother : ∀ p ∈ s.o, p.1 ≠ k → ∀ b, (γ p.1).b = some b → w'.heap[b]? = w.heap[b]?)
    (hg : ∀ b, g.b = some b → (w.heap.size ≤ b ∧ b < w'.heap.size) ∨ (γ k).b = some b)
    (hro : ∀ (o' : Obs), (∀ x u, RV γ s.o (all γ N s.o) w x u → RV (upd γ k g) o' (all (upd γ k g) N o') w' (x.sub (forO k) (dropR k)) u) → RO (upd γ k g) o' (all (upd γ k g) N o') w' k (.arr gg n (subE (forO k) (dropR k) (es ++ fs)))) :
    SR T N w0 X (upd γ k g) w' ⟨subL (forO k) (dropR k) s.t, update k (.arr gg n (subE (forO k) (dropR k) (es ++ fs))) (subO (forO k) (dropR k) s.o)⟩ a := by
  have hmem := lookup_mem hl
  generalize hes : subE (forO k) (dropR k) (es ++ fs) = es' at hro ⊢
  have hsub : ∀ p ∈ update k (.arr gg n es') (subO (forO k) (dropR k) s.o), (p.1 = k ∧ p.2 = .arr gg n es') ∨ (p.1 ≠ k ∧ ∃ q ∈ s.o, q.1 = p.1 ∧ p.2 = q.2.sub (forO k) (dropR k)) := by
    intro p hp
    rcases mem_update hp with h | ⟨h1, h2⟩
    · exact .inl h
    · rw [subO_eq] at h2
      obtain ⟨q, hq, rfl⟩ := List.mem_map.1 h2
      exact .inr ⟨h1, q, hq, rfl, rfl⟩
  have hown : ∀ b i, own (upd γ k g) (update k (.arr gg n es') (subO (forO k) (dropR k) s.o)) b i → (∃ q ∈ s.o, q.1 ≠ k ∧ (γ q.1).b = some b ∧ q.2.may (γ q.1) i) ∨ g.b = some b := by
    rintro b i ⟨p, hp, hb, hm⟩
    rcases hsub p hp with ⟨e1, e2⟩ | ⟨hne, q, hq, e, e2⟩
    · rw [e1, upd_same] at hb
      exact .inr hb
    · rw [upd_ne γ g hne, ← e] at hb hm
      rw [e2, Ob.sub_may] at hm
      exact .inl ⟨q, hq, by rw [e]; exact hne, hb, hm⟩
  have ho : ∀ M', ∀ j u, RV γ s.o (all γ N s.o) w (.own j) u → RV (upd γ k g) (update k (.arr gg n es') (subO (forO k) (dropR k) s.o)) M' w' (forO k j) u := by
    intro M' j u hv
    by_cases e : j = k
    · have e1 : forO k j = .undef := by simp [forO, e]
      rw [e1]
      simp only [RV]
    · have e1 : forO k j = .own j := by simp [forO, e]
      rw [e1]
      simp only [RV] at hv ⊢
      obtain ⟨ob', l', hl', hs', rfl⟩ := hv
      refine ⟨ob'.sub (forO k) (dropR k), l', ?_, by rw [Ob.sub_sl]; exact hs', by rw [upd_ne γ g e]⟩
      rw [lookup_update_ne _ e, lookup_subO, hl']
      rfl
  have he : ∀ M', ∀ j i off u, RV γ s.o (all γ N s.o) w (.elt j i off) u → RV (upd γ k g) (update k (.arr gg n es') (subO (forO k) (dropR k) s.o)) M' w' (eltO (forO k j) i off) u := by
    intro M' j i off u hv
    by_cases e : j = k
    · have e1 : forO k j = .undef := by simp [forO, e]
      rw [e1]
      simp only [eltO, RV]
    · have e1 : forO k j = .own j := by simp [forO, e]
      rw [e1]
      simp only [eltO, RV] at hv ⊢
      obtain ⟨b', g', n', es1, hb', hl', rfl⟩ := hv
      refine ⟨b', g', n', subE (forO k) (dropR k) es1, by rw [upd_ne γ g e]; exact hb', ?_, rfl⟩
      rw [lookup_update_ne _ e, lookup_subO, hl']
      rfl
  have hr : ∀ M', ∀ i off u, RV γ s.o (all γ N s.o) w (.ref i off) u → RV (upd γ k g) (update k (.arr gg n es') (subO (forO k) (dropR k) s.o)) M' w' (dropR k i off) u := by
    intro M' i off u hv
    by_cases e : i = k
    · have e1 : dropR k i off = .undef := by simp [dropR, e]
      rw [e1]
      simp only [RV]
    · have e1 : dropR k i off = .ref i off := by simp [dropR, e]
      rw [e1]
      simp only [RV] at hv ⊢
      rw [upd_ne γ g e]
      exact hv
  refine h.core c hX (fun b i hb hm => ?_) (fun hd => ho _) (fun hd => hr _) (fun hd => he _) (fun i ob1 _ hkd hli => by
    have hne : i ≠ k := by
      rintro rfl
      rw [hl] at hli
      injection hli with hli
      subst hli
      exact hkd rfl
    refine ⟨by rw [upd_ne γ g hne], ob1.sub (forO k) (dropR k), ?_, Ob.sub_kd ..⟩
    rw [lookup_update_ne _ hne, lookup_subO, hli]
    rfl) fun hk => ⟨?_, ?_, ?_, fun b i hb => Nat.lt_of_lt_of_le (h.inv.old b i hb) c.size, ?_⟩
  · rcases hown b i hm with ⟨q, hq, _, hqb, hqm⟩ | hgb
    · exact ⟨q, hq, hqb, hqm⟩
    · rcases hg b hgb with h1 | h1
      · omega
      · exact ⟨_, hmem, h1, trivial⟩
  · rw [update_keys, subO_keys]
    exact h.inv.keys
  · have side : ∀ p, p ∈ update k (.arr gg n es') (subO (forO k) (dropR k) s.o) → ∀ b, (upd γ k g p.1).b = some b → (p.1 = k ∧ (w.heap.size ≤ b ∨ (γ k).b = some b)) ∨ (p.1 ≠ k ∧ b < w.heap.size ∧ ∃ q ∈ s.o, q.1 = p.1 ∧ (γ q.1).b = some b) := by
      intro p hp b hb
      rcases hsub p hp with ⟨e1, e2⟩ | ⟨hne, q, hq, e, e2⟩
      · rw [e1, upd_same] at hb
        exact .inl ⟨e1, (hg b hb).imp (·.1) id⟩
      · rw [upd_ne γ g hne, ← e] at hb
        exact .inr ⟨hne, own_lt h.inv hq hb, q, hq, e, hb⟩
    intro p hp q hq b hb hb'
    rcases side p hp b hb with ⟨e, hlt⟩ | ⟨hne, hlt, p', hp', e, hbp⟩ <;> rcases side q hq b hb' with ⟨e', hlt'⟩ | ⟨hne', hlt', q', hq', e', hbq⟩
    · rw [e, e']
    · rcases hlt with hlt | hlt
      · omega
      · exact absurd (h.inv.apart q' hq' _ hmem b hbq hlt) (by rw [e']; exact hne')
    · rcases hlt' with hlt' | hlt'
      · omega
      · exact absurd (h.inv.apart p' hp' _ hmem b hbp hlt') (by rw [e]; exact hne)
    · rw [← e, ← e']
      exact h.inv.apart p' hp' q' hq' b hbp hbq
  · intro p hp b hb i hn
    rcases hsub p hp with ⟨e1, e2⟩ | ⟨hne, q, hq, e, e2⟩
    · rw [e1, upd_same] at hb
      rcases hg b hb with h1 | h1
      · have := h.inv.old b i hn
        omega
      · exact h.inv.sep _ hmem b h1 i hn
    · rw [upd_ne γ g hne, ← e] at hb
      exact h.inv.sep q hq b (by exact hb) i hn
  · intro p hp
    rcases hsub p hp with ⟨e1, e2⟩ | ⟨hne, q, hq, e, e2⟩
    · rw [e1, e2]
      exact hro _ fun x u hx => RV.sub (fun x u => Rd.keep hk x u) (ho _) (hr _) (he _) x u hx
    · rw [e2, ← e]
      refine RO.sub hk q.1 q.2 (upd_ne γ g (by rw [e]; exact hne)) (fun b hb => hother q hq (by rw [e]; exact hne) b hb) (ho _) (hr _) (he _) (h.inv.obs q hq)
theorem flat_len {α : Type} (n : Nat) : ∀ es : List (List α), (∀ e ∈ es, e.length = n) → es.flatten.length = es.length * n
  | [], _ => by simp
  | e :: r, h => by
    simp only [List.flatten_cons, List.length_append, List.length_cons]
    rw [h e (by simp), flat_len n r fun x hx => h x (by simp [hx]), Nat.add_mul]
    omega
theorem RVL_app {γ : Gam} {o : Obs} {M : Mut} {w : World} : ∀ {xs ys : List AV} {us vs : List Value}, RVL γ o M w xs us → RVL γ o M w ys vs → RVL γ o M w (xs ++ ys) (us ++ vs)
  | [], ys, us, vs, h, k => by
    simp only [RVL] at h
    subst h
    simpa using k
  | x :: xs, ys, us, vs, h, k => by
    simp only [RVL] at h
    obtain ⟨u, us', rfl, h1, h2⟩ := h
    simp only [List.cons_append, RVL]
    exact ⟨u, us' ++ vs, rfl, h1, RVL_app h2 k⟩
theorem subE_len (fo : Id → AV) (fr : Id → Nat → AV) (es : List (List AV)) : (subE fo fr es).length = es.length := by rw [subE_eq, List.length_map]
theorem subE_n (fo : Id → AV) (fr : Id → Nat → AV) {n : Nat} {es : List (List AV)} (h : ∀ e ∈ es, e.length = n) : ∀ e ∈ subE fo fr es, e.length = n := by
  intro e he
  rw [subE_eq] at he
  obtain ⟨x, hx, rfl⟩ := List.mem_map.1 he
  rw [subL_length]
  exact h x hx

/-- In place: the room suffices. -/
theorem SR.growInA {T : Ctx} {N : Mut} {w0 : World} {X : Fm} {γ : Gam} {w : World} {s : St} {a : Act} (P : Program) (h : SR T N w0 X γ w s a) {k : Id} {g : Bool} {n : Nat} {es fs : List (List AV)} (hl : lookup k s.o = some (.arr g n es)) {b : Nat} (hb : (γ k).b = some b)
    (hfit : es.length + fs.length ≤ (γ k).cap) (hy : ∀ y ∈ fs, y.length = n) {us : List Value} (hus : RVL γ s.o (all γ N s.o) w fs.flatten us) (hone : ∀ u ∈ us, u.oneCell' = true) :
    ∃ w' γ', (storeCells ((⟨b, 0, none⟩ : Addr).add (es.length * n)) us).run P w = .ok () w' ∧ SR T N w0 X γ' w' ⟨subL (forO k) (dropR k) s.t, update k (.arr g n (subE (forO k) (dropR k) (es ++ fs))) (subO (forO k) (dropR k) s.o)⟩ a ∧ (γ' k) = γ k := by
  have hro := h.inv.obs _ (lookup_mem hl)
  simp only [RO, hb] at hro
  obtain ⟨arr, ty, hh, hcap, harr, hn, us0, rest, e0, h0⟩ := hro
  have hlen : us.length = fs.length * n := by rw [RVL_length hus, flat_len n fs hy]
  have hlen0 : us0.length = es.length * n := by rw [RVL_length h0, flat_len n es hn]
  have hmul : es.length * n + fs.length * n ≤ arr.size := by
    rw [← harr, ← Nat.add_mul]
    exact Nat.mul_le_mul_right n hfit
  rw [add_plain, Nat.zero_add]
  obtain ⟨w', arr', hrun, hh', hsz, hlo, hat, hchg, hne, hws⟩ := stores_raw P b (es.length * n) ty us 0 w arr hh (by omega) hone
  refine ⟨w', upd γ k (γ k), hrun, ?_, upd_same _ _ _⟩
  refine h.regrowA hl fs (γ k) hchg ?_ ?_ (fun b' hb' => .inr hb') fun o' tr => ?_
  · rintro b' i ⟨rfl, hi⟩
    exact ⟨_, lookup_mem hl, hb, trivial⟩
  · intro p hp hpk b' hpb
    refine hne b' ?_
    rintro rfl
    exact hpk (h.inv.apart p hp _ (lookup_mem hl) b' hpb hb)
  · simp only [RO, upd_same, hb]
    refine ⟨arr', ty, hh', ⟨by rw [subE_len, List.length_append]; exact hfit, hcap.2⟩, by rw [hsz]; exact harr, subE_n _ _ fun e he => (List.mem_append.1 he).elim (hn e) (hy e), us0 ++ us, arr'.toList.drop (es.length * n + fs.length * n), ?_, ?_⟩
    · apply List.ext_getElem?
      intro j
      rcases Nat.lt_or_ge j (es.length * n) with hj | hj
      · rw [List.append_assoc, List.getElem?_append_left (by omega)]
        have h1 := hlo j (by omega)
        have h2 : arr.toList[j]? = us0[j]? := by rw [e0, List.getElem?_append_left (by omega)]
        rw [← h2]
        simpa using h1
      · rcases Nat.lt_or_ge j (es.length * n + fs.length * n) with hj2 | hj2
        · rw [List.getElem?_append_left (by rw [List.length_append]; omega), List.getElem?_append_right (by omega), hlen0]
          have hju : j - es.length * n < us.length := by omega
          have h1 := hat (j - es.length * n) _ (List.getElem?_eq_getElem hju)
          rw [List.getElem?_eq_getElem hju, ← h1, Nat.add_zero, show es.length * n + (j - es.length * n) = j from by omega]
          simp
        · rw [List.getElem?_append_right (by rw [List.length_append]; omega), List.getElem?_drop, List.length_append, hlen, hlen0]
          congr 1
          omega
    · rw [subE_flat, List.flatten_append]
      exact RVL.map tr _ _ (RVL_app h0 hus)

/-- In a new block. -/
theorem SR.growNewA {T : Ctx} {N : Mut} {w0 : World} {X : Fm} {γ : Gam} {w : World} {s : St} {a : Act} (h : SR T N w0 X γ w s a) {k : Id} {g : Bool} {n : Nat} {es fs : List (List AV)} (hl : lookup k s.o = some (.arr g n es))
    (cap : Nat) (ty : TypeId) (hfit : es.length + fs.length ≤ cap) (hx : ∀ x ∈ es, x.length = n) (hy : ∀ y ∈ fs, y.length = n) {old us rest : List Value}
    (hold : RVL γ s.o (all γ N s.o) w es.flatten old) (hus : RVL γ s.o (all γ N s.o) w fs.flatten us) (hsz : old.length + us.length + rest.length = cap * n) :
    ∃ γ', SR T N w0 X γ' (w.drew.alloc (.cells (old ++ us ++ rest).toArray ty)) ⟨subL (forO k) (dropR k) s.t, update k (.arr g n (subE (forO k) (dropR k) (es ++ fs))) (subO (forO k) (dropR k) s.o)⟩ a ∧ (γ' k) = ⟨some w.heap.size, cap, .slice none 0 0, 0⟩ := by
  have c : Chg (fun _ _ => False) w (w.drew.alloc (.cells (old ++ us ++ rest).toArray ty)) := (Chg.drew w).trans (Chg.alloc w.drew _) fun _ _ hf => hf.elim
  have hnew : (w.drew.alloc (.cells (old ++ us ++ rest).toArray ty)).heap[w.heap.size]? = some (.cells (old ++ us ++ rest).toArray ty) := heap_alloc w.drew _
  refine ⟨upd γ k ⟨some w.heap.size, cap, .slice none 0 0, 0⟩, ?_, upd_same _ _ _⟩
  refine h.regrowA hl fs ⟨some w.heap.size, cap, .slice none 0 0, 0⟩ c (fun _ _ hf => hf.elim) (fun p hp _ b hb => c.block b (own_lt h.inv hp hb) fun _ hf => hf) (fun b hb => .inl ?_) fun o' tr => ?_
  · simp only [Option.some.injEq] at hb
    subst hb
    exact ⟨Nat.le_refl _, by simp⟩
  · simp only [RO, upd_same]
    refine ⟨_, ty, hnew, ⟨by rw [subE_len, List.length_append]; exact hfit, trivial⟩, by simp; omega, subE_n _ _ fun e he => (List.mem_append.1 he).elim (hx e) (hy e), old ++ us, rest, by simp, ?_⟩
    rw [subE_flat, List.flatten_append]
    exact RVL.map tr _ _ (RVL_app hold hus)
end Go.Ab

namespace Go.Ab

theorem RdC_of (M : Mut) (w : World) {b : Nat} {arr : Array Value} {ty : TypeId} {fz : Nat × Nat} (hh : w.heap[b]? = some (.cells arr ty fz)) (hm : ∀ j, ¬ M b j) :
    ∀ (ds : List D) (us : List Value) (j : Nat), RdL M w ds us → (∀ d ∈ ds, d.cell = true) → (∀ i u, us[i]? = some u → arr[j + i]? = some u) → RdC M w ds ⟨b, 0, none⟩ j
  | [], us, j, _, _, _ => by simp only [RdC]
  | d :: ds, us, j, h, hc, hat => by
    simp only [RdL] at h
    obtain ⟨u, us', rfl, h1, h2⟩ := h
    simp only [RdC, add_plain, Nat.zero_add]
    refine ⟨⟨hc d (by simp), u, ?_, hm j, h1⟩, RdC_of M w hh hm ds us' (j + 1) h2 (fun e he => hc e (by simp [he])) fun i v hi => ?_⟩
    · simp only [World.cell?, hh]
      simpa using hat 0 u (by simp)
    · rw [show j + 1 + i = j + (i + 1) from by omega]
      exact hat (i + 1) v (by simpa using hi)

/-- A box that is written no more: whoever points to it points to data. -/
theorem SR.ice {T : Ctx} {N : Mut} {w0 : World} {X : Fm} {γ : Gam} {w : World} {s : St} {a : Act} (h : SR T N w0 X γ w s a) {id : Id} {cs : List AV} {ds : List D} (hl : lookup id s.o = some (.box cs)) (hds : datas s.o cs = some ds) (hc : ∀ d ∈ ds, d.cell = true) (hid : id.1 ≠ 0) :
    SR T N w0 X γ w (s.ice id ds) a ∧ ∀ b, (γ id).b = some b → RdC (all γ N (s.ice id ds).o) w ds ⟨b, 0, none⟩ 0 := by
  have hmem := lookup_mem hl
  obtain ⟨b, arr, ty, hb, hh, hv⟩ := h.inv.obs _ hmem
  have hrd := datas_ok h.inv _ _ _ hv hds
  have hsub : ∀ p ∈ subO .own (iceR id ds) (erase id s.o), p.1 ≠ id ∧ ∃ q ∈ s.o, q.1 = p.1 ∧ p.2 = q.2.sub .own (iceR id ds) := by
    intro p hp
    rw [subO_eq] at hp
    obtain ⟨q, hq, rfl⟩ := List.mem_map.1 hp
    exact ⟨(erase_sub hq).2, q, (erase_sub hq).1, rfl, rfl⟩
  have hown : ∀ n i, own γ (subO .own (iceR id ds) (erase id s.o)) n i → n ≠ b ∧ own γ s.o n i := by
    rintro n i ⟨p, hp, hpb, hm⟩
    obtain ⟨hne, q, hq, e, e2⟩ := hsub p hp
    rw [← e] at hpb hm
    rw [e2, Ob.sub_may] at hm
    refine ⟨?_, q, hq, hpb, hm⟩
    rintro rfl
    exact hne (by rw [← e]; exact h.inv.apart q hq _ hmem n hpb hb)
  have hfree : ∀ j, ¬ all γ N (subO .own (iceR id ds) (erase id s.o)) b j := by
    rintro j (hm | hm)
    · exact h.inv.sep _ hmem b hb j hm
    · exact (hown b j hm).1 rfl
  have hrow : (∀ x u, Rd (all γ N s.o) w x u → Rd (all γ N (subO .own (iceR id ds) (erase id s.o))) w x u) → RdC (all γ N (subO .own (iceR id ds) (erase id s.o))) w ds ⟨b, 0, none⟩ 0 := by
    intro hd
    have hrd' : RdL (all γ N (subO .own (iceR id ds) (erase id s.o))) w ds arr.toList := by
      rw [RdL_iff] at hrd ⊢
      exact ⟨hrd.1, fun i d u h1 h2 => hd d u (hrd.2 i d u h1 h2)⟩
    exact RdC_of _ w hh hfree ds arr.toList 0 hrd' hc fun i u hi => by simpa using hi
  have ho : ∀ M', ∀ k u, RV γ s.o (all γ N s.o) w (.own k) u → RV γ (subO .own (iceR id ds) (erase id s.o)) M' w (.own k) u := by
    intro M' k u hv'
    simp only [RV] at hv' ⊢
    obtain ⟨ob, l, hlk, hs, e⟩ := hv'
    have hne : k ≠ id := by
      rintro rfl
      rw [hl] at hlk
      injection hlk with hlk
      subst hlk
      simp [Ob.sl] at hs
    refine ⟨ob.sub .own (iceR id ds), l, ?_, by rw [Ob.sub_sl]; exact hs, e⟩
    rw [lookup_subO, lookup_erase hne, hlk]
    rfl
  have he : ∀ M', ∀ k i off u, RV γ s.o (all γ N s.o) w (.elt k i off) u → RV γ (subO .own (iceR id ds) (erase id s.o)) M' w (eltO (.own k) i off) u := by
    intro M' k i off u hv'
    simp only [eltO, RV] at hv' ⊢
    obtain ⟨b', g, n, es, hb', hlk, e⟩ := hv'
    have hne : k ≠ id := by
      rintro rfl
      rw [hl] at hlk
      simp at hlk
    refine ⟨b', g, n, subE .own (iceR id ds) es, hb', ?_, e⟩
    rw [lookup_subO, lookup_erase hne, hlk]
    rfl
  have hr : (∀ x u, Rd (all γ N s.o) w x u → Rd (all γ N (subO .own (iceR id ds) (erase id s.o))) w x u) → ∀ i off u, RV γ s.o (all γ N s.o) w (.ref i off) u → RV γ (subO .own (iceR id ds) (erase id s.o)) (all γ N (subO .own (iceR id ds) (erase id s.o))) w (iceR id ds i off) u := by
    intro hd i off u hv'
    by_cases e : i = id
    · subst e
      simp only [iceR, if_true]
      split
      · rename_i hle
        simp only [RV, Rd] at hv' ⊢
        obtain ⟨b', hb', rfl⟩ := hv'
        have : b' = b := by
          rw [hb] at hb'
          injection hb' with hb'
          exact hb'.symm
        subst this
        refine ⟨_, rfl, ?_⟩
        have h3 := RdC_drop _ w ds ⟨b', 0, none⟩ 0 off hle (hrow hd)
        have h4 := (RdC_shift _ w (ds.drop off) ⟨b', 0, none⟩ off 0).2 (by simpa using h3)
        simpa [add_plain] using h4
      · simp only [RV]
    · simp only [iceR, if_neg e]
      simpa only [RV] using hv'
  have hcore := h.core (γ' := γ) (w' := w) (o' := subO .own (iceR id ds) (erase id s.o)) (fo := .own) (fr := iceR id ds) (Chg.refl (fun _ _ => False) w) (fun _ _ hf => hf.elim) (fun n i _ hm => (hown n i hm).2) (fun _ => ho _) hr (fun _ => he _) (fun i ob1 hi _ hli => by
    have hne : i ≠ id := fun e => hid (e ▸ hi)
    refine ⟨rfl, ob1.sub .own (iceR id ds), ?_, Ob.sub_kd ..⟩
    simp only [lookup_subO, lookup_erase hne, hli]
    rfl) fun hk => ⟨?_, ?_, ?_, h.inv.old, ?_⟩
  · refine ⟨hcore, fun b' hb' => ?_⟩
    have : b' = b := by
      rw [hb] at hb'
      injection hb' with hb'
      exact hb'.symm
    subst this
    refine hrow fun x u => Rd.keep ?_ x u
    refine (Chg.refl (fun _ _ => False) w).keep (fun _ _ hf => hf.elim) ?_
    rintro n i _ (hm | hm)
    · exact .inl hm
    · exact .inr (hown n i hm).2
  · rw [subO_keys]
    exact erase_nodup h.inv.keys
  · intro p hp q hq n hpn hqn
    obtain ⟨hne, p', hp', e, _⟩ := hsub p hp
    obtain ⟨hne', q', hq', e', _⟩ := hsub q hq
    rw [← e, ← e']
    exact h.inv.apart p' hp' q' hq' n (by rw [e]; exact hpn) (by rw [e']; exact hqn)
  · intro p hp n hpn i hn
    obtain ⟨hne, q, hq, e, _⟩ := hsub p hp
    exact h.inv.sep q hq n (by rw [e]; exact hpn) i hn
  · intro p hp
    obtain ⟨hne, q, hq, e, e2⟩ := hsub p hp
    rw [e2, ← e]
    exact RO.sub hk q.1 q.2 rfl (fun _ _ => rfl) (ho _) (hr fun x u => Rd.keep hk x u) (he _) (h.inv.obs q hq)

/-! ### forgetting -/
theorem lookup_pickO (ids : List Id) (k : Id) (h : k.1 = 0 ∨ ids.contains k = true) : ∀ o : Obs, lookup k (pickO ids o) = lookup k o
  | [] => rfl
  | (j, x) :: r => by
    simp only [pickO]
    split
    · simp only [lookup, lookup_pickO ids k h r]
    · rename_i hne
      have : j ≠ k := by
        rintro rfl
        exact hne h
      simp only [lookup, if_neg this, lookup_pickO ids k h r]
theorem mem_pickO {ids : List Id} {p : Id × Ob} : ∀ {o : Obs}, p ∈ pickO ids o → p ∈ o
  | [], h => by simp [pickO] at h
  | (j, x) :: r, h => by
    simp only [pickO] at h
    split at h
    · rcases List.mem_cons.1 h with rfl | h
      · simp
      · exact List.mem_cons_of_mem _ (mem_pickO h)
    · exact List.mem_cons_of_mem _ (mem_pickO h)
theorem pickO_nodup {ids : List Id} : ∀ {o : Obs}, (o.map (·.1)).Nodup → ((pickO ids o).map (·.1)).Nodup
  | [], h => by simp [pickO]
  | (j, x) :: r, h => by
    simp only [List.map_cons, List.nodup_cons] at h
    simp only [pickO]
    split
    · simp only [List.map_cons, List.nodup_cons]
      refine ⟨fun hm => h.1 ?_, pickO_nodup h.2⟩
      obtain ⟨p, hp, e⟩ := List.mem_map.1 hm
      exact List.mem_map.2 ⟨p, mem_pickO hp, e⟩
    · exact pickO_nodup h.2
mutual
theorem RV.pick {γ : Gam} {o o' : Obs} {M M' : Mut} {w : World} (hd : ∀ x u, Rd M w x u → Rd M' w x u) : ∀ (v : AV) (u : Value), (∀ k ∈ v.ids, lookup k o' = lookup k o) → RV γ o M w v u → RV γ o' M' w v u
  | .d x, u, _, h => by
    simp only [RV] at h ⊢
    exact hd x u h
  | .own k, u, hi, h => by
    simp only [RV] at h ⊢
    rw [hi k (by simp [AV.ids])]
    exact h
  | .tight n xs, u, _, h => by
    simp only [RV] at h ⊢
    exact ⟨hd _ u h.1, h.2⟩
  | .ref i off, u, _, h => by simpa only [RV] using h
  | .elt i j off, u, hi, h => by
    simp only [RV] at h ⊢
    rw [hi i (by simp [AV.ids])]
    exact h
  | .agg cs, u, hi, h => by
    simp only [RV] at h ⊢
    obtain ⟨us, e, h⟩ := h
    exact ⟨us, e, RVL.pick hd cs us (by simpa only [AV.ids] using hi) h⟩
  | .tup cs, u, hi, h => by
    simp only [RV] at h ⊢
    obtain ⟨us, e, h⟩ := h
    exact ⟨us, e, RVL.pick hd cs us (by simpa only [AV.ids] using hi) h⟩
  | .clo f as bs, u, hi, h => by
    simp only [RV] at h ⊢
    obtain ⟨xs, ys, e, h1, h2⟩ := h
    simp only [AV.ids, List.mem_append] at hi
    exact ⟨xs, ys, e, RVL.pick hd as xs (fun k hk => hi k (.inl hk)) h1, RVL.pick hd bs ys (fun k hk => hi k (.inr hk)) h2⟩
  | .undef, u, _, h => by simp only [RV]
theorem RVL.pick {γ : Gam} {o o' : Obs} {M M' : Mut} {w : World} (hd : ∀ x u, Rd M w x u → Rd M' w x u) : ∀ (vs : List AV) (us : List Value), (∀ k ∈ idsL vs, lookup k o' = lookup k o) → RVL γ o M w vs us → RVL γ o' M' w vs us
  | [], us, _, h => by simpa only [RVL] using h
  | v :: vs, us, hi, h => by
    simp only [RVL] at h ⊢
    obtain ⟨u, us', e, h1, h2⟩ := h
    simp only [idsL, List.mem_append] at hi
    exact ⟨u, us', e, RV.pick hd v u (fun k hk => hi k (.inl hk)) h1, RVL.pick hd vs us' (fun k hk => hi k (.inr hk)) h2⟩
end
theorem RVL_keepT {γ : Gam} {o : Obs} {M : Mut} {w : World} (ks : List Nat) : ∀ (vs : List AV) (us : List Value) (i : Nat), RVL γ o M w vs us → RVL γ o M w (keepT ks i vs) us
  | [], us, i, h => by simpa only [RVL, keepT] using h
  | v :: vs, us, i, h => by
    simp only [RVL, keepT] at h ⊢
    obtain ⟨u, us', e, h1, h2⟩ := h
    refine ⟨u, us', e, ?_, RVL_keepT ks vs us' (i + 1) h2⟩
    split
    · exact h1
    · simp only [RV]
theorem closedO_ok {ids : List Id} {id : Id} {cs : List AV} : ∀ {o : Obs}, closedO ids o = true → (id, .box cs) ∈ o → ∀ k ∈ idsL cs, k.1 = 0 ∨ ids.contains k = true
  | [], _, h => by simp at h
  | (j, .box ds) :: r, hc, h => by
    simp only [closedO, Bool.and_eq_true, List.all_eq_true, Bool.or_eq_true, beq_iff_eq] at hc
    rcases List.mem_cons.1 h with e | h
    · injection e with e1 e2
      injection e2 with e2
      subst e2
      exact hc.1
    · exact closedO_ok hc.2 h
  | (j, .arr g n es) :: r, hc, h => by
    simp only [closedO, Bool.and_eq_true] at hc
    rcases List.mem_cons.1 h with e | h
    · injection e with e1 e2
      simp at e2
    · exact closedO_ok hc.2 h
  | (j, .map es) :: r, hc, h => by
    simp only [closedO, Bool.and_eq_true] at hc
    rcases List.mem_cons.1 h with e | h
    · injection e with e1 e2
      simp at e2
    · exact closedO_ok hc.2 h
  | (j, .tok n xs) :: r, hc, h => by
    simp only [closedO] at hc
    rcases List.mem_cons.1 h with e | h
    · injection e with e1 e2
      simp at e2
    · exact closedO_ok hc h

theorem closedO_okA {ids : List Id} {id : Id} {g : Bool} {n : Nat} {es : List (List AV)} : ∀ {o : Obs}, closedO ids o = true → (id, .arr g n es) ∈ o → ∀ k ∈ idsL es.flatten, k.1 = 0 ∨ ids.contains k = true
  | [], _, h => by simp at h
  | (j, .arr g' n' fs) :: r, hc, h => by
    simp only [closedO, Bool.and_eq_true, List.all_eq_true, Bool.or_eq_true, beq_iff_eq] at hc
    rcases List.mem_cons.1 h with e | h
    · injection e with e1 e2
      injection e2 with e3 e4 e5
      subst e5
      exact hc.1
    · exact closedO_okA hc.2 h
  | (j, .box ds) :: r, hc, h => by
    simp only [closedO, Bool.and_eq_true] at hc
    rcases List.mem_cons.1 h with e | h
    · injection e with e1 e2
      simp at e2
    · exact closedO_okA hc.2 h
  | (j, .map es) :: r, hc, h => by
    simp only [closedO, Bool.and_eq_true] at hc
    rcases List.mem_cons.1 h with e | h
    · injection e with e1 e2
      simp at e2
    · exact closedO_okA hc.2 h
  | (j, .tok n xs) :: r, hc, h => by
    simp only [closedO] at hc
    rcases List.mem_cons.1 h with e | h
    · injection e with e1 e2
      simp at e2
    · exact closedO_okA hc h
theorem closedO_okM {ids : List Id} {id : Id} {es : List (D × AV)} : ∀ {o : Obs}, closedO ids o = true → (id, .map es) ∈ o → ∀ k ∈ idsL (es.map (·.2)), k.1 = 0 ∨ ids.contains k = true
  | [], _, h => by simp at h
  | (j, .map fs) :: r, hc, h => by
    simp only [closedO, Bool.and_eq_true, List.all_eq_true, Bool.or_eq_true, beq_iff_eq] at hc
    rcases List.mem_cons.1 h with e | h
    · injection e with e1 e2
      injection e2 with e2
      subst e2
      rw [← idsM_eq]
      exact hc.1
    · exact closedO_okM hc.2 h
  | (j, .box ds) :: r, hc, h => by
    simp only [closedO, Bool.and_eq_true] at hc
    rcases List.mem_cons.1 h with e | h
    · injection e with e1 e2
      simp at e2
    · exact closedO_okM hc.2 h
  | (j, .arr g n es) :: r, hc, h => by
    simp only [closedO, Bool.and_eq_true] at hc
    rcases List.mem_cons.1 h with e | h
    · injection e with e1 e2
      simp at e2
    · exact closedO_okM hc.2 h
  | (j, .tok n xs) :: r, hc, h => by
    simp only [closedO] at hc
    rcases List.mem_cons.1 h with e | h
    · injection e with e1 e2
      simp at e2
    · exact closedO_okM hc h

theorem SR.pick {T : Ctx} {N : Mut} {w0 : World} {X : Fm} {γ : Gam} {w : World} {s : St} {a : Act} (h : SR T N w0 X γ w s a) (ks : List Nat) (ids : List Id) (ht : ∀ k ∈ idsL (keepT ks 0 s.t), k ∈ ids) (hc : closedO ids (pickO ids s.o) = true) :
    SR T N w0 X γ w ⟨keepT ks 0 s.t, pickO ids s.o⟩ a := by
  have hown : ∀ b i, own γ (pickO ids s.o) b i → own γ s.o b i := fun b i ⟨p, hp, hb, hm⟩ => ⟨p, mem_pickO hp, hb, hm⟩
  have hk : Keep (all γ N s.o) (all γ N (pickO ids s.o)) w w := (Chg.refl (fun _ _ => False) w).keep (fun _ _ hf => hf.elim) fun b i _ hm => hm.imp id (hown b i)
  have hd : ∀ x u, Rd (all γ N s.o) w x u → Rd (all γ N (pickO ids s.o)) w x u := fun x u => Rd.keep hk x u
  refine ⟨⟨pickO_nodup h.inv.keys, fun p hp q hq b => h.inv.apart p (mem_pickO hp) q (mem_pickO hq) b, fun p hp => h.inv.sep p (mem_pickO hp), h.inv.old, fun p hp => ?_⟩, ?_, h.defers, h.chg, fun b i hm => h.fresh b i (hown b i hm), fun id b q hb => ?_, fun g cs hg => RdC.keep hk _ _ _ (h.glob g cs hg)⟩
  · have hro := h.inv.obs p (mem_pickO hp)
    obtain ⟨j, ob⟩ := p
    cases ob with
    | box cs =>
      obtain ⟨b, arr, ty, e, hh, hv⟩ := hro
      exact ⟨b, arr, ty, e, hh, RVL.pick hd _ _ (fun k hk => lookup_pickO ids k (closedO_ok hc hp k hk) _) hv⟩
    | tok n xs =>
      simp only [RO] at hro ⊢
      cases hg : (γ j).b with
      | none => rw [hg] at hro; exact ⟨hd _ _ hro.1, hro.2⟩
      | some b =>
        rw [hg] at hro
        obtain ⟨arr, ty, hb, h1, h2, h3⟩ := hro
        exact ⟨arr, ty, hb, h1, h2, RdE.keep hk _ _ _ _ h3⟩
    | arr g n es =>
      simp only [RO] at hro ⊢
      cases hg : (γ j).b with
      | none => rw [hg] at hro; exact hro
      | some b =>
        rw [hg] at hro
        obtain ⟨arr, ty, hb, h1, h2, h3, us, rest, e, h4⟩ := hro
        exact ⟨arr, ty, hb, h1, h2, h3, us, rest, e, RVL.pick hd _ _ (fun k hk => lookup_pickO ids k (closedO_okA hc hp k hk) _) h4⟩
    | map es =>
      obtain ⟨b, ents, clock, e, hh, h1, h2, h3⟩ := hro
      exact ⟨b, ents, clock, e, hh, h1, h2, RVL.pick hd _ _ (fun k hk => lookup_pickO ids k (closedO_okM hc hp k hk) _) h3⟩
  · exact RVL.pick hd _ _ (fun k hk => lookup_pickO ids k (.inr (by simpa using ht k hk)) _) (RVL_keepT ks _ _ 0 h.t)
  · obtain ⟨h1, h2, ob, h3, h4⟩ := h.pin id b q hb
    exact ⟨h1, h2, ob, by rw [lookup_pickO ids id (.inl h1), h3], h4⟩

theorem SR.keep {T : Ctx} {N : Mut} {w0 : World} {X : Fm} {γ : Gam} {w : World} {s : St} {a : Act} (h : SR T N w0 X γ w s a) {R : Type} (ks : List Nat) {κ : St → Option R} {r : R} (hr : s.keep ks κ = some r) :
    ∃ s', SR T N w0 X γ w s' a ∧ κ s' = some r := by
  unfold St.keep at hr
  simp (config := { zeta := true }) only at hr
  split at hr
  · rename_i hc
    refine ⟨_, h.pick ks _ (fun k hk => ?_) hc, hr⟩
    simp only [reachN, List.mem_append]
    exact .inl hk
  · simp at hr

end Go.Ab

namespace Go.Ab

/-! # Slices that are written no more -/
theorem datas_len {o : Obs} : ∀ (vs : List AV) (ds : List D), datas o vs = some ds → ds.length = vs.length
  | [], ds, h => by
    simp only [datas, Option.some.injEq] at h
    subst h
    rfl
  | v :: vs, ds, h => by
    simp only [datas] at h
    split at h
    · rename_i x y hx hy
      simp only [Option.some.injEq] at h
      subst h
      simp [datas_len vs y hy]
    · simp at h
theorem datas_app {o : Obs} : ∀ (vs us : List AV), datas o (vs ++ us) = (match datas o vs, datas o us with | some x, some y => some (x ++ y) | _, _ => none)
  | [], us => by
    simp only [List.nil_append, datas]
    cases datas o us <;> simp
  | v :: vs, us => by
    simp only [List.cons_append, datas, datas_app vs us]
    cases v.data o <;> cases datas o vs <;> cases datas o us <;> simp
theorem datasE_ok (o : Obs) (g : Bool) (n : Nat) : ∀ (es : List (List AV)) (xs : List D), datasE o g es = some xs → (∀ e ∈ es, e.length = n) →
    datas o es.flatten = some (flat xs) ∧ ((∀ x ∈ xs, x.cells.length = n) ∧ ∀ d ∈ flat xs, d.cell = true) ∧ xs.length = es.length
  | [], xs, h, _ => by
    simp only [datasE, Option.some.injEq] at h
    subst h
    exact ⟨rfl, ⟨by simp, by simp [flat]⟩, rfl⟩
  | e :: r, xs, h, hn => by
    simp only [datasE] at h
    split at h
    · rename_i ds ys h1 h2
      split at h
      · rename_i hc
        simp only [Option.some.injEq] at h
        subst h
        obtain ⟨h3, ⟨h4, h5⟩, h6⟩ := datasE_ok o g n r ys h2 fun x hx => hn x (by simp [hx])
        have hlen : ds.length = n := by
          rw [← hn e (by simp)]
          exact datas_len _ _ h1
        have hcells : (valD g ds).cells = ds := by
          cases g with
          | true => rfl
          | false =>
            rcases hc.2 with h | h
            · simp at h
            · obtain ⟨d, rfl⟩ := List.length_eq_one_iff.1 h
              have : d.cell = true := by simpa using hc.1
              simp only [valD, Bool.false_eq_true, if_false, List.headD_cons]
              cases d <;> simp_all [D.cell, D.cells]
        refine ⟨?_, ⟨?_, ?_⟩, by simp [h6]⟩
        · rw [List.flatten_cons, datas_app, h1, h3]
          simp [flat, hcells]
        · intro x hx
          rcases List.mem_cons.1 hx with rfl | hx
          · rw [hcells, hlen]
          · exact h4 x hx
        · intro d hd
          simp only [flat, List.flatMap_cons, List.mem_append, hcells] at hd
          rcases hd with hd | hd
          · exact List.all_eq_true.1 hc.1 d hd
          · exact h5 d hd
      · simp at h
    · simp at h

/-- A slice that is written no more: whoever holds it holds data. -/
theorem SR.iceA {T : Ctx} {N : Mut} {w0 : World} {X : Fm} {γ : Gam} {w : World} {s : St} {a : Act} (h : SR T N w0 X γ w s a) {id : Id} {g : Bool} {n : Nat} {es : List (List AV)} {xs : List D} (hl : lookup id s.o = some (.arr g n es)) (hxs : datasE s.o g es = some xs) (hid : id.1 ≠ 0) :
    SR T N w0 X γ w (s.iceA id n xs) a := by
  have hmem := lookup_mem hl
  have hsub : ∀ p ∈ subO (icedO id n xs) (dropR id) (erase id s.o), p.1 ≠ id ∧ ∃ q ∈ s.o, q.1 = p.1 ∧ p.2 = q.2.sub (icedO id n xs) (dropR id) := by
    intro p hp
    rw [subO_eq] at hp
    obtain ⟨q, hq, rfl⟩ := List.mem_map.1 hp
    exact ⟨(erase_sub hq).2, q, (erase_sub hq).1, rfl, rfl⟩
  have hown : ∀ m i, own γ (subO (icedO id n xs) (dropR id) (erase id s.o)) m i → own γ s.o m i ∧ ∀ b, (γ id).b = some b → m ≠ b := by
    rintro m i ⟨p, hp, hpb, hm⟩
    obtain ⟨hne, q, hq, e, e2⟩ := hsub p hp
    rw [← e] at hpb hm
    rw [e2, Ob.sub_may] at hm
    refine ⟨⟨q, hq, hpb, hm⟩, ?_⟩
    rintro b hb rfl
    exact hne (by rw [← e]; exact h.inv.apart q hq _ hmem m hpb hb)
  have hrow : (∀ x u, Rd (all γ N s.o) w x u → Rd (all γ N (subO (icedO id n xs) (dropR id) (erase id s.o))) w x u) → ∀ u, RV γ s.o (all γ N s.o) w (.own id) u → Rd (all γ N (subO (icedO id n xs) (dropR id) (erase id s.o))) w (.sl n xs) u := by
    intro hd u hx
    simp only [RV] at hx
    obtain ⟨ob, l, hl', hs, rfl⟩ := hx
    rw [hl] at hl'
    injection hl' with hl'
    subst hl'
    simp only [Ob.sl, Option.some.injEq] at hs
    subst hs
    obtain ⟨h1, h2⟩ := datasE_ok s.o g n es xs hxs (arr_n h hl)
    have hro := h.inv.obs _ (lookup_mem hl)
    simp only [RO] at hro
    cases hb : (γ id).b with
    | none =>
      rw [hb] at hro
      obtain ⟨rfl, hval⟩ := hro
      simp only [slVal, tokVal, hb, hval, Rd]
      exact ⟨none, _, _, rfl, h2.2, by simp, fun _ => rfl, fun p hp => by simp at hp⟩
    | some b =>
      rw [hb] at hro
      obtain ⟨arr, ty, hh, hcap, hsz, hn, us, rest, e3, hv⟩ := hro
      have hrd0 := datas_ok h.inv _ _ _ hv h1
      have hrd : RdL (all γ N (subO (icedO id n xs) (dropR id) (erase id s.o))) w (flat xs) us := by
        rw [RdL_iff] at hrd0 ⊢
        exact ⟨hrd0.1, fun i d u h1 h2 => hd d u (hrd0.2 i d u h1 h2)⟩
      have hfree : ∀ j, ¬ all γ N (subO (icedO id n xs) (dropR id) (erase id s.o)) b j := by
        rintro j (hm | hm)
        · exact h.inv.sep _ hmem b hb j hm
        · exact (hown b j hm).2 b hb rfl
      simp only [slVal, tokVal, hb, hcap.2, Rd]
      refine ⟨_, _, _, rfl, h2.2, hcap.1, fun hn => by simp at hn, fun p hp => ?_⟩
      simp only [Option.some.injEq] at hp
      subst hp
      refine (RdE_flat ..).2 ⟨h2.1.1, RdC_of _ w hh hfree _ us 0 hrd h2.1.2 fun i u hi => ?_⟩
      have hil := (List.getElem?_eq_some_iff.1 hi).1
      have : arr.toList[i]? = some u := by rw [e3, List.getElem?_append_left hil, hi]
      simpa using this
  have ho : (∀ x u, Rd (all γ N s.o) w x u → Rd (all γ N (subO (icedO id n xs) (dropR id) (erase id s.o))) w x u) → ∀ k u, RV γ s.o (all γ N s.o) w (.own k) u → RV γ (subO (icedO id n xs) (dropR id) (erase id s.o)) (all γ N (subO (icedO id n xs) (dropR id) (erase id s.o))) w (icedO id n xs k) u := by
    intro hd k u hv'
    by_cases e : k = id
    · subst e
      simp only [icedO, if_true, RV]
      exact hrow hd u hv'
    · simp only [icedO, if_neg e]
      simp only [RV] at hv' ⊢
      obtain ⟨ob, l, hlk, hs, e3⟩ := hv'
      refine ⟨ob.sub (icedO id n xs) (dropR id), l, ?_, by rw [Ob.sub_sl]; exact hs, e3⟩
      rw [lookup_subO, lookup_erase e, hlk]
      rfl
  have he : ∀ M', ∀ k i off u, RV γ s.o (all γ N s.o) w (.elt k i off) u → RV γ (subO (icedO id n xs) (dropR id) (erase id s.o)) M' w (eltO (icedO id n xs k) i off) u := by
    intro M' k i off u hv'
    by_cases e : k = id
    · simp only [icedO, if_pos e, eltO, RV]
    · simp only [icedO, if_neg e, eltO]
      simp only [RV] at hv' ⊢
      obtain ⟨b', g', n', es', hb', hlk, e3⟩ := hv'
      refine ⟨b', g', n', subE (icedO id n xs) (dropR id) es', hb', ?_, e3⟩
      rw [lookup_subO, lookup_erase e, hlk]
      rfl
  have hr : ∀ M', ∀ i off u, RV γ s.o (all γ N s.o) w (.ref i off) u → RV γ (subO (icedO id n xs) (dropR id) (erase id s.o)) M' w (dropR id i off) u := by
    intro M' i off u hv'
    by_cases e : i = id
    · simp only [dropR, if_pos e, RV]
    · simp only [dropR, if_neg e]
      simpa only [RV] using hv'
  exact h.core (γ' := γ) (w' := w) (o' := subO (icedO id n xs) (dropR id) (erase id s.o)) (fo := icedO id n xs) (fr := dropR id) (Chg.refl (fun _ _ => False) w) (fun _ _ hf => hf.elim) (fun m i _ hm => (hown m i hm).1) ho (fun _ => hr _) (fun _ => he _) (fun i ob1 hi _ hli => by
    have hne : i ≠ id := fun e => hid (e ▸ hi)
    refine ⟨rfl, ob1.sub (icedO id n xs) (dropR id), ?_, Ob.sub_kd ..⟩
    simp only [lookup_subO, lookup_erase hne, hli]
    rfl) fun hk => ⟨by
      rw [subO_keys]
      exact erase_nodup h.inv.keys, by
      intro p hp q hq m hpn hqn
      obtain ⟨hne, p', hp', e, _⟩ := hsub p hp
      obtain ⟨hne', q', hq', e', _⟩ := hsub q hq
      rw [← e, ← e']
      exact h.inv.apart p' hp' q' hq' m (by rw [e]; exact hpn) (by rw [e']; exact hqn), by
      intro p hp m hpn i hn
      obtain ⟨hne, q, hq, e, _⟩ := hsub p hp
      exact h.inv.sep q hq m (by rw [e]; exact hpn) i hn, h.inv.old, by
      intro p hp
      obtain ⟨hne, q, hq, e, e2⟩ := hsub p hp
      rw [e2, ← e]
      exact RO.sub hk q.1 q.2 rfl (fun _ _ => rfl) (ho fun x u => Rd.keep hk x u) (hr _) (he _) (h.inv.obs q hq)⟩
theorem SR.iceL {T : Ctx} {N : Mut} {w0 : World} {X : Fm} {γ : Gam} {w : World} {a : Act} : ∀ (L : List Id) {s : St}, SR T N w0 X γ w s a → (∀ k ∈ L, k.1 ≠ 0) → SR T N w0 X γ w (s.iceL L) a
  | [], s, h, _ => h
  | k :: r, s, h, hL => by
    unfold St.iceL
    split
    · rename_i g n es hl
      split
      · rename_i xs hxs
        exact SR.iceL r (h.iceA hl hxs (hL k (by simp))) fun j hj => hL j (by simp [hj])
      · exact SR.iceL r h fun j hj => hL j (by simp [hj])
    · rename_i cs hl
      split
      · rename_i ds hds
        split
        · rename_i hc
          exact SR.iceL r (h.ice hl hds (fun d hd => List.all_eq_true.1 hc d hd) (hL k (by simp))).1 fun j hj => hL j (by simp [hj])
        · exact SR.iceL r h fun j hj => hL j (by simp [hj])
      · exact SR.iceL r h fun j hj => hL j (by simp [hj])
    · exact SR.iceL r h fun j hj => hL j (by simp [hj])
theorem SR.cool {T : Ctx} {N : Mut} {w0 : World} {X : Fm} {γ : Gam} {w : World} {s : St} {a : Act} (h : SR T N w0 X γ w s a) (dst : Option Tmp) : SR T N w0 X γ w (s.cool T dst) a := by
  unfold St.cool
  split
  · refine SR.iceL _ h fun k hk => ?_
    have := (List.mem_filter.1 ((List.mem_append.1 hk).elim id id)).2
    simp only [newId, Bool.and_eq_true, Nat.ble_eq] at this
    omega
  · exact h
theorem SR.chill {T : Ctx} {N : Mut} {w0 : World} {X : Fm} {γ : Gam} {w : World} {s : St} {a : Act} (h : SR T N w0 X γ w s a) (dst : Option Tmp) (c : Call) : SR T N w0 X γ w (s.chill T dst c) a := by
  unfold St.chill
  split
  · refine SR.iceL _ h fun k hk => ?_
    have := (List.mem_filter.1 hk).2
    simpa using this
  · exact h
end Go.Ab

namespace Go.Ab

def pack : List Value → Value
  | [u] => u
  | us => .tuple us.toArray

/-- A function that has a body. -/
def FnOk (P : Program) (f : FuncId) : Prop := ∃ fn, P.funcs[f]? = some fn ∧ (fn.name == "runtime.NumGoroutine") = false ∧ fn.body.isNone = false
def GlobOk (T : Ctx) (M : Mut) (w : World) : Prop := ∀ g cs, T.glob g = some cs → RdC M w cs ⟨g, 0, none⟩ 0
/-- A contract of a function that turns what it is handed: the objects are named (0, 0), (0, 1) .. -/
def Turns (P : Program) (T : Ctx) (f : FuncId) (G : List AV → Obs → Option (List AV × Obs)) : Prop :=
  ∀ as o rs o', G as o = some (rs, o') → FnOk P f ∧ ∀ (γ : Gam) (N : Mut) (w : World) (vs : List Value), (∀ p ∈ o, p.1.1 = 0) → Inv γ N o w → RVL γ o (all γ N o) w as vs → GlobOk T (all γ N o) w →
    Calls P f vs.toArray w fun e w' => ∃ γ' us, Inv γ' N o' w' ∧ RVL γ' o' (all γ' N o') w' rs us ∧ e = .returned (pack us) ∧ Chg (own γ o) w w' ∧ (∀ b i, own γ' o' b i → own γ o b i ∨ w.heap.size ≤ b) ∧
      ∀ id ob, lookup id o = some ob → ob.kd ≠ 0 → (γ' id).b = (γ id).b ∧ ∃ ob', lookup id o' = some ob' ∧ ob'.kd = ob.kd

/-! ### names -/
theorem nubI_seen {k : Id} : ∀ {l seen : List Id}, k ∈ nubI seen l → k ∉ seen
  | [], seen, h => by simp [nubI] at h
  | j :: r, seen, h => by
    simp only [nubI] at h
    split at h
    · exact nubI_seen h
    · rename_i hj
      rcases List.mem_cons.1 h with rfl | h
      · simpa using hj
      · have := nubI_seen h
        exact fun hk => this (List.mem_cons_of_mem _ hk)
theorem nubI_nodup : ∀ (l seen : List Id), (nubI seen l).Nodup
  | [], seen => by simp [nubI]
  | j :: r, seen => by
    simp only [nubI]
    split
    · exact nubI_nodup r seen
    · rw [List.nodup_cons]
      exact ⟨fun h => nubI_seen h (by simp), nubI_nodup r _⟩
theorem idxI_get {k : Id} : ∀ {L : List Id} {i : Nat}, idxI k L = some i → L[i]? = some k
  | [], i, h => by simp [idxI] at h
  | j :: r, i, h => by
    simp only [idxI] at h
    split at h
    · rename_i e
      cases h
      simp [e]
    · split at h
      · rename_i i' hi
        cases h
        simpa using idxI_get hi
      · cases h
theorem idxI_mem {k : Id} : ∀ {L : List Id}, k ∈ L → ∃ i, idxI k L = some i
  | [], h => by simp at h
  | j :: r, h => by
    simp only [idxI]
    split
    · exact ⟨_, rfl⟩
    · rename_i hne
      rcases List.mem_cons.1 h with rfl | h
      · exact absurd rfl hne
      · obtain ⟨i, hi⟩ := idxI_mem h
        exact ⟨_, by rw [hi]⟩
theorem nodup_get {L : List Id} (hn : L.Nodup) {i j : Nat} {k : Id} (hi : L[i]? = some k) (hj : L[j]? = some k) : i = j := by
  obtain ⟨h1, h2⟩ := List.getElem?_eq_some_iff.1 hi
  obtain ⟨h3, h4⟩ := List.getElem?_eq_some_iff.1 hj
  exact (List.getElem_inj hn).1 (h2.trans h4.symm)
theorem idxI_of {k : Id} {L : List Id} (hn : L.Nodup) {i : Nat} (h : L[i]? = some k) : idxI k L = some i := by
  obtain ⟨j, hj⟩ := idxI_mem (List.mem_of_getElem? h)
  rw [hj, nodup_get hn h (idxI_get hj)]
theorem idxI_none {k : Id} {L : List Id} (h : idxI k L = none) : k ∉ L := fun hk => by
  obtain ⟨i, hi⟩ := idxI_mem hk
  rw [hi] at h
  cases h

theorem packO_get {o : Obs} {L : List Id} : ∀ {r : List Id} {n : Nat} {o1 : Obs}, packO o L n r = some o1 → ∀ i : Nat,
    (∀ k, r[i]? = some k → ∃ ob, lookup k o = some ob ∧ o1[i]? = some ((0, n + i), ob.sub (fwO L) (fwR L))) ∧ (∀ p, o1[i]? = some p → ∃ k ob, r[i]? = some k ∧ lookup k o = some ob ∧ p = ((0, n + i), ob.sub (fwO L) (fwR L)))
  | [], n, o1, h, i => by
    simp only [packO, Option.some.injEq] at h
    subst h
    simp
  | k :: r, n, o1, h, i => by
    simp only [packO] at h
    split at h
    · rename_i ob os h1 h2
      cases h
      cases i with
      | zero =>
        refine ⟨fun k' hk => ?_, fun p hp => ?_⟩
        · simp at hk
          subst hk
          exact ⟨ob, h1, by simp⟩
        · simp at hp
          subst hp
          exact ⟨k, ob, by simp, h1, by simp⟩
      | succ i =>
        obtain ⟨h3, h4⟩ := packO_get h2 i
        have e : n + 1 + i = n + (i + 1) := by omega
        rw [e] at h3 h4
        exact ⟨fun k' hk => by simpa using h3 k' (by simpa using hk), fun p hp => by simpa using h4 p (by simpa using hp)⟩
    · cases h
theorem packO_len {o : Obs} {L : List Id} : ∀ {r : List Id} {n : Nat} {o1 : Obs}, packO o L n r = some o1 → o1.map (·.1) = (List.range' n r.length).map fun i => (0, i)
  | [], n, o1, h => by
    simp only [packO, Option.some.injEq] at h
    subst h
    rfl
  | k :: r, n, o1, h => by
    simp only [packO] at h
    split at h
    · rename_i ob os h1 h2
      cases h
      simp only [List.map_cons, List.length_cons, List.range'_succ, packO_len h2]
    · cases h

/-- An object under another name. -/
theorem RO.ren {γ γ' : Gam} {o o' : Obs} {M M' : Mut} {w w' : World} {fo : Id → AV} {fr : Id → Nat → AV} (hk : Keep M M' w w') (id id' : Id) (ob : Ob)
    (hg : γ' id' = γ id) (hb : ∀ b, (γ id).b = some b → w'.heap[b]? = w.heap[b]?)
    (ho : ∀ k u, RV γ o M w (.own k) u → RV γ' o' M' w' (fo k) u) (hr : ∀ id off u, RV γ o M w (.ref id off) u → RV γ' o' M' w' (fr id off) u)
    (he : ∀ id i off u, RV γ o M w (.elt id i off) u → RV γ' o' M' w' (eltO (fo id) i off) u)
    (h : RO γ o M w id ob) : RO γ' o' M' w' id' (ob.sub fo fr) := by
  have hd : ∀ x u, Rd M w x u → Rd M' w' x u := fun x u => Rd.keep hk x u
  cases ob with
  | box cs =>
    obtain ⟨b, arr, ty, e, hh, hv⟩ := h
    exact ⟨b, arr, ty, by rw [hg]; exact e, by rw [hb b e]; exact hh, RVL.sub hd ho hr he _ _ hv⟩
  | tok n xs =>
    simp only [RO, Ob.sub] at h ⊢
    rw [hg]
    cases e : (γ id).b with
    | none => rw [e] at h; exact ⟨hd _ _ h.1, h.2⟩
    | some b =>
      rw [e] at h
      obtain ⟨arr, ty, hh, h1, h2, h3⟩ := h
      exact ⟨arr, ty, by rw [hb b e]; exact hh, h1, h2, RdE.keep hk _ _ _ _ h3⟩
  | arr g n es =>
    simp only [RO, Ob.sub] at h ⊢
    rw [hg]
    cases e : (γ id).b with
    | none => rw [e] at h; exact ⟨by rw [h.1]; rfl, h.2⟩
    | some b =>
      rw [e] at h
      obtain ⟨arr, ty, hh, h1, h2, h3, us, rest, e2, h4⟩ := h
      refine ⟨arr, ty, by rw [hb b e]; exact hh, by rw [subE_eq, List.length_map]; exact h1, h2, fun x hx => ?_, us, rest, e2, by rw [subE_flat]; exact RVL.sub hd ho hr he _ _ h4⟩
      rw [subE_eq] at hx
      obtain ⟨y, hy, rfl⟩ := List.mem_map.1 hx
      rw [subL_length]
      exact h3 y hy
  | map es =>
    simp only [RO, Ob.sub] at h ⊢
    obtain ⟨b, ents, clock, e, hh, h1, h2, h3⟩ := h
    refine ⟨b, ents, clock, by rw [hg]; exact e, by rw [hb b e]; exact hh, h1, by rw [subM_keyV]; exact h2, ?_⟩
    rw [subM_val]
    exact RVL.sub hd ho hr he _ _ h3
theorem Ob.may_some (ob : Ob) (g : Gh) : ∃ i, ob.may g i := by
  cases ob with
  | box cs => exact ⟨0, trivial⟩
  | tok n xs => exact ⟨g.sk + xs.length * n, Nat.le_refl _⟩
  | arr g n es => exact ⟨0, trivial⟩
  | map es => exact ⟨0, trivial⟩
theorem Keep.less {M M' : Mut} {w : World} (h : ∀ b i, M' b i → M b i) : Keep M M' w w := ⟨fun _ _ _ h _ => h, fun b i _ hm hm' => hm (h b i hm'), fun _ _ _ => rfl⟩

theorem mem_backO {L K : List Id} {d : Nat} {p : Id × Ob} : ∀ {o : Obs}, p ∈ backO L K d o ↔ ∃ q ∈ o, bkId L K d q.1 = some p.1 ∧ p.2 = q.2.sub (bkO L K d) (bkR L K d)
  | [] => by simp [backO]
  | (k, ob) :: r => by
    simp only [backO]
    split
    · rename_i j hj
      simp only [List.mem_cons, mem_backO (o := r), exists_eq_or_imp, hj, Option.some.injEq]
      constructor
      · rintro (rfl | h)
        · exact .inl ⟨rfl, rfl⟩
        · exact .inr h
      · rintro (⟨h1, h2⟩ | h)
        · exact .inl (Prod.ext h1.symm h2)
        · exact .inr h
    · rename_i hj
      simp only [List.mem_cons, mem_backO (o := r), exists_eq_or_imp, hj]
      simp
theorem mem_newO {L : List Id} {p : Id × Ob} : ∀ {o : Obs}, p ∈ newO L o ↔ p ∈ o ∧ p.1 ∉ L
  | [] => by simp [newO]
  | (k, ob) :: r => by
    simp only [newO]
    split
    · rename_i hk
      simp only [mem_newO (o := r), List.mem_cons]
      constructor
      · exact fun h => ⟨.inr h.1, h.2⟩
      · rintro ⟨rfl | h, h2⟩
        · exact absurd (by simpa using hk) h2
        · exact ⟨h, h2⟩
    · rename_i hk
      simp only [List.mem_cons, mem_newO (o := r)]
      constructor
      · rintro (rfl | h)
        · exact ⟨.inl rfl, by simpa using hk⟩
        · exact ⟨.inr h.1, h.2⟩
      · rintro ⟨rfl | h, h2⟩
        · exact .inl rfl
        · exact .inr ⟨h, h2⟩
theorem mem_mergeO {L : List Id} {o3 : Obs} {fo : Id → AV} {fr : Id → Nat → AV} {d : Nat} {p : Id × Ob} : ∀ {o : Obs}, p ∈ mergeO L o3 fo fr d o ↔
    (p.1 ∈ L ∧ lookup p.1 o3 = some p.2 ∧ ∃ q ∈ o, q.1 = p.1) ∨ (p.1 ∉ L ∧ newId d p.1 = false ∧ ∃ q ∈ o, q.1 = p.1 ∧ p.2 = q.2.sub fo fr)
  | [] => by simp [mergeO]
  | (k, ob) :: r => by
    have ih := mem_mergeO (L := L) (o3 := o3) (fo := fo) (fr := fr) (d := d) (p := p) (o := r)
    simp only [mergeO]
    split
    · rename_i hk
      have hk' : k ∈ L := by simpa using hk
      split
      · rename_i ob' hob
        rw [List.mem_cons, ih]
        constructor
        · rintro (rfl | h | h)
          · exact .inl ⟨hk', hob, (k, ob), by simp, rfl⟩
          · exact .inl ⟨h.1, h.2.1, h.2.2.elim fun q hq => ⟨q, by simp [hq.1], hq.2⟩⟩
          · exact .inr ⟨h.1, h.2.1, h.2.2.elim fun q hq => ⟨q, by simp [hq.1], hq.2⟩⟩
        · rintro (⟨h1, h2, q, hq, e⟩ | ⟨h1, h2, q, hq, e, e2⟩)
          · rcases List.mem_cons.1 hq with rfl | hq
            · simp only at e
              subst e
              rw [hob] at h2
              cases h2
              exact .inl rfl
            · exact .inr (.inl ⟨h1, h2, q, hq, e⟩)
          · rcases List.mem_cons.1 hq with rfl | hq
            · simp only at e
              exact absurd (e ▸ hk') h1
            · exact .inr (.inr ⟨h1, h2, q, hq, e, e2⟩)
      · rename_i hob
        rw [ih]
        constructor
        · rintro (h | h)
          · exact .inl ⟨h.1, h.2.1, h.2.2.elim fun q hq => ⟨q, by simp [hq.1], hq.2⟩⟩
          · exact .inr ⟨h.1, h.2.1, h.2.2.elim fun q hq => ⟨q, by simp [hq.1], hq.2⟩⟩
        · rintro (⟨h1, h2, q, hq, e⟩ | ⟨h1, h2, q, hq, e, e2⟩)
          · rcases List.mem_cons.1 hq with rfl | hq
            · simp only at e
              subst e
              rw [hob] at h2
              cases h2
            · exact .inl ⟨h1, h2, q, hq, e⟩
          · rcases List.mem_cons.1 hq with rfl | hq
            · simp only at e
              exact absurd (e ▸ hk') h1
            · exact .inr ⟨h1, h2, q, hq, e, e2⟩
    · rename_i hk
      have hk' : k ∉ L := by simpa using hk
      split
      · rename_i hd
        rw [ih]
        constructor
        · rintro (h | h)
          · exact .inl ⟨h.1, h.2.1, h.2.2.elim fun q hq => ⟨q, by simp [hq.1], hq.2⟩⟩
          · exact .inr ⟨h.1, h.2.1, h.2.2.elim fun q hq => ⟨q, by simp [hq.1], hq.2⟩⟩
        · rintro (⟨h1, h2, q, hq, e⟩ | ⟨h1, h2, q, hq, e, e2⟩)
          · rcases List.mem_cons.1 hq with rfl | hq
            · simp only at e
              exact absurd (e ▸ h1) hk'
            · exact .inl ⟨h1, h2, q, hq, e⟩
          · rcases List.mem_cons.1 hq with rfl | hq
            · simp only at e
              subst e
              rw [hd] at h2
              cases h2
            · exact .inr ⟨h1, h2, q, hq, e, e2⟩
      · rename_i hd
        rw [List.mem_cons, ih]
        constructor
        · rintro (rfl | h | h)
          · exact .inr ⟨hk', by simpa using hd, (k, ob), by simp, rfl, rfl⟩
          · exact .inl ⟨h.1, h.2.1, h.2.2.elim fun q hq => ⟨q, by simp [hq.1], hq.2⟩⟩
          · exact .inr ⟨h.1, h.2.1, h.2.2.elim fun q hq => ⟨q, by simp [hq.1], hq.2⟩⟩
        · rintro (⟨h1, h2, q, hq, e⟩ | ⟨h1, h2, q, hq, e, e2⟩)
          · rcases List.mem_cons.1 hq with rfl | hq
            · simp only at e
              exact absurd (e ▸ h1) hk'
            · exact .inr (.inl ⟨h1, h2, q, hq, e⟩)
          · rcases List.mem_cons.1 hq with rfl | hq
            · simp only at e e2
              exact .inl (Prod.ext e.symm e2)
            · exact .inr (.inr ⟨h1, h2, q, hq, e, e2⟩)
theorem mergeO_nodup {L : List Id} {o3 : Obs} {fo : Id → AV} {fr : Id → Nat → AV} {d : Nat} : ∀ {o : Obs}, (o.map (·.1)).Nodup → ((mergeO L o3 fo fr d o).map (·.1)).Nodup
  | [], _ => by simp [mergeO]
  | (k, ob) :: r, h => by
    simp only [List.map_cons, List.nodup_cons] at h
    have hn : ∀ x, ((k, x) : Id × Ob).1 ∉ (mergeO L o3 fo fr d r).map (·.1) := by
      intro x hm
      obtain ⟨p, hp, e⟩ := List.mem_map.1 hm
      rcases mem_mergeO.1 hp with ⟨_, _, q, hq, e2⟩ | ⟨_, _, q, hq, e2, _⟩
      · exact h.1 (List.mem_map.2 ⟨q, hq, e2.trans e⟩)
      · exact h.1 (List.mem_map.2 ⟨q, hq, e2.trans e⟩)
    simp only [mergeO]
    split
    · split
      · simp only [List.map_cons, List.nodup_cons]
        exact ⟨hn ob, mergeO_nodup h.2⟩
      · exact mergeO_nodup h.2
    · split
      · exact mergeO_nodup h.2
      · simp only [List.map_cons, List.nodup_cons]
        exact ⟨hn ob, mergeO_nodup h.2⟩
theorem newO_nodup {L : List Id} : ∀ {o : Obs}, (o.map (·.1)).Nodup → ((newO L o).map (·.1)).Nodup
  | [], _ => by simp [newO]
  | (k, ob) :: r, h => by
    simp only [List.map_cons, List.nodup_cons] at h
    simp only [newO]
    split
    · exact newO_nodup h.2
    · simp only [List.map_cons, List.nodup_cons]
      refine ⟨fun hm => ?_, newO_nodup h.2⟩
      obtain ⟨p, hp, e⟩ := List.mem_map.1 hm
      exact h.1 (List.mem_map.2 ⟨p, (mem_newO.1 hp).1, e⟩)
theorem mem_keysN {k : Id} : ∀ {o : Obs}, k ∈ keysN o ↔ k.1 ≠ 0 ∧ k ∈ o.map (·.1)
  | [] => by simp [keysN]
  | (j, ob) :: r => by
    simp only [keysN]
    split
    · rename_i hj
      simp only [mem_keysN (o := r), List.map_cons, List.mem_cons]
      constructor
      · exact fun h => ⟨h.1, .inr h.2⟩
      · rintro ⟨h1, rfl | h2⟩
        · exact absurd hj h1
        · exact ⟨h1, h2⟩
    · rename_i hj
      simp only [List.mem_cons, mem_keysN (o := r), List.map_cons]
      constructor
      · rintro (rfl | h)
        · exact ⟨hj, .inl rfl⟩
        · exact ⟨h.1, .inr h.2⟩
      · rintro ⟨h1, rfl | h2⟩
        · exact .inl rfl
        · exact .inr ⟨h1, h2⟩
section
variable {L K : List Id} {d : Nat}
theorem baseN_two (d : Nat) : ∀ L : List Id, 2 ≤ baseN d L
  | [] => Nat.le_refl _
  | k :: r => by
    have := baseN_two d r
    simp only [baseN]
    split
    · split <;> omega
    · exact this
theorem baseN_lt {d : Nat} : ∀ {L : List Id} {k : Id}, k ∈ L → newId d k = true → k.1 < baseN d L
  | j :: r, k, hm, hn => by
    simp only [baseN]
    rcases List.mem_cons.1 hm with rfl | hm
    · rw [if_pos hn]
      split <;> omega
    · have := baseN_lt hm hn
      split
      · split <;> omega
      · exact this
theorem base_new (d : Nat) (L : List Id) (n : Nat) : newId d (baseN d L + n, d) = true := by
  have := baseN_two d L
  simp only [newId, beq_self_eq_true, Bool.and_true, Nat.ble_eq]
  omega
theorem base_not {d : Nat} {L : List Id} {n : Nat} (h : (baseN d L + n, d) ∈ L) : False := by
  have := baseN_lt h (base_new d L n)
  simp only at this
  omega
/-- The caller's names are apart. -/
theorem bkId_inj (hL : L.Nodup) {k k' j : Id} (h : bkId L K d k = some j) (h' : bkId L K d k' = some j) : k = k' := by
  unfold bkId at h h'
  split at h <;> split at h'
  · rename_i h1 h2
    have := nodup_get hL h h'
    exact Prod.ext (h1.trans h2.symm) this
  · rename_i h1 h2
    split at h'
    · rename_i i hi
      cases h'
      exact (base_not (List.mem_of_getElem? h)).elim
    · cases h'
  · rename_i h1 h2
    split at h
    · rename_i i hi
      cases h
      exact (base_not (List.mem_of_getElem? h')).elim
    · cases h
  · split at h
    · rename_i i hi
      cases h
      split at h'
      · rename_i i' hi'
        injection h' with h'
        injection h' with h1 h2
        have : i' = i := by omega
        subst this
        have e1 := idxI_get hi
        have e2 := idxI_get hi'
        rw [e1] at e2
        injection e2
      · cases h'
    · cases h
theorem backO_nodup (hL : L.Nodup) : ∀ {o : Obs}, (o.map (·.1)).Nodup → ((backO L K d o).map (·.1)).Nodup
  | [], _ => by simp [backO]
  | (k, ob) :: r, h => by
    simp only [List.map_cons, List.nodup_cons] at h
    simp only [backO]
    split
    · rename_i j hj
      simp only [List.map_cons, List.nodup_cons]
      refine ⟨fun hm => ?_, backO_nodup hL h.2⟩
      obtain ⟨p, hp, e⟩ := List.mem_map.1 hm
      obtain ⟨q, hq, hb, _⟩ := mem_backO.1 hp
      have := bkId_inj hL hj (by rw [hb, e])
      exact h.1 (List.mem_map.2 ⟨q, hq, this.symm⟩)
    · exact backO_nodup hL h.2
end
end Go.Ab

namespace Go.Ab

def gamC (γ : Gam) (L : List Id) : Gam := fun id => match L[id.2]? with | some k => γ k | none => ⟨none, 0, .slice none 0 0, 0⟩
def gamB (γ γ2 : Gam) (L K : List Id) (d : Nat) : Gam := fun k => match idxI k L with
  | some i => γ2 (0, i)
  | none => if newId d k = true then (match K[k.1 - baseN d L]? with | some k' => γ2 k' | none => γ k) else γ k
theorem gamB_bk {γ γ2 : Gam} {L K : List Id} {d : Nat} (hL : L.Nodup) {k j : Id} (h : bkId L K d k = some j) : gamB γ γ2 L K d j = γ2 k := by
  unfold bkId at h
  unfold gamB
  split at h
  · rename_i h1
    rw [idxI_of hL h]
    show γ2 (0, k.2) = γ2 k
    rw [show ((0, k.2) : Id) = k from Prod.ext h1.symm rfl]
  · split at h
    · rename_i i hi
      cases h
      cases hx : idxI (baseN d L + i, d) L with
      | some i' => exact (base_not (List.mem_of_getElem? (idxI_get hx))).elim
      | none =>
        simp only [base_new, if_true]
        rw [Nat.add_sub_cancel_left, idxI_get hi]
    · cases h
theorem gamB_rest {γ γ2 : Gam} {L K : List Id} {d : Nat} {k : Id} (h1 : k ∉ L) (h2 : newId d k = false) : gamB γ γ2 L K d k = γ k := by
  unfold gamB
  cases hx : idxI k L with
  | some i => exact absurd (List.mem_of_getElem? (idxI_get hx)) h1
  | none => simp [h2]

theorem packA_ok {γ : Gam} {o : Obs} {M : Mut} {w : World} {rs : List AV} {us : List Value} (h : RVL γ o M w rs us) : RV γ o M w (packA rs) (pack us) := by
  match rs, us, h with
  | [], us, h =>
    simp only [RVL] at h
    subst h
    simp only [packA, pack, RV]
    exact ⟨[], rfl, by simp [RVL]⟩
  | [x], us, h =>
    simp only [RVL] at h
    obtain ⟨u, us', rfl, h, rfl⟩ := h
    simpa only [packA, pack] using h
  | x :: y :: r, us, h =>
    have hl := RVL_length h
    match us, hl with
    | u :: v :: us', _ =>
      simp only [packA, pack, RV]
      exact ⟨_, rfl, h⟩

/-- A call that turns objects, seen by the caller. -/
theorem SR.gcall {P : Program} {T : Ctx} {N : Mut} {w0 : World} {X : Fm} {γ : Gam} {w : World} {s : St} {a : Act} (h : SR T N w0 X γ w s a) {f : FuncId} {G : List AV → Obs → Option (List AV × Obs)} (hT : Turns P T f G)
    {as : List AV} {vs : List Value} (hv : RVL γ s.o (all γ N s.o) w as vs) {L : List Id} (hL : L.Nodup) {dst : Option Tmp} {o1 o2 : Obs} (hp : packO s.o L 0 L = some o1) {rs : List AV}
    (hG : G (subL (fwO L) (fwR L) as) o1 = some (rs, o2)) :
    Calls P f vs.toArray w fun e w' => ∃ γ' u, SR T N w0 X γ' w' (gAfter s dst L rs o2) (a.put dst u) ∧ e = .returned u := by
  -- the callee's side
  have hpk := fun i => packO_get hp i
  have hkeys1 := packO_len hp
  have hmem1 : ∀ {p : Id × Ob}, p ∈ o1 ↔ ∃ i k ob, L[i]? = some k ∧ lookup k s.o = some ob ∧ p = ((0, i), ob.sub (fwO L) (fwR L)) := by
    intro p
    constructor
    · intro hm
      obtain ⟨i, hi⟩ := List.mem_iff_getElem?.1 hm
      obtain ⟨k, ob, h1, h2, h3⟩ := (hpk i).2 p hi
      rw [Nat.zero_add] at h3
      exact ⟨i, k, ob, h1, h2, h3⟩
    · rintro ⟨i, k, ob, h1, h2, rfl⟩
      obtain ⟨ob', h3, h4⟩ := (hpk i).1 k h1
      rw [h2] at h3
      cases h3
      rw [Nat.zero_add] at h4
      exact List.mem_of_getElem? h4
  have hnd1 : (o1.map (·.1)).Nodup := by
    rw [hkeys1]
    unfold List.Nodup
    rw [List.pairwise_map]
    exact (List.nodup_range' (s := 0) (n := L.length)).imp fun h e => h (by injection e)
  have hlk1 : ∀ {i : Nat} {k : Id} {ob : Ob}, L[i]? = some k → lookup k s.o = some ob → lookup (0, i) o1 = some (ob.sub (fwO L) (fwR L)) := fun h1 h2 => lookup_of_mem hnd1 (hmem1.2 ⟨_, _, _, h1, h2, rfl⟩)
  have hin : ∀ k ∈ L, ∃ ob, lookup k s.o = some ob := fun k hk => by
    obtain ⟨i, hi⟩ := List.mem_iff_getElem?.1 hk
    obtain ⟨ob, h1, _⟩ := (hpk i).1 k hi
    exact ⟨ob, h1⟩
  have hgC : ∀ {i : Nat} {k : Id}, L[i]? = some k → gamC γ L (0, i) = γ k := fun {i k} hi => by
    unfold gamC
    simp only [hi]
  let N1 : Mut := fun b i => N b i ∨ ∃ p ∈ s.o, p.1 ∉ L ∧ (γ p.1).b = some b ∧ p.2.may (γ p.1) i
  have hM1 : ∀ b i, all (gamC γ L) N1 o1 b i → all γ N s.o b i := by
    rintro b i ((hm | ⟨p, hp, _, hb, hm⟩) | ⟨p, hp, hb, hm⟩)
    · exact .inl hm
    · exact .inr ⟨p, hp, hb, hm⟩
    · obtain ⟨j, k, ob, h1, h2, rfl⟩ := hmem1.1 hp
      rw [hgC h1] at hb hm
      rw [Ob.sub_may] at hm
      exact .inr ⟨_, lookup_mem h2, hb, hm⟩
  have hM2 : ∀ b i, all γ N s.o b i → all (gamC γ L) N1 o1 b i := by
    rintro b i (hm | ⟨p, hp, hb, hm⟩)
    · exact .inl (.inl hm)
    · by_cases hk : p.1 ∈ L
      · obtain ⟨j, hj⟩ := List.mem_iff_getElem?.1 hk
        have hl := lookup_of_mem h.inv.keys hp
        exact .inr ⟨_, hmem1.2 ⟨j, p.1, p.2, hj, hl, rfl⟩, by rw [hgC hj]; exact hb, by rw [Ob.sub_may, hgC hj]; exact hm⟩
      · exact .inl (.inr ⟨p, hp, hk, hb, hm⟩)
  have hk1 : Keep (all γ N s.o) (all (gamC γ L) N1 o1) w w := Keep.less hM1
  have ho1 : ∀ k u, RV γ s.o (all γ N s.o) w (.own k) u → RV (gamC γ L) o1 (all (gamC γ L) N1 o1) w (fwO L k) u := by
    intro k u hu
    unfold fwO
    split
    · rename_i i hi
      have hi' := idxI_get hi
      simp only [RV] at hu ⊢
      obtain ⟨ob, l, hl, hs, rfl⟩ := hu
      exact ⟨_, l, hlk1 hi' hl, by rw [Ob.sub_sl]; exact hs, by rw [hgC hi']⟩
    · simp only [RV]
  have he1 : ∀ k i off u, RV γ s.o (all γ N s.o) w (.elt k i off) u → RV (gamC γ L) o1 (all (gamC γ L) N1 o1) w (eltO (fwO L k) i off) u := by
    intro k i off u hu
    unfold fwO
    split
    · rename_i i' hi
      have hi' := idxI_get hi
      simp only [eltO, RV] at hu ⊢
      obtain ⟨b, g, n, es, hb, hl, rfl⟩ := hu
      exact ⟨b, g, n, _, by rw [hgC hi']; exact hb, hlk1 hi' hl, rfl⟩
    · simp only [eltO, RV]
  have hr1 : ∀ k off u, RV γ s.o (all γ N s.o) w (.ref k off) u → RV (gamC γ L) o1 (all (gamC γ L) N1 o1) w (fwR L k off) u := by
    intro k off u hu
    unfold fwR
    split
    · rename_i i hi
      have hi' := idxI_get hi
      simp only [RV] at hu ⊢
      rw [hgC hi']
      exact hu
    · simp only [RV]
  have hv1 : RVL (gamC γ L) o1 (all (gamC γ L) N1 o1) w (subL (fwO L) (fwR L) as) vs := RVL.sub (fun x u => Rd.keep hk1 x u) ho1 hr1 he1 _ _ hv
  have hinv1 : Inv (gamC γ L) N1 o1 w := by
    refine ⟨hnd1, ?_, ?_, ?_, ?_⟩
    · intro p hp q hq b hpb hqb
      obtain ⟨i, k, ob, h1, h2, rfl⟩ := hmem1.1 hp
      obtain ⟨i', k', ob', h1', h2', rfl⟩ := hmem1.1 hq
      rw [hgC h1] at hpb
      rw [hgC h1'] at hqb
      have := h.inv.apart _ (lookup_mem h2) _ (lookup_mem h2') b hpb hqb
      simp only at this
      subst this
      rw [nodup_get hL h1 h1']
    · intro p hp b hpb i hn
      obtain ⟨j, k, ob, h1, h2, rfl⟩ := hmem1.1 hp
      rw [hgC h1] at hpb
      rcases hn with hn | ⟨q, hq, hqL, hqb, _⟩
      · exact h.inv.sep _ (lookup_mem h2) b hpb i hn
      · have := h.inv.apart q hq _ (lookup_mem h2) b hqb hpb
        exact hqL (this ▸ List.mem_of_getElem? h1)
    · rintro b i (hn | ⟨q, hq, _, hqb, _⟩)
      · exact h.inv.old b i hn
      · exact own_lt h.inv hq hqb
    · intro p hp
      obtain ⟨j, k, ob, h1, h2, rfl⟩ := hmem1.1 hp
      exact RO.ren hk1 k (0, j) ob (hgC h1) (fun _ _ => rfl) ho1 hr1 he1 (h.inv.obs _ (lookup_mem h2))
  refine Calls.mono ((hT _ _ _ _ hG).2 (gamC γ L) N1 w vs (fun p hp => by
    obtain ⟨j, k, ob, _, _, rfl⟩ := hmem1.1 hp
    rfl) hinv1 hv1 fun g cs hg => RdC.keep hk1 _ _ _ (h.glob g cs hg)) ?_
  rintro e w' ⟨γ2, us, hinv2, hus, rfl, hchg, hfr2, hpin2⟩
  -- the caller's side again
  generalize hdd : dst.getD 0 = d
  let K := keysN o2
  let γ' := gamB γ γ2 L K d
  let o3 := backO L K d o2
  let o' := mergeO L o3 (shO s.o L d) (shR s.o L d) d s.o ++ newO L o3
  have hlen3 : (o3.map (·.1)).Nodup := backO_nodup hL hinv2.keys
  have hmem' : ∀ {p : Id × Ob}, p ∈ o' → (∃ q ∈ o2, bkId L K d q.1 = some p.1 ∧ p.2 = q.2.sub (bkO L K d) (bkR L K d)) ∨ (p.1 ∉ L ∧ newId d p.1 = false ∧ ∃ q ∈ s.o, q.1 = p.1 ∧ p.2 = q.2.sub (shO s.o L d) (shR s.o L d)) := by
    intro p hp
    rcases List.mem_append.1 hp with hp | hp
    · rcases mem_mergeO.1 hp with ⟨h1, h2, _⟩ | h1
      · exact .inl (mem_backO.1 (lookup_mem h2))
      · exact .inr h1
    · exact .inl (mem_backO.1 (mem_newO.1 hp).1)
  have hback : ∀ {q : Id × Ob} {j : Id}, q ∈ o2 → bkId L K d q.1 = some j → (j, q.2.sub (bkO L K d) (bkR L K d)) ∈ o' := by
    intro q j hq hj
    have h3 : (j, q.2.sub (bkO L K d) (bkR L K d)) ∈ o3 := mem_backO.2 ⟨q, hq, hj, rfl⟩
    by_cases hjL : j ∈ L
    · refine List.mem_append_left _ (mem_mergeO.2 (.inl ⟨hjL, lookup_of_mem hlen3 h3, ?_⟩))
      obtain ⟨ob, hob⟩ := hin j hjL
      exact ⟨_, lookup_mem hob, rfl⟩
    · exact List.mem_append_right _ (mem_newO.2 ⟨h3, hjL⟩)
  have hrest : ∀ {q : Id × Ob}, q ∈ s.o → q.1 ∉ L → newId d q.1 = false → (q.1, q.2.sub (shO s.o L d) (shR s.o L d)) ∈ o' := fun {q} hq h1 h2 => List.mem_append_left _ (mem_mergeO.2 (.inr ⟨h1, h2, q, hq, rfl, rfl⟩))
  have hnew : ∀ {k j : Id}, bkId L K d k = some j → j ∉ L → newId d j = true := by
    intro k j hj hjL
    unfold bkId at hj
    split at hj
    · exact absurd (List.mem_of_getElem? hj) hjL
    · split at hj
      · cases hj
        exact base_new _ _ _
      · cases hj
  have hnd' : (o'.map (·.1)).Nodup := by
    rw [List.map_append, List.nodup_append]
    refine ⟨mergeO_nodup h.inv.keys, newO_nodup hlen3, fun y hy x hx e => ?_⟩
    subst e
    obtain ⟨p, hp, e0⟩ := List.mem_map.1 hx
    obtain ⟨q, hq, e⟩ := List.mem_map.1 hy
    rw [← e0] at e
    obtain ⟨h1, h2⟩ := mem_newO.1 hp
    obtain ⟨r, _, hr, _⟩ := mem_backO.1 h1
    rcases mem_mergeO.1 hq with ⟨h3, _⟩ | ⟨_, h3, _⟩
    · exact h2 (e ▸ h3)
    · rw [e, hnew hr h2] at h3
      cases h3
  have hg2 : ∀ {k j : Id}, bkId L K d k = some j → γ' j = γ2 k := fun hj => gamB_bk hL hj
  have hg3 : ∀ {k : Id}, k ∉ L → newId d k = false → γ' k = γ k := fun h1 h2 => gamB_rest h1 h2
  have hown1 : ∀ b i, own (gamC γ L) o1 b i → own γ s.o b i := by
    rintro b i ⟨p, hp, hb, hm⟩
    obtain ⟨j, k, ob, h1, h2, rfl⟩ := hmem1.1 hp
    rw [hgC h1] at hb hm
    rw [Ob.sub_may] at hm
    exact ⟨_, lookup_mem h2, hb, hm⟩
  have hown' : ∀ b i, own γ' o' b i → own γ2 o2 b i ∨ ∃ p ∈ s.o, p.1 ∉ L ∧ (γ p.1).b = some b ∧ p.2.may (γ p.1) i := by
    rintro b i ⟨p, hp, hb, hm⟩
    rcases hmem' hp with ⟨q, hq, hj, e⟩ | ⟨h1, h2, q, hq, e, e2⟩
    · rw [hg2 hj] at hb hm
      rw [e, Ob.sub_may] at hm
      exact .inl ⟨q, hq, hb, hm⟩
    · rw [hg3 h1 h2, ← e] at hb hm
      rw [e2, Ob.sub_may] at hm
      exact .inr ⟨q, hq, by rw [e]; exact h1, hb, hm⟩
  have hM' : ∀ b i, all γ' N o' b i → all γ2 N1 o2 b i := by
    rintro b i (hm | hm)
    · exact .inl (.inl hm)
    · rcases hown' b i hm with hm | hm
      · exact .inr hm
      · exact .inl (.inr hm)
  have hk2 : Keep (all γ2 N1 o2) (all γ' N o') w' w' := Keep.less hM'
  have hbo : ∀ k u, RV γ2 o2 (all γ2 N1 o2) w' (.own k) u → RV γ' o' (all γ' N o') w' (bkO L K d k) u := by
    intro k u hu
    unfold bkO
    split
    · rename_i j hj
      simp only [RV] at hu ⊢
      obtain ⟨ob, l, hl, hs, rfl⟩ := hu
      exact ⟨_, l, lookup_of_mem hnd' (hback (lookup_mem hl) hj), by rw [Ob.sub_sl]; exact hs, by rw [hg2 hj]⟩
    · simp only [RV]
  have hbe : ∀ k i off u, RV γ2 o2 (all γ2 N1 o2) w' (.elt k i off) u → RV γ' o' (all γ' N o') w' (eltO (bkO L K d k) i off) u := by
    intro k i off u hu
    unfold bkO
    split
    · rename_i j hj
      simp only [eltO, RV] at hu ⊢
      obtain ⟨b, g, n, es, hb, hl, rfl⟩ := hu
      exact ⟨b, g, n, _, by rw [hg2 hj]; exact hb, lookup_of_mem hnd' (hback (lookup_mem hl) hj), rfl⟩
    · simp only [eltO, RV]
  have hbr : ∀ k off u, RV γ2 o2 (all γ2 N1 o2) w' (.ref k off) u → RV γ' o' (all γ' N o') w' (bkR L K d k off) u := by
    intro k off u hu
    unfold bkR
    split
    · rename_i j hj
      simp only [RV] at hu ⊢
      rw [hg2 hj]
      exact hu
    · simp only [RV]
  have hpin : ∀ k ob, k ∈ L → lookup k s.o = some ob → ob.kd ≠ 0 → (γ' k).b = (γ k).b ∧ ∃ ob', lookup k o' = some ob' ∧ ob'.kd = ob.kd := by
    intro k ob hk hl hkd
    obtain ⟨i, hi⟩ := List.mem_iff_getElem?.1 hk
    obtain ⟨h1, ob', h2, h3⟩ := hpin2 (0, i) _ (hlk1 hi hl) (by rw [Ob.sub_kd]; exact hkd)
    rw [Ob.sub_kd] at h3
    have hj : bkId L K d (0, i) = some k := by
      unfold bkId
      simp only [if_true]
      exact hi
    rw [hgC hi] at h1
    exact ⟨by rw [hg2 hj]; exact h1, _, lookup_of_mem hnd' (hback (lookup_mem h2) hj), by rw [Ob.sub_kd]; exact h3⟩
  have hso : (∀ x u, Rd (all γ N s.o) w x u → Rd (all γ' N o') w' x u) → ∀ k u, RV γ s.o (all γ N s.o) w (.own k) u → RV γ' o' (all γ' N o') w' (shO s.o L d k) u := by
    intro hdd k u hu
    simp only [RV] at hu
    obtain ⟨ob, l, hl, hs, rfl⟩ := hu
    unfold shO
    split
    · rename_i hc
      rw [hl]
      cases ob with
      | box cs => simp [Ob.sl] at hs
      | arr g n es => simp only [RV]
      | tok n xs =>
        simp only [Ob.sl, Option.some.injEq] at hs
        subst hs
        simp only [RV]
        exact hdd _ _ (tok_rd h.inv hl)
      | map es =>
        simp only [Ob.sl, Option.some.injEq] at hs
        subst hs
        simp only
        split
        · rename_i hcL
          obtain ⟨h1, ob', h2, h3⟩ := hpin k _ (by simpa using hcL) hl (by simp [Ob.kd])
          obtain ⟨es', rfl⟩ := kd_map h3
          simp only [RV]
          exact ⟨_, .m, h2, rfl, by simp only [slVal, h1]⟩
        · simp only [RV]
    · rename_i hc
      simp only [Bool.or_eq_true, List.contains_eq_mem, decide_eq_true_eq, not_or, Bool.not_eq_true] at hc
      simp only [RV]
      exact ⟨_, l, lookup_of_mem hnd' (hrest (lookup_mem hl) hc.1 hc.2), by rw [Ob.sub_sl]; exact hs, by rw [hg3 hc.1 hc.2]⟩
  have hse : ∀ k i off u, RV γ s.o (all γ N s.o) w (.elt k i off) u → RV γ' o' (all γ' N o') w' (eltO (shO s.o L d k) i off) u := by
    intro k i off u hu
    simp only [RV] at hu
    obtain ⟨b, g, n, es, hb, hl, rfl⟩ := hu
    unfold shO
    split
    · rw [hl]
      simp only [eltO, RV]
    · rename_i hc
      simp only [Bool.or_eq_true, List.contains_eq_mem, decide_eq_true_eq, not_or, Bool.not_eq_true] at hc
      simp only [eltO, RV]
      exact ⟨b, g, n, _, by rw [hg3 hc.1 hc.2]; exact hb, lookup_of_mem hnd' (hrest (lookup_mem hl) hc.1 hc.2), rfl⟩
  have hsr : ∀ k off u, RV γ s.o (all γ N s.o) w (.ref k off) u → RV γ' o' (all γ' N o') w' (shR s.o L d k off) u := by
    intro k off u hu
    simp only [RV] at hu
    unfold shR
    split
    · rename_i hc
      split
      · rename_i cs hl
        simp only [RV]
        rw [(hpin k _ (by simpa using hc) hl (by simp [Ob.kd])).1]
        exact hu
      · simp only [RV]
    · rename_i hc
      split
      · simp only [RV]
      · rename_i hc2
        simp only [RV]
        rw [hg3 (by simpa using hc) (by simpa using hc2)]
        exact hu
  have hblk : ∀ q ∈ s.o, q.1 ∉ L → ∀ b, (γ q.1).b = some b → w'.heap[b]? = w.heap[b]? := by
    intro q hq hqL b hb
    refine hchg.block b (own_lt h.inv hq hb) ?_
    rintro i ⟨p, hp, hpb, _⟩
    obtain ⟨j, k, ob, h1, h2, rfl⟩ := hmem1.1 hp
    rw [hgC h1] at hpb
    have := h.inv.apart q hq _ (lookup_mem h2) b hb hpb
    exact hqL (this ▸ List.mem_of_getElem? h1)
  have hcore := h.core (γ' := γ') (w' := w') (o' := o') (fo := shO s.o L d) (fr := shR s.o L d) hchg hown1 (fun b i hb hm => by
      rcases hown' b i hm with hm | ⟨p, hp, _, h2, h3⟩
      · rcases hfr2 b i hm with hm | hm
        · exact hown1 b i hm
        · omega
      · exact ⟨p, hp, h2, h3⟩) hso (fun _ => hsr) (fun _ => hse) (fun k ob hk0 hkd hl => by
      by_cases hkL : k ∈ L
      · exact hpin k ob hkL hl hkd
      · have hn : newId d k = false := by simp [newId, hk0, Nat.ble_eq]
        exact ⟨by rw [hg3 hkL hn], _, lookup_of_mem hnd' (hrest (lookup_mem hl) hkL hn), Ob.sub_kd ..⟩) fun hk => by
      refine ⟨hnd', ?_, ?_, fun b i hb => Nat.lt_of_lt_of_le (h.inv.old b i hb) hchg.size, ?_⟩
      · have side : ∀ p ∈ o', ∀ b, (γ' p.1).b = some b → (∃ q ∈ o2, bkId L K d q.1 = some p.1 ∧ (γ2 q.1).b = some b) ∨ (∃ q ∈ s.o, q.1 = p.1 ∧ q.1 ∉ L ∧ (γ q.1).b = some b) := by
          intro p hp b hb
          rcases hmem' hp with ⟨q, hq, hj, e⟩ | ⟨h1, h2, q, hq, e, e2⟩
          · exact .inl ⟨q, hq, hj, by rw [← hg2 hj]; exact hb⟩
          · rw [hg3 h1 h2, ← e] at hb
            exact .inr ⟨q, hq, e, by rw [e]; exact h1, hb⟩
        have cross : ∀ q ∈ o2, ∀ r ∈ s.o, r.1 ∉ L → ∀ b, (γ2 q.1).b = some b → (γ r.1).b = some b → False := by
          intro q hq r hr hrL b h1 h2
          obtain ⟨i, hi⟩ := r.2.may_some (γ r.1)
          exact hinv2.sep q hq b h1 i (.inr ⟨r, hr, hrL, h2, hi⟩)
        intro p hp q hq b hpb hqb
        rcases side p hp b hpb with ⟨p', hp', e1, e2⟩ | ⟨p', hp', e1, e2, e3⟩ <;> rcases side q hq b hqb with ⟨q', hq', e1', e2'⟩ | ⟨q', hq', e1', e2', e3'⟩
        · have := hinv2.apart p' hp' q' hq' b e2 e2'
          rw [this, e1'] at e1
          injection e1 with e1
          exact e1.symm
        · exact (cross p' hp' q' hq' e2' b e2 e3').elim
        · exact (cross q' hq' p' hp' e2 b e2' e3).elim
        · rw [← e1, ← e1']
          exact h.inv.apart p' hp' q' hq' b e3 e3'
      · intro p hp b hpb i hn
        rcases hmem' hp with ⟨q, hq, hj, e⟩ | ⟨h1, h2, q, hq, e, e2⟩
        · rw [hg2 hj] at hpb
          exact hinv2.sep q hq b hpb i (.inl hn)
        · rw [hg3 h1 h2, ← e] at hpb
          exact h.inv.sep q hq b hpb i hn
      · intro p hp
        rcases hmem' hp with ⟨q, hq, hj, e⟩ | ⟨h1, h2, q, hq, e, e2⟩
        · rw [e]
          exact RO.ren hk2 q.1 p.1 q.2 (hg2 hj) (fun _ _ => rfl) hbo hbr hbe (hinv2.obs q hq)
        · rw [e2]
          exact RO.ren hk q.1 p.1 q.2 (by rw [hg3 h1 h2, e]) (hblk q hq (by rw [e]; exact h1)) (hso fun x u => Rd.keep hk x u) hsr hse (h.inv.obs q hq)
  refine ⟨γ', pack us, ?_, rfl⟩
  have hrs : RVL γ' o' (all γ' N o') w' (subL (bkO L K d) (bkR L K d) rs) us := RVL.sub (fun x u => Rd.keep hk2 x u) hbo hbr hbe _ _ hus
  have hput := SR.put (s := ⟨subL (shO s.o L d) (shR s.o L d) s.t, o'⟩) hcore dst (packA_ok hrs)
  unfold gAfter
  rw [hdd]
  exact hput
end Go.Ab
