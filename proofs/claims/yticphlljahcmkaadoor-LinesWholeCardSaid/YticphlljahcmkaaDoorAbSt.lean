/- One text of a proof that a law of this seat says true for every input: an evaluator of code over data, and that it tells the truth. It holds of the given program under the conditions that the row prints. -/
import Derived.Test.YticphlljahcmkaaDoorAbDom
set_option linter.unusedVariables false
namespace Go.Ab

/-- A name of an object that a call's own frame may change. -/
abbrev Id := Nat × Nat

/-- A value as a frame holds it: a datum, a slice of its own, a pointer to a box of its own. -/
inductive AV where
  | d (x : D)
  | own (k : Id)
  | tight (n : Nat) (xs : List D)
  | ref (id : Id) (off : Nat)
  | agg (cs : List AV)
  | tup (xs : List AV)
  | clo (f : Fn) (first cap : List AV)
  | undef

/-- An object of the frame's own: a variable in memory; a slice with the room behind it. -/
inductive Ob where
  | box (cs : List AV)
  | tok (n : Nat) (xs : List D)

abbrev Obs := List (Id × Ob)

def lookup (id : Id) : Obs → Option Ob
  | [] => none
  | (k, x) :: r => if k = id then some x else lookup id r
def update (id : Id) (x : Ob) : Obs → Obs
  | [] => []
  | (k, y) :: r => if k = id then (k, x) :: update id x r else (k, y) :: update id x r
def erase (id : Id) : Obs → Obs
  | [] => []
  | (k, y) :: r => if k = id then erase id r else (k, y) :: erase id r

/-- Where an object lies. -/
structure Gh where
  b : Option Nat
  cap : Nat
  val : Value := .slice none 0 0

abbrev Gam := Id → Gh

def tokVal (g : Gh) (len : Nat) : Value :=
  match g.b with
  | none => g.val
  | some b => .slice (some ⟨b, 0, none⟩) len g.cap

mutual
def RV (γ : Gam) (o : Obs) (M : Mut) (w : World) : AV → Value → Prop
  | .d x, u => Rd M w x u
  | .own k, u => ∃ n xs, lookup k o = some (.tok n xs) ∧ u = tokVal (γ k) xs.length
  | .tight n xs, u => Rd M w (.sl n xs) u ∧ ∃ a len, u = .slice a len len
  | .ref id off, u => ∃ b, (γ id).b = some b ∧ u = .pointer (some ⟨b, off, none⟩)
  | .agg cs, u => ∃ us : List Value, u = .agg us.toArray ∧ RVL γ o M w cs us
  | .tup cs, u => ∃ us : List Value, u = .tuple us.toArray ∧ RVL γ o M w cs us
  | .clo f as bs, u => ∃ xs ys : List Value, u = .func f xs.toArray ys.toArray ∧ RVL γ o M w as xs ∧ RVL γ o M w bs ys
  | .undef, _ => True
def RVL (γ : Gam) (o : Obs) (M : Mut) (w : World) : List AV → List Value → Prop
  | [], us => us = []
  | x :: xs, us => ∃ u us', us = u :: us' ∧ RV γ o M w x u ∧ RVL γ o M w xs us'
end

mutual
def AV.sub (fo : Id → AV) (fr : Id → Nat → AV) : AV → AV
  | .d x => .d x
  | .own k => fo k
  | .tight n xs => .tight n xs
  | .ref id off => fr id off
  | .agg cs => .agg (subL fo fr cs)
  | .tup cs => .tup (subL fo fr cs)
  | .clo f as bs => .clo f (subL fo fr as) (subL fo fr bs)
  | .undef => .undef
def subL (fo : Id → AV) (fr : Id → Nat → AV) : List AV → List AV
  | [] => []
  | x :: xs => x.sub fo fr :: subL fo fr xs
end

mutual
theorem RV.sub {γ γ' : Gam} {o o' : Obs} {M M' : Mut} {w w' : World} {fo : Id → AV} {fr : Id → Nat → AV}
    (hd : ∀ x u, Rd M w x u → Rd M' w' x u) (ho : ∀ k u, RV γ o M w (.own k) u → RV γ' o' M' w' (fo k) u) (hr : ∀ id off u, RV γ o M w (.ref id off) u → RV γ' o' M' w' (fr id off) u) :
    ∀ (x : AV) (u : Value), RV γ o M w x u → RV γ' o' M' w' (x.sub fo fr) u
  | .d x, u, h => by
    simp only [AV.sub, RV] at h ⊢
    exact hd x u h
  | .own k, u, h => by
    simp only [AV.sub]
    exact ho k u h
  | .tight n xs, u, h => by
    simp only [AV.sub, RV] at h ⊢
    exact ⟨hd _ u h.1, h.2⟩
  | .ref id off, u, h => by
    simp only [AV.sub]
    exact hr id off u h
  | .agg cs, u, h => by
    simp only [AV.sub, RV] at h ⊢
    obtain ⟨us, e, h⟩ := h
    exact ⟨us, e, RVL.sub hd ho hr cs us h⟩
  | .tup cs, u, h => by
    simp only [AV.sub, RV] at h ⊢
    obtain ⟨us, e, h⟩ := h
    exact ⟨us, e, RVL.sub hd ho hr cs us h⟩
  | .clo f as bs, u, h => by
    simp only [AV.sub, RV] at h ⊢
    obtain ⟨xs, ys, e, h1, h2⟩ := h
    exact ⟨xs, ys, e, RVL.sub hd ho hr as xs h1, RVL.sub hd ho hr bs ys h2⟩
  | .undef, u, h => by simp only [AV.sub, RV]
theorem RVL.sub {γ γ' : Gam} {o o' : Obs} {M M' : Mut} {w w' : World} {fo : Id → AV} {fr : Id → Nat → AV}
    (hd : ∀ x u, Rd M w x u → Rd M' w' x u) (ho : ∀ k u, RV γ o M w (.own k) u → RV γ' o' M' w' (fo k) u) (hr : ∀ id off u, RV γ o M w (.ref id off) u → RV γ' o' M' w' (fr id off) u) :
    ∀ (xs : List AV) (us : List Value), RVL γ o M w xs us → RVL γ' o' M' w' (subL fo fr xs) us
  | [], us, h => by simpa only [subL, RVL] using h
  | x :: xs, us, h => by
    simp only [subL, RVL] at h ⊢
    obtain ⟨u, us', e, h1, h2⟩ := h
    exact ⟨u, us', e, RV.sub hd ho hr x u h1, RVL.sub hd ho hr xs us' h2⟩
end

mutual
theorem AV.sub_id : ∀ x : AV, x.sub .own .ref = x
  | .d x => rfl
  | .own k => rfl
  | .tight n xs => rfl
  | .ref id off => rfl
  | .agg cs => by simp only [AV.sub, subL_id cs]
  | .tup cs => by simp only [AV.sub, subL_id cs]
  | .clo f as bs => by simp only [AV.sub, subL_id as, subL_id bs]
  | .undef => rfl
theorem subL_id : ∀ xs : List AV, subL .own .ref xs = xs
  | [] => rfl
  | x :: xs => by simp only [subL, AV.sub_id x, subL_id xs]
end

theorem RV.same {γ γ' : Gam} {o o' : Obs} {M M' : Mut} {w w' : World}
    (hd : ∀ x u, Rd M w x u → Rd M' w' x u) (ho : ∀ k u, RV γ o M w (.own k) u → RV γ' o' M' w' (.own k) u) (hr : ∀ id off u, RV γ o M w (.ref id off) u → RV γ' o' M' w' (.ref id off) u)
    (x : AV) (u : Value) (h : RV γ o M w x u) : RV γ' o' M' w' x u := by
  have := RV.sub hd ho hr x u h
  rwa [AV.sub_id] at this
theorem RVL.same {γ γ' : Gam} {o o' : Obs} {M M' : Mut} {w w' : World}
    (hd : ∀ x u, Rd M w x u → Rd M' w' x u) (ho : ∀ k u, RV γ o M w (.own k) u → RV γ' o' M' w' (.own k) u) (hr : ∀ id off u, RV γ o M w (.ref id off) u → RV γ' o' M' w' (.ref id off) u)
    (xs : List AV) (us : List Value) (h : RVL γ o M w xs us) : RVL γ' o' M' w' xs us := by
  have := RVL.sub hd ho hr xs us h
  rwa [subL_id] at this

theorem RVL_length {γ : Gam} {o : Obs} {M : Mut} {w : World} : ∀ {xs : List AV} {us : List Value}, RVL γ o M w xs us → us.length = xs.length
  | [], us, h => by simp [RVL] at h; simp [h]
  | d :: ds, us, h => by
    simp only [RVL] at h
    obtain ⟨u, us', rfl, _, h⟩ := h
    simp [RVL_length h]
theorem RVL_get {γ : Gam} {o : Obs} {M : Mut} {w : World} : ∀ {xs : List AV} {us : List Value} {i : Nat} {d : AV}, RVL γ o M w xs us → xs[i]? = some d → ∃ u, us[i]? = some u ∧ RV γ o M w d u
  | [], us, i, d, _, h => by simp at h
  | x :: ds, us, i, d, h, e => by
    simp only [RVL] at h
    obtain ⟨u, us', rfl, h1, h2⟩ := h
    cases i with
    | zero => simp at e; subst e; exact ⟨u, by simp, h1⟩
    | succ i =>
      obtain ⟨v, hv, hr⟩ := RVL_get (i := i) h2 (by simpa using e)
      exact ⟨v, by simpa using hv, hr⟩
theorem RVL_iff {γ : Gam} {o : Obs} {M : Mut} {w : World} : ∀ {ds : List AV} {us : List Value}, RVL γ o M w ds us ↔ us.length = ds.length ∧ ∀ (i : Nat) (d : AV) (u : Value), ds[i]? = some d → us[i]? = some u → RV γ o M w d u
  | [], us => by simp [RVL]
  | x :: ds, [] => by simp [RVL]
  | x :: ds, u :: us => by
    simp only [RVL, RVL_iff (ds := ds)]
    constructor
    · rintro ⟨u', us', e, h1, h2, h3⟩
      injection e with e1 e2
      subst e1 e2
      refine ⟨by simp [h2], fun i d v hd hv => ?_⟩
      cases i with
      | zero => simp at hd hv; subst hd hv; exact h1
      | succ i => exact h3 i d v (by simpa using hd) (by simpa using hv)
    · rintro ⟨h1, h2⟩
      exact ⟨u, us, rfl, h2 0 x u (by simp) (by simp), by simpa using h1, fun i d v hd hv => h2 (i + 1) d v (by simpa using hd) (by simpa using hv)⟩
theorem RVL_data {γ : Gam} {o : Obs} {M : Mut} {w : World} : ∀ {ds : List D} {us : List Value}, RVL γ o M w (ds.map .d) us ↔ RdL M w ds us
  | [], us => by simp [RVL, RdL]
  | d :: ds, us => by simp only [List.map_cons, RVL, RdL, RV, RVL_data (ds := ds)]

/-! ### objects -/
def Ob.may : Ob → Nat → Prop
  | .box _, _ => True
  | .tok n xs, i => xs.length * n ≤ i

/-- The cells that the frame may write. -/
def own (γ : Gam) (o : Obs) : Mut := fun b i => ∃ p ∈ o, (γ p.1).b = some b ∧ p.2.may i
def all (γ : Gam) (N : Mut) (o : Obs) : Mut := fun b i => N b i ∨ own γ o b i

def RO (γ : Gam) (o : Obs) (M : Mut) (w : World) (id : Id) : Ob → Prop
  | .box cs => ∃ b arr ty, (γ id).b = some b ∧ w.heap[b]? = some (.cells arr ty (0, 0)) ∧ RVL γ o M w cs arr.toList
  | .tok n xs => match (γ id).b with
    | none => Rd M w (.sl n xs) (γ id).val ∧ ∃ a len, (γ id).val = .slice a len len
    | some b => ∃ arr ty, w.heap[b]? = some (.cells arr ty (0, 0)) ∧ xs.length ≤ (γ id).cap ∧ (γ id).cap * n = arr.size ∧ RdE M w n xs ⟨b, 0, none⟩ 0

structure Inv (γ : Gam) (N : Mut) (o : Obs) (w : World) : Prop where
  keys : (o.map (·.1)).Nodup
  apart : ∀ p ∈ o, ∀ q ∈ o, ∀ b, (γ p.1).b = some b → (γ q.1).b = some b → p.1 = q.1
  sep : ∀ p ∈ o, ∀ b, (γ p.1).b = some b → ∀ i, ¬ N b i
  old : ∀ b i, N b i → b < w.heap.size
  obs : ∀ p ∈ o, RO γ o (all γ N o) w p.1 p.2

/-- What may have been written from one world to the next. -/
structure Chg (X : Mut) (w w' : World) : Prop where
  os : w'.os = w.os
  tape : w'.tape = w.tape
  output : w'.output = w.output
  size : w.heap.size ≤ w'.heap.size
  block : ∀ b, b < w.heap.size → (∀ i, ¬ X b i) → w'.heap[b]? = w.heap[b]?
  cell : ∀ b i v, w.cell? ⟨b, i, none⟩ = some v → ¬ X b i → w'.cell? ⟨b, i, none⟩ = some v

theorem Chg.refl (X : Mut) (w : World) : Chg X w w := ⟨rfl, rfl, rfl, Nat.le_refl _, fun _ _ _ => rfl, fun _ _ _ h _ => h⟩
theorem Chg.trans {X Y : Mut} {a b c : World} (h : Chg X a b) (k : Chg Y b c) (hY : ∀ n i, Y n i → X n i ∨ a.heap.size ≤ n) : Chg X a c := by
  refine ⟨k.os.trans h.os, k.tape.trans h.tape, k.output.trans h.output, Nat.le_trans h.size k.size, fun n hn hx => ?_, fun n i v hc hx => ?_⟩
  · have h1 := h.block n hn hx
    have h2 := k.block n (Nat.lt_of_lt_of_le hn h.size) fun i hi => (hY n i hi).elim (hx i) (by omega)
    exact h2.trans h1
  · have hlt : n < a.heap.size := cell_lt hc
    exact k.cell n i v (h.cell n i v hc hx) fun hi => (hY n i hi).elim hx (by omega)
theorem Chg.mono {X Y : Mut} {a b : World} (h : Chg X a b) (hXY : ∀ n i, n < a.heap.size → X n i → Y n i) : Chg Y a b :=
  ⟨h.os, h.tape, h.output, h.size, fun n hn hx => h.block n hn fun i hi => hx i (hXY n i hn hi), fun n i v hc hx => h.cell n i v hc fun hi => hx (hXY n i (cell_lt hc) hi)⟩
theorem Chg.below {w w' : World} : Chg (fun _ _ => False) w w' ↔ Go.RowKit.Below w.heap.size w w' := by
  constructor
  · exact fun h => ⟨h.os, h.tape, h.output, h.size, fun k hk => h.block k hk fun _ => id⟩
  · intro h
    refine ⟨h.os, h.tape, h.output, h.size, fun n hn _ => h.block n hn, fun n i v hc _ => ?_⟩
    rw [h.cell (p := ⟨n, i, none⟩) (cell_lt hc)]
    exact hc
theorem Chg.keep {X M M' : Mut} {w w' : World} (h : Chg X w w') (hX : ∀ b i, X b i → M b i) (hM : ∀ b i, b < w.heap.size → M' b i → M b i) : Keep M M' w w' :=
  ⟨fun b o v hc hm => h.cell b o v hc fun hx => hm (hX b o hx), fun b o hb hm hm' => hm (hM b o hb hm'), fun b hb hm => h.block b hb fun i hx => hm i (hX b i hx)⟩

theorem Chg.drew (w : World) : Chg (fun _ _ => False) w w.drew := ⟨rfl, rfl, rfl, Nat.le_refl _, fun _ _ _ => rfl, fun _ _ _ h _ => h⟩
theorem Chg.alloc (w : World) (ob : Obj) : Chg (fun _ _ => False) w (w.alloc ob) := by
  refine ⟨rfl, rfl, rfl, by simp, fun b hb _ => ?_, fun b i v hc _ => ?_⟩
  · simp only [World.alloc, Array.getElem?_push]
    rw [if_neg (by omega)]
  · rw [World.cell?_alloc_lt w ob ⟨b, i, none⟩ (cell_lt hc)]
    exact hc

theorem lookup_mem {id : Id} {ob : Ob} : ∀ {o : Obs}, lookup id o = some ob → (id, ob) ∈ o
  | [], h => by simp [lookup] at h
  | (k, x) :: r, h => by
    simp only [lookup] at h
    split at h
    · rename_i e
      subst e
      simp at h
      simp [h]
    · exact List.mem_cons_of_mem _ (lookup_mem h)
theorem lookup_of_mem {id : Id} {ob : Ob} : ∀ {o : Obs}, (o.map (·.1)).Nodup → (id, ob) ∈ o → lookup id o = some ob
  | [], _, h => by simp at h
  | (k, x) :: r, hn, h => by
    simp only [List.map_cons, List.nodup_cons] at hn
    simp only [lookup]
    rcases List.mem_cons.1 h with e | h
    · injection e with e1 e2
      subst e1 e2
      simp
    · have : k ≠ id := by
        rintro rfl
        exact hn.1 (List.mem_map.2 ⟨_, h, rfl⟩)
      rw [if_neg this]
      exact lookup_of_mem hn.2 h
end Go.Ab
