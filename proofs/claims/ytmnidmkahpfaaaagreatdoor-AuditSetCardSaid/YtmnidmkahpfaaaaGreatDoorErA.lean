/- One text of a proof that a law of this seat says true for every input: errors and what they wrap. It holds of the given program under the conditions that the row prints. -/
import Derived.Test.YtmnidmkahpfaaaaGreatDoorAbSimp
set_option linter.unusedSimpArgs false
set_option linter.unusedVariables false
set_option linter.unusedSectionVars false
set_option maxRecDepth 100000
namespace Go.Ab
open Go.Proofs
variable {glob : Nat → Option (List D)}

/-- An error: none, one of the document's, or a fault at a line that wraps one. -/
inductive Er where
  | none
  | sent (g : Nat)
  | fault (n : Int) (e : Er)
  /-- a mkfile's fault -/
  | ld (f : List UInt8) (n : Int) (e : Er)
  /-- a graph's -/
  | gr (l : List (List UInt8)) (e : Er)
  /-- a clash -/
  | am (s : List UInt8) (i j : Int)
/-- The variables of the document's errors, by their numbers. -/
def gE : Nat → Nat
  | 1 => 1
  | 2 => 9002
  | 3 => 5
  | 4 => 9004
  | 5 => 9005
  | 6 => 9006
  | 7 => 9007
  | 8 => 6
  | 9 => 3
  | 10 => 4
  | 11 => 9011
  | 12 => 8
  | 13 => 9013
  | 14 => 2
  | 15 => 7
  | 16 => 9016
  | 17 => 0
  | 18 => 9018
  | _ => 1000
/-- The errors' numbers, by their variables. -/
def dE : Nat → Nat
  | 1 => 1
  | 9002 => 2
  | 5 => 3
  | 9004 => 4
  | 9005 => 5
  | 9006 => 6
  | 9007 => 7
  | 6 => 8
  | 3 => 9
  | 4 => 10
  | 9011 => 11
  | 8 => 12
  | 9013 => 13
  | 2 => 14
  | 7 => 15
  | 9016 => 16
  | 0 => 17
  | 9018 => 18
  | _ => 0
theorem dE_ok (g : Nat) (h : dE g ≠ 0) : 1 ≤ dE g ∧ dE g ≤ 18 ∧ gE (dE g) = g := by
  unfold dE at h ⊢
  split at h <;> first | exact ⟨by decide, by decide, rfl⟩ | exact absurd rfl h
/-- Where the document's errors lie. -/
structure Sents (glob : Nat → Option (List D)) (p : Nat → Addr) (o : Nat → Obj) : Prop where
  glob : ∀ g, 1 ≤ g → g ≤ 18 → gE g < 9000 → glob (gE g) = some [.ifc 180 (.at (p g) (o g))]
  plain : ∀ g, 1 ≤ g → g ≤ 18 → plainB (o g) = true
  inj : ∀ g g', 1 ≤ g → g ≤ 18 → 1 ≤ g' → g' ≤ 18 → p g = p g' → g = g'
def encE (p : Nat → Addr) (o : Nat → Obj) : Er → D
  | .none => .v .nilIface
  | .sent g => .ifc 180 (.at (p g) (o g))
  | .fault n e => .ifc 90001 (.ptr [.v (.int .i64 n), encE p o e])
  | .ld f n e => .ifc 90002 (.ptr [.s f, .v (.int .i64 n), encE p o e])
  | .gr l e => .ifc 90003 (.ptr [.sl 1 (l.map .s), encE p o e])
  | .am s i j => .ifc 90004 (.ptr [.s s, .v (.int .i64 i), .v (.int .i64 j)])
def Er.good : Er → Bool
  | .none => true
  | .sent g => decide (1 ≤ g ∧ g ≤ 18)
  | .fault _ e => decide (90001 < 90000) && e.good
  | .ld _ _ e => decide (90002 < 90000) && e.good
  | .gr _ e => decide (90003 < 90000) && e.good
  | .am _ _ _ => decide (90004 < 90000)
def Er.deep : Er → Nat
  | .fault _ e => e.deep + 1
  | .ld _ _ e => e.deep + 1
  | .gr _ e => e.deep + 1
  | .am _ _ _ => 1
  | _ => 0
/-- errors.Is -/
def isE (g : Nat) : Er → Bool
  | .none => false
  | .sent g' => decide (g' = g)
  | .fault _ e => isE g e
  | .ld _ _ e => isE g e
  | .gr _ e => isE g e
  | .am _ _ _ => decide (13 = g)
theorem encE_cell (p : Nat → Addr) (o : Nat → Obj) (e : Er) : (encE p o e).cell = true := by
  cases e <;> rfl
theorem encE_ifc (p : Nat → Addr) (o : Nat → Obj) {e : Er} (h : e ≠ .none) : ∃ t x, encE p o e = .ifc t x := by
  cases e with
  | none => exact absurd rfl h
  | _ => exact ⟨_, _, rfl⟩
theorem texts_inj : ∀ l l' : List (List UInt8), l.map D.s = l'.map D.s → l = l'
  | [], [], _ => rfl
  | [], _ :: _, h => by simp at h
  | _ :: _, [], h => by simp at h
  | a :: l, b :: l', h => by
    simp only [List.map_cons, List.cons.injEq, D.s.injEq] at h
    rw [h.1, texts_inj l l' h.2]
theorem encE_inj {p : Nat → Addr} {o : Nat → Obj} (hp : ∀ g g', 1 ≤ g → g ≤ 18 → 1 ≤ g' → g' ≤ 18 → p g = p g' → g = g') : ∀ a b : Er, a.good = true → b.good = true → encE p o a = encE p o b → a = b
  | .none, b, _, _, h => by cases b <;> first | rfl | simp [encE] at h
  | .sent g, b, ha, hb, h => by
    cases b with
    | sent g' =>
      simp [Er.good] at ha hb
      simp [encE] at h
      rw [hp g g' ha.1 ha.2 hb.1 hb.2 h.1]
    | _ => simp [encE] at h
  | .fault n e, b, ha, hb, h => by
    cases b with
    | fault n' e' =>
      simp [encE] at h
      simp only [Er.good, Bool.and_eq_true] at ha hb
      rw [h.1, encE_inj hp e e' ha.2 hb.2 h.2]
    | _ => simp [encE] at h
  | .ld f n e, b, ha, hb, h => by
    cases b with
    | ld f' n' e' =>
      simp [encE] at h
      simp only [Er.good, Bool.and_eq_true] at ha hb
      rw [h.1, h.2.1, encE_inj hp e e' ha.2 hb.2 h.2.2]
    | _ => simp [encE] at h
  | .gr l e, b, ha, hb, h => by
    cases b with
    | gr l' e' =>
      simp only [encE, D.ifc.injEq, D.ptr.injEq, List.cons.injEq, D.sl.injEq, true_and, and_true] at h
      simp only [Er.good, Bool.and_eq_true] at ha hb
      rw [texts_inj _ _ h.1, encE_inj hp e e' ha.2 hb.2 h.2]
    | _ => simp [encE] at h
  | .am s i j, b, ha, hb, h => by
    cases b with
    | am s' i' j' =>
      simp [encE] at h
      rw [h.1, h.2.1, h.2.2]
    | _ => simp [encE] at h
/-- A function of data out of a typed one, where it is asked for good ones alone. -/
noncomputable def liftG {α : Type} (good : α → Prop) (enc : α → List D) (f : α → Option (List D)) : List D → Option (List D) := fun ds => open Classical in if h : ∃ a, good a ∧ enc a = ds then f h.choose else none
theorem liftG_enc {α : Type} {good : α → Prop} {enc : α → List D} {f : α → Option (List D)} (hi : ∀ a b, good a → good b → enc a = enc b → f a = f b) (a : α) (ha : good a) : liftG good enc f (enc a) = f a := by
  unfold liftG
  have hex : ∃ b, good b ∧ enc b = enc a := ⟨a, ha, rfl⟩
  rw [dif_pos hex]
  exact hi _ _ hex.choose_spec.1 ha hex.choose_spec.2
theorem liftG_some {α : Type} {good : α → Prop} {enc : α → List D} {f : α → Option (List D)} {ds rs : List D} (h : liftG good enc f ds = some rs) : ∃ a, good a ∧ enc a = ds ∧ f a = some rs := by
  unfold liftG at h
  split at h
  · rename_i hx
    exact ⟨_, hx.choose_spec.1, hx.choose_spec.2, h⟩
  · simp at h

noncomputable def F48 (p : Nat → Addr) (o : Nat → Obj) : List D → Option (List D) := liftG (fun a : Int × Er => a.2.good = true) (fun a => [.ptr [.v (.int .i64 a.1), encE p o a.2]]) fun a => some [encE p o a.2]
theorem F48_eq {p : Nat → Addr} {o : Nat → Obj} (n : Int) (e : Er) (he : e.good = true) : F48 p o [.ptr [.v (.int .i64 n), encE p o e]] = some [encE p o e] :=
  liftG_enc (good := fun a : Int × Er => a.2.good = true) (enc := fun a => [.ptr [.v (.int .i64 a.1), encE p o a.2]]) (f := fun a => some [encE p o a.2]) (fun a b _ _ h => by
    simp at h
    rw [h.2]) (n, e) he
noncomputable def FUld (p : Nat → Addr) (o : Nat → Obj) : List D → Option (List D) := liftG (fun a : List UInt8 × Int × Er => a.2.2.good = true) (fun a => [.ptr [.s a.1, .v (.int .i64 a.2.1), encE p o a.2.2]]) fun a => some [encE p o a.2.2]
theorem FUld_eq {p : Nat → Addr} {o : Nat → Obj} (f : List UInt8) (n : Int) (e : Er) (he : e.good = true) : FUld p o [.ptr [.s f, .v (.int .i64 n), encE p o e]] = some [encE p o e] :=
  liftG_enc (good := fun a : List UInt8 × Int × Er => a.2.2.good = true) (enc := fun a => [.ptr [.s a.1, .v (.int .i64 a.2.1), encE p o a.2.2]]) (f := fun a => some [encE p o a.2.2]) (fun a b _ _ h => by
    simp at h
    rw [h.2.2]) (f, n, e) he
noncomputable def FUgr (p : Nat → Addr) (o : Nat → Obj) : List D → Option (List D) := liftG (fun a : List (List UInt8) × Er => a.2.good = true) (fun a => [.ptr [.sl 1 (a.1.map .s), encE p o a.2]]) fun a => some [encE p o a.2]
theorem FUgr_eq {p : Nat → Addr} {o : Nat → Obj} (l : List (List UInt8)) (e : Er) (he : e.good = true) : FUgr p o [.ptr [.sl 1 (l.map .s), encE p o e]] = some [encE p o e] :=
  liftG_enc (good := fun a : List (List UInt8) × Er => a.2.good = true) (enc := fun a => [.ptr [.sl 1 (a.1.map .s), encE p o a.2]]) (f := fun a => some [encE p o a.2]) (fun a b _ _ h => by
    simp at h
    rw [h.2]) (l, e) he
/-- (*ambig.Clash).Unwrap -/
def FUam (p : Nat → Addr) (o : Nat → Obj) : List D → Option (List D)
  | [.ptr [.s _, .v (.int .i64 _), .v (.int .i64 _)]] => some [.ifc 180 (.at (p 13) (o 13))]
  | _ => none
noncomputable def U48 (p : Nat → Addr) (o : Nat → Obj) : Abs := fun _ _ => Option.none
theorem U48_ok {p : Nat → Addr} {o : Nat → Obj} (hs : Sents glob p o) : ∀ f, Pure Tryz.prog (mkCtx tab glob) f (U48 p o f) := by
  have _ := hs
  unfold U48
  exact none_ok

end Go.Ab
