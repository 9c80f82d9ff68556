/- One text of a proof that a law of this seat says true for every input: errors and what they wrap. It holds of the given program under the conditions that the row prints. -/
import Derived.Test.YtnpbeikcgagacaaGreatDoorAbSimp
import Derived.WalkKit
import Derived.LaidEql
import Derived.Stop.Asserts
import Derived.RowKitTokens
set_option linter.unusedSimpArgs false
set_option linter.unusedVariables false
set_option linter.unusedSectionVars false
set_option maxRecDepth 100000
namespace Go.Ab
open Go.Proofs
variable {glob : Nat → Option (List D)}

/-- An error: none, one of the document's, or a fault at a line that wraps one. -/
inductive Er where
  | none
  | sent (g : Nat)
  | fault (n : Int) (e : Er)
  /-- a mkfile's fault -/
  | ld (f : List UInt8) (n : Int) (e : Er)
  /-- a graph's -/
  | gr (l : List (List UInt8)) (e : Er)
  /-- a clash -/
  | am (s : List UInt8) (i j : Int)
/-- The variables of the document's errors, by their numbers. -/
def gE : Nat → Nat
  | 1 => 3
  | 2 => 4
  | 3 => 5
  | 4 => 1
  | 5 => 6
  | 6 => 7
  | 7 => 8
  | 8 => 9
  | 9 => 10
  | 10 => 11
  | 11 => 12
  | 12 => 13
  | 13 => 0
  | 14 => 14
  | 15 => 15
  | 16 => 16
  | 17 => 17
  | 18 => 18
  | _ => 1000
/-- The errors' numbers, by their variables. -/
def dE : Nat → Nat
  | 3 => 1
  | 4 => 2
  | 5 => 3
  | 1 => 4
  | 6 => 5
  | 7 => 6
  | 8 => 7
  | 9 => 8
  | 10 => 9
  | 11 => 10
  | 12 => 11
  | 13 => 12
  | 0 => 13
  | 14 => 14
  | 15 => 15
  | 16 => 16
  | 17 => 17
  | 18 => 18
  | _ => 0
theorem dE_ok (g : Nat) (h : dE g ≠ 0) : 1 ≤ dE g ∧ dE g ≤ 18 ∧ gE (dE g) = g := by
  unfold dE at h ⊢
  split at h <;> first | exact ⟨by decide, by decide, rfl⟩ | exact absurd rfl h
/-- Where the document's errors lie. -/
structure Sents (glob : Nat → Option (List D)) (p : Nat → Addr) (o : Nat → Obj) : Prop where
  glob : ∀ g, 1 ≤ g → g ≤ 18 → gE g < 9000 → glob (gE g) = some [.ifc 273 (.at (p g) (o g))]
  plain : ∀ g, 1 ≤ g → g ≤ 18 → plainB (o g) = true
  inj : ∀ g g', 1 ≤ g → g ≤ 18 → 1 ≤ g' → g' ≤ 18 → p g = p g' → g = g'
def encE (p : Nat → Addr) (o : Nat → Obj) : Er → D
  | .none => .v .nilIface
  | .sent g => .ifc 273 (.at (p g) (o g))
  | .fault n e => .ifc 90001 (.ptr [.v (.int .i64 n), encE p o e])
  | .ld f n e => .ifc 28 (.ptr [.s f, .v (.int .i64 n), encE p o e])
  | .gr l e => .ifc 90003 (.ptr [.sl 1 (l.map .s), encE p o e])
  | .am s i j => .ifc 23 (.ptr [.s s, .v (.int .i64 i), .v (.int .i64 j)])
def Er.good : Er → Bool
  | .none => true
  | .sent g => decide (1 ≤ g ∧ g ≤ 18)
  | .fault _ e => decide (90001 < 90000) && e.good
  | .ld _ _ e => decide (28 < 90000) && e.good
  | .gr _ e => decide (90003 < 90000) && e.good
  | .am _ _ _ => decide (23 < 90000)
def Er.deep : Er → Nat
  | .fault _ e => e.deep + 1
  | .ld _ _ e => e.deep + 1
  | .gr _ e => e.deep + 1
  | .am _ _ _ => 1
  | _ => 0
/-- errors.Is -/
def isE (g : Nat) : Er → Bool
  | .none => false
  | .sent g' => decide (g' = g)
  | .fault _ e => isE g e
  | .ld _ _ e => isE g e
  | .gr _ e => isE g e
  | .am _ _ _ => decide (13 = g)
theorem encE_cell (p : Nat → Addr) (o : Nat → Obj) (e : Er) : (encE p o e).cell = true := by
  cases e <;> rfl
theorem encE_ifc (p : Nat → Addr) (o : Nat → Obj) {e : Er} (h : e ≠ .none) : ∃ t x, encE p o e = .ifc t x := by
  cases e with
  | none => exact absurd rfl h
  | _ => exact ⟨_, _, rfl⟩
theorem texts_inj : ∀ l l' : List (List UInt8), l.map D.s = l'.map D.s → l = l'
  | [], [], _ => rfl
  | [], _ :: _, h => by simp at h
  | _ :: _, [], h => by simp at h
  | a :: l, b :: l', h => by
    simp only [List.map_cons, List.cons.injEq, D.s.injEq] at h
    rw [h.1, texts_inj l l' h.2]
theorem encE_inj {p : Nat → Addr} {o : Nat → Obj} (hp : ∀ g g', 1 ≤ g → g ≤ 18 → 1 ≤ g' → g' ≤ 18 → p g = p g' → g = g') : ∀ a b : Er, a.good = true → b.good = true → encE p o a = encE p o b → a = b
  | .none, b, _, _, h => by cases b <;> first | rfl | simp [encE] at h
  | .sent g, b, ha, hb, h => by
    cases b with
    | sent g' =>
      simp [Er.good] at ha hb
      simp [encE] at h
      rw [hp g g' ha.1 ha.2 hb.1 hb.2 h.1]
    | _ => simp [encE] at h
  | .fault n e, b, ha, hb, h => by
    cases b with
    | fault n' e' =>
      simp [encE] at h
      simp only [Er.good, Bool.and_eq_true] at ha hb
      rw [h.1, encE_inj hp e e' ha.2 hb.2 h.2]
    | _ => simp [encE] at h
  | .ld f n e, b, ha, hb, h => by
    cases b with
    | ld f' n' e' =>
      simp [encE] at h
      simp only [Er.good, Bool.and_eq_true] at ha hb
      rw [h.1, h.2.1, encE_inj hp e e' ha.2 hb.2 h.2.2]
    | _ => simp [encE] at h
  | .gr l e, b, ha, hb, h => by
    cases b with
    | gr l' e' =>
      simp only [encE, D.ifc.injEq, D.ptr.injEq, List.cons.injEq, D.sl.injEq, true_and, and_true] at h
      simp only [Er.good, Bool.and_eq_true] at ha hb
      rw [texts_inj _ _ h.1, encE_inj hp e e' ha.2 hb.2 h.2]
    | _ => simp [encE] at h
  | .am s i j, b, ha, hb, h => by
    cases b with
    | am s' i' j' =>
      simp [encE] at h
      rw [h.1, h.2.1, h.2.2]
    | _ => simp [encE] at h
/-- A function of data out of a typed one, where it is asked for good ones alone. -/
noncomputable def liftG {α : Type} (good : α → Prop) (enc : α → List D) (f : α → Option (List D)) : List D → Option (List D) := fun ds => open Classical in if h : ∃ a, good a ∧ enc a = ds then f h.choose else none
theorem liftG_enc {α : Type} {good : α → Prop} {enc : α → List D} {f : α → Option (List D)} (hi : ∀ a b, good a → good b → enc a = enc b → f a = f b) (a : α) (ha : good a) : liftG good enc f (enc a) = f a := by
  unfold liftG
  have hex : ∃ b, good b ∧ enc b = enc a := ⟨a, ha, rfl⟩
  rw [dif_pos hex]
  exact hi _ _ hex.choose_spec.1 ha hex.choose_spec.2
theorem liftG_some {α : Type} {good : α → Prop} {enc : α → List D} {f : α → Option (List D)} {ds rs : List D} (h : liftG good enc f ds = some rs) : ∃ a, good a ∧ enc a = ds ∧ f a = some rs := by
  unfold liftG at h
  split at h
  · rename_i hx
    exact ⟨_, hx.choose_spec.1, hx.choose_spec.2, h⟩
  · simp at h

noncomputable def F48 (p : Nat → Addr) (o : Nat → Obj) : List D → Option (List D) := liftG (fun a : Int × Er => a.2.good = true) (fun a => [.ptr [.v (.int .i64 a.1), encE p o a.2]]) fun a => some [encE p o a.2]
theorem F48_eq {p : Nat → Addr} {o : Nat → Obj} (n : Int) (e : Er) (he : e.good = true) : F48 p o [.ptr [.v (.int .i64 n), encE p o e]] = some [encE p o e] :=
  liftG_enc (good := fun a : Int × Er => a.2.good = true) (enc := fun a => [.ptr [.v (.int .i64 a.1), encE p o a.2]]) (f := fun a => some [encE p o a.2]) (fun a b _ _ h => by
    simp at h
    rw [h.2]) (n, e) he
/-- (*load.Fault).Unwrap -/
theorem evUld (E : Abs) (p : Nat → Addr) (o : Nat → Obj) (f n : D) (e : Er) (hf : f.cell = true) (hn : n.cell = true) : fnK (mkCtx tab glob) E kp209 fr209 0 Tryz.f209 [.ptr [f, n, encE p o e]] = some [encE p o e] := by
  cases e <;> simp [Tryz.f209, encE]
noncomputable def FUld (p : Nat → Addr) (o : Nat → Obj) : List D → Option (List D) := liftG (fun a : List UInt8 × Int × Er => a.2.2.good = true) (fun a => [.ptr [.s a.1, .v (.int .i64 a.2.1), encE p o a.2.2]]) fun a => some [encE p o a.2.2]
theorem FUld_eq {p : Nat → Addr} {o : Nat → Obj} (f : List UInt8) (n : Int) (e : Er) (he : e.good = true) : FUld p o [.ptr [.s f, .v (.int .i64 n), encE p o e]] = some [encE p o e] :=
  liftG_enc (good := fun a : List UInt8 × Int × Er => a.2.2.good = true) (enc := fun a => [.ptr [.s a.1, .v (.int .i64 a.2.1), encE p o a.2.2]]) (f := fun a => some [encE p o a.2.2]) (fun a b _ _ h => by
    simp at h
    rw [h.2.2]) (f, n, e) he
noncomputable def FUgr (p : Nat → Addr) (o : Nat → Obj) : List D → Option (List D) := liftG (fun a : List (List UInt8) × Er => a.2.good = true) (fun a => [.ptr [.sl 1 (a.1.map .s), encE p o a.2]]) fun a => some [encE p o a.2]
theorem FUgr_eq {p : Nat → Addr} {o : Nat → Obj} (l : List (List UInt8)) (e : Er) (he : e.good = true) : FUgr p o [.ptr [.sl 1 (l.map .s), encE p o e]] = some [encE p o e] :=
  liftG_enc (good := fun a : List (List UInt8) × Er => a.2.good = true) (enc := fun a => [.ptr [.sl 1 (a.1.map .s), encE p o a.2]]) (f := fun a => some [encE p o a.2]) (fun a b _ _ h => by
    simp at h
    rw [h.2]) (l, e) he
/-- (*ambig.Clash).Unwrap -/
def FUam (p : Nat → Addr) (o : Nat → Obj) : List D → Option (List D)
  | [.ptr [.s _, .v (.int .i64 _), .v (.int .i64 _)]] => some [.ifc 273 (.at (p 13) (o 13))]
  | _ => none
noncomputable def U48 (p : Nat → Addr) (o : Nat → Obj) : Abs := ext (ext (fun _ _ => Option.none) 209 (FUld p o)) 9 (FUam p o)
theorem U48_ok {p : Nat → Addr} {o : Nat → Obj} (hs : Sents glob p o) : ∀ f, Pure Tryz.prog (mkCtx tab glob) f (U48 p o f) := by
  have _ := hs
  unfold U48
  refine ext_ok ?_ (pure_of (T_ok glob) none_ok Tryz.func9 (by kernel_rfl) (kp := kp9) (fr := fr9) (by kernel_rfl) fun ds rs hF => ?_)
  rotate_left
  · have h13 := hs.glob 13 (by decide) (by decide) (by decide)
    unfold FUam at hF
    split at hF
    · cases hF
      exact ⟨0, by simp [Tryz.f9, show glob 0 = _ from h13]⟩
    · simp at hF
  refine ext_ok ?_ (pure_of (T_ok glob) none_ok Tryz.func209 (by kernel_rfl) (kp := kp209) (fr := fr209) (by kernel_rfl) fun ds rs hF => ?_)
  rotate_left
  · obtain ⟨a, _, rfl, h⟩ := liftG_some hF
    cases h
    exact ⟨0, evUld _ _ _ _ _ _ rfl rfl⟩
  exact none_ok

set_option maxHeartbeats 4000000 in
/-- errors.is -/
theorem ev91 {p : Nat → Addr} {o : Nat → Obj} (hs : Sents glob p o) (e : Er) (he : e ≠ .none) (hg : e.good = true) (g : Nat) (h1 : 1 ≤ g) (h2 : g ≤ 18) :
    fnK (mkCtx tab glob) (U48 p o) kp35 fr35 (e.deep + 2) Tryz.f35 [encE p o e, .ifc 273 (.at (p g) (o g)), .v (.bool true)] = some [.v (.bool (isE g e))] := by
  have hq := hs.plain g h1 h2
  simp [Tryz.f35]
  refine loop_rule (R := List D) (σ := Er) (fun e => ⟨slots 54 [(0, .d (encE p o e)), (1, .d (.ifc 273 (.at (p g) (o g)))), (2, .d (.v (.bool true)))], []⟩) Er.deep
    (fun e => e ≠ .none ∧ e.good = true) (fun e => some [.v (.bool (isE g e))]) e [0, 1, 2] (by simp [kp35]) ⟨he, hg⟩ (by omega) (by simp) ?_
  rintro x κ' ⟨hx, hxg⟩ hn hex hr
  cases x with
  | none => exact absurd rfl hx
  | sent g' =>
    simp [Er.good] at hxg
    have hq' := hs.plain g' hxg.1 hxg.2
    by_cases hgg : g' = g
    · subst hgg
      simp [encE, hq', hr, isE]
    · have hpp : ¬ p g' = p g := fun h => hgg (hs.inj _ _ hxg.1 hxg.2 h1 h2 h)
      simp [encE, hq, hq', hpp, hr, isE, hgg]
  | fault n y =>
    simp only [Er.good, Bool.and_eq_true] at hxg
    simp at hxg
  | ld f n y =>
    simp only [Er.good, Bool.and_eq_true] at hxg
    have hF := FUld_eq (p := p) (o := o) f n y hxg.2
    have hU : U48 p o 209 = FUld p o := rfl
    by_cases hy : y = .none
    · subst hy
      simp only [encE] at hF
      simp [encE, hU, hF, hr, isE]
    · obtain ⟨t, x, hx⟩ := encE_ifc p o hy
      rw [hx] at hF
      simp [encE, hx, hU, hF, hr]
      refine (hn y _ ⟨hy, hxg.2⟩ (by simp [Er.deep]) (by simp [hx])).trans ?_
      simp [isE]
  | gr l y =>
    simp only [Er.good, Bool.and_eq_true] at hxg
    simp at hxg
  | am s i j =>
    have hU : U48 p o 9 = FUam p o := rfl
    simp [encE, hU, FUam, hr]
    refine (hn (.sent 13) _ ⟨by simp, by simp [Er.good]⟩ (by simp [Er.deep]) (by simp [encE])).trans ?_
    simp [isE]
end Go.Ab

set_option maxRecDepth 100000
namespace Go.Ab
open Go.Proofs Go.RowKit Go.Extern.Stop Go.Stop Go.Extern Go.Extern.ReflectliteType
variable {glob : Nat → Option (List D)}

/-! ### what 'reflectlite.TypeOf(target).Comparable()' gives at a document's error -/
theorem isTypeOf (v : Value) (w : World) : (Extern.ReflectliteType.typeOf #[.iface 273 v]).run Tryz.prog w = .ok (.iface 137 (.agg #[.pointer (some ⟨21, 273, none⟩)])) w := by kernel_rfl
theorem isComparable (w : World) : ((Extern.ReflectliteType.method fun t => do Rtype.noPackHeld "Comparable" t; (fun a => Value.bool a.comparable) <$> typeInfo t) #[.agg #[.pointer (some ⟨21, 273, none⟩)]]).run Tryz.prog w = .ok (.bool true) w := by kernel_rfl
theorem isMethodComparable (v : Value) (w : World) : (Go.method 405 137 v "Comparable").run Tryz.prog w = .ok (216, v) w := by kernel_rfl

/-- errors.Is(nil, x). -/
theorem is_nil (b : Value) (w : World) :
    Calls Tryz.prog 15 #[.nilIface, .iface 273 b] w fun e w' => e = .returned (.bool false) ∧ w' = w := by
  have hn := run_eql_iface_nil_left (P := Tryz.prog) w 273 b Tryz.underlying30
  go_enter Tryz.func15, Tryz.ntmps15
  go_wp2
  go_ret
  exact ⟨rfl, rfl⟩
set_option maxHeartbeats 4000000 in
/-- errors.Is(e, x), e not nil: what errors.is says. -/
theorem is_any (t : TypeId) (y b : Value) (w : World) (r : Bool)
    (h : Calls Tryz.prog 35 #[.iface t y, .iface 273 b, .bool true] w fun e w' => e = .returned (.bool r) ∧ Chg (fun _ _ => False) w w') :
    Calls Tryz.prog 15 #[.iface t y, .iface 273 b] w fun e w' => e = .returned (.bool r) ∧ Chg (fun _ _ => False) w w' := by
  have h8 := @run_callFunc_extern Tryz.prog 34 _ Extern.ReflectliteType.typeOf Tryz.func34 (by kernel_rfl) (by kernel_rfl) (by kernel_rfl) (by kernel_rfl)
  have h32 := @run_callFunc_extern Tryz.prog 216 _ (Extern.ReflectliteType.method fun t => do Rtype.noPackHeld "Comparable" t; pure (.bool (← typeInfo t).comparable)) Tryz.func216 (by kernel_rfl) (by kernel_rfl) (by kernel_rfl) (by kernel_rfl)
  have tT := isTypeOf
  have cT := isComparable
  have mR := isMethodComparable
  have hn := run_eql_iface_nil_left (P := Tryz.prog) w 273 b Tryz.underlying30
  go_enter Tryz.func15, Tryz.ntmps15
  go_wp2_with (first | (go_at_call 35; refine h.mono ?_; rintro e w' ⟨rfl, hc⟩))
  go_ret
  exact ⟨rfl, hc⟩
end Go.Ab

set_option maxRecDepth 100000
namespace Go.Ab
open Go.Proofs
variable {glob : Nat → Option (List D)} {p : Nat → Addr} {o : Nat → Obj}

def sentD (p : Nat → Addr) (o : Nat → Obj) (g : Nat) : D := .ifc 273 (.at (p g) (o g))
def goodEG (a : Er × Nat) : Prop := a.1.good = true ∧ 1 ≤ a.2 ∧ a.2 ≤ 18
theorem encEG_inj (hs : Sents glob p o) (a b : Er × Nat) (ha : goodEG a) (hb : goodEG b) (h1 : encE p o a.1 = encE p o b.1) (h2 : sentD p o a.2 = sentD p o b.2) : a = b := by
  have e1 := encE_inj hs.inj _ _ ha.1 hb.1 h1
  have e2 := hs.inj a.2 b.2 ha.2.1 ha.2.2 hb.2.1 hb.2.2 (by simp [sentD] at h2; exact h2.1)
  exact Prod.ext e1 e2
noncomputable def F91 (p : Nat → Addr) (o : Nat → Obj) : List D → Option (List D) := liftG (fun a : Er × Nat => goodEG a ∧ a.1 ≠ .none) (fun a => [encE p o a.1, sentD p o a.2, .v (.bool true)]) fun a => some [.v (.bool (isE a.2 a.1))]
noncomputable def F62 (p : Nat → Addr) (o : Nat → Obj) : List D → Option (List D) := liftG goodEG (fun a => [encE p o a.1, sentD p o a.2]) fun a => some [.v (.bool (isE a.2 a.1))]
noncomputable def U91 (p : Nat → Addr) (o : Nat → Obj) : Abs := ext (U48 p o) 35 (F91 p o)
theorem U91_ok (hs : Sents glob p o) : ∀ f, Pure Tryz.prog (mkCtx tab glob) f (U91 p o f) := by
  refine ext_ok (U48_ok hs) ?_
  refine pure_of (T_ok glob) (U48_ok hs) Tryz.func35 (by kernel_rfl) (kp := kp35) (fr := fr35) (by kernel_rfl) fun ds rs hF => ?_
  obtain ⟨⟨e, g⟩, ⟨⟨h1, h2, h3⟩, h4⟩, rfl, h⟩ := liftG_some hF
  cases h
  exact ⟨_, ev91 hs e h4 h1 g h2 h3⟩
theorem F62_ok (hs : Sents glob p o) : Pure Tryz.prog (mkCtx tab glob) 15 (F62 p o) := by
  refine Pure.mk' Tryz.func15 (by kernel_rfl) (by kernel_rfl) fun ds rs hF N w vs hN hG hv => ?_
  obtain ⟨⟨e, g⟩, hg, rfl, h⟩ := liftG_some hF
  cases h
  obtain ⟨u, v, rfl, hu, hv2⟩ := rd2 hv
  have hv2' := hv2
  simp only [sentD, Rd] at hv2'
  obtain ⟨_, rfl, rfl, _⟩ := hv2'
  have fin : ∀ t y, u = .iface t y → e ≠ .none → Calls Tryz.prog 15 #[u, .iface 273 (.pointer (some (p g)))] w fun e_1 w' => ∃ us, RdL N w' [D.v (.bool (isE g e))] us ∧ e_1 = .returned (pack us) ∧ Chg (fun _ _ => False) w w' := by
    rintro t y rfl hne
    have hF91 : U91 p o 35 [encE p o e, sentD p o g, .v (.bool true)] = some [.v (.bool (isE g e))] := by
      show F91 p o _ = _
      exact liftG_enc (good := fun a : Er × Nat => goodEG a ∧ a.1 ≠ .none) (enc := fun a => [encE p o a.1, sentD p o a.2, .v (.bool true)]) (f := fun a => some [.v (.bool (isE a.2 a.1))]) (fun a b ha hb h => by
        simp only [List.cons.injEq] at h
        rw [encEG_inj hs a b ha.1 hb.1 h.1 h.2.1]) (e, g) ⟨hg, hne⟩
    have hc := ((U91_ok hs 35) _ _ hF91).2 N w [.iface t y, .iface 273 (.pointer (some (p g))), .bool true] hN hG (by
      simp only [RdL]
      exact ⟨_, _, rfl, hu, _, _, rfl, hv2, _, _, rfl, by simp only [Rd], rfl⟩)
    refine (is_any t y _ w (isE g e) (hc.mono ?_)).mono ?_
    · rintro e' w' ⟨us, hus, rfl, hch⟩
      simp only [RdL] at hus
      obtain ⟨u', us', rfl, hu', rfl⟩ := hus
      simp only [Rd] at hu'
      subst hu'
      exact ⟨rfl, hch⟩
    · rintro e' w' ⟨rfl, hch⟩
      exact ⟨[_], one_us (by simp only [Rd]), rfl, hch⟩
  by_cases he : e = .none
  · subst he
    simp only [encE, Rd] at hu
    subst hu
    refine (is_nil _ w).mono ?_
    rintro e' w' ⟨rfl, rfl⟩
    exact ⟨[_], one_us (by simp only [Rd]; rfl), rfl, Chg.refl _ _⟩
  · obtain ⟨t, x, hx⟩ := encE_ifc p o he
    have hu' := hu
    rw [hx] at hu'
    simp only [Rd] at hu'
    obtain ⟨y, hy, _⟩ := hu'
    exact fin _ _ hy he
theorem F62_eq (hs : Sents glob p o) (e : Er) (he : e.good = true) (g : Nat) (h1 : 1 ≤ g) (h2 : g ≤ 18) : F62 p o [encE p o e, .ifc 273 (.at (p g) (o g))] = some [.v (.bool (isE g e))] :=
  liftG_enc (good := goodEG) (enc := fun a => [encE p o a.1, sentD p o a.2]) (f := fun a => some [.v (.bool (isE a.2 a.1))]) (fun a b ha hb h => by
    simp only [List.cons.injEq] at h
    rw [encEG_inj hs a b ha hb h.1 h.2.1]) (e, g) ⟨he, h1, h2⟩

end Go.Ab

set_option maxRecDepth 100000
namespace Go.Ab
open Go.Proofs
variable {glob : Nat → Option (List D)} {p : Nat → Addr} {o : Nat → Obj}

/-- The errors by their numbers. -/
def ordE : List Nat := [1, 2, 3, 4, 5, 6, 7, 8, 9, 10, 11, 12, 13, 14, 15, 16, 17, 18]
theorem ev61' (E : Abs) (g0 : Nat → Option (List D)) : fnK (mkCtx tab fun g => bif (dE g != 0) then some [.ifc 273 (.at (p (dE g)) (o (dE g)))] else g0 g) E kp14 fr14 0 Tryz.f14 [] = some [.sl 1 (ordE.map fun g => .ifc 273 (.at (p g) (o g)))] := by
  kernel_rfl
theorem ev61 (hs : Sents glob p o) (E : Abs) : fnK (mkCtx tab glob) E kp14 fr14 0 Tryz.f14 [] = some [.sl 1 (ordE.map fun g => .ifc 273 (.at (p g) (o g)))] := by
  have hg : glob = fun g => bif (dE g != 0) then some [.ifc 273 (.at (p (dE g)) (o (dE g)))] else glob g := by
    funext g
    cases h : (dE g != 0) with
    | false => rfl
    | true =>
      obtain ⟨h1, h2, h3⟩ := dE_ok g (by simpa using h)
      have := hs.glob _ h1 h2 ((show ∀ d, d < 19 → 1 ≤ d → gE d < 9000 by decide) _ (by omega) h1)
      rw [h3] at this
      exact this
  rw [hg]
  exact ev61' E glob
noncomputable def U62 (p : Nat → Addr) (o : Nat → Obj) : Abs := ext (ext (U91 p o) 15 (F62 p o)) 14 fun
  | [] => some [.sl 1 (ordE.map fun g => .ifc 273 (.at (p g) (o g)))]
  | _ => Option.none
theorem U62_ok (hs : Sents glob p o) : ∀ f, Pure Tryz.prog (mkCtx tab glob) f (U62 p o f) := by
  refine ext_ok (ext_ok (U91_ok hs) (F62_ok hs)) ?_
  refine pure_of (T_ok glob) (U91_ok hs) Tryz.func14 (by kernel_rfl) (kp := kp14) (fr := fr14) (by kernel_rfl) fun ds rs hF => ?_
  split at hF
  · cases hF
    exact ⟨0, ev61 hs _⟩
  · simp at hF

/-- millwrightnum.Num -/
def numE (e : Er) : Int := match e with
  | .none => 0
  | e => match ordE.findIdx? (fun g => isE g e) with
    | some j => j + 1
    | Option.none => -1
def numL (e : Er) (j : Nat) : Int := match (ordE.drop j).findIdx? (fun g => isE g e) with
  | some i => (i + j : Nat) + 1
  | Option.none => -1
theorem numL_eq (e : Er) (j : Nat) (hj : j < ordE.length) : numL e j = if isE ordE[j] e = true then (j : Int) + 1 else numL e (j + 1) := by
  unfold numL
  rw [List.drop_eq_getElem_cons hj, List.findIdx?_cons]
  by_cases hi : isE ordE[j] e = true
  · simp [hi]
  · rw [if_neg hi, if_neg hi]
    cases h : List.findIdx? (fun g => isE g e) (ordE.drop (j + 1)) with
    | none => simp
    | some i => simp; omega
theorem ordE_in : ∀ j (h : j < ordE.length), 1 ≤ ordE[j] ∧ ordE[j] ≤ 18 := by decide
theorem numE_eq (e : Er) (h : e ≠ .none) : numE e = numL e 0 := by
  cases e with
  | none => exact absurd rfl h
  | _ =>
    simp only [numE, numL, List.drop_zero]
    cases List.findIdx? _ ordE <;> simp
set_option maxHeartbeats 4000000 in
theorem ev30 (hs : Sents glob p o) (e : Er) (he : e.good = true) : fnK (mkCtx tab glob) (U62 p o) kp8 fr8 20 Tryz.f8 [encE p o e] = some [.v (.int .i64 (numE e))] := by
  have hlen : ordE.length = 18 := rfl
  by_cases h0 : e = .none
  · subst h0
    simp [Tryz.f8, encE, numE]
  rw [numE_eq e h0]
  have hF : ∀ j (h : j < 18), F62 p o [encE p o e, .ifc 273 (.at (p ordE[j]) (o ordE[j]))] = some [.v (.bool (isE ordE[j] e))] := fun j h => F62_eq hs e he _ (ordE_in j h).1 (ordE_in j h).2
  have hl := numL_eq e
  have hend : numL e 18 = -1 := by simp [numL, ordE]
  generalize numL e = nl at hl hend ⊢
  have hget : ∀ j (h : j < 18), (ordE.map fun g => (D.ifc 273 (.at (p g) (o g))))[j]? = some (.ifc 273 (.at (p ordE[j]) (o ordE[j]))) := fun j h => by
    rw [List.getElem?_map, List.getElem?_eq_getElem (by rw [hlen]; exact h)]
    rfl
  have hll : (ordE.map fun g => (D.ifc 273 (.at (p g) (o g)))).length = 18 := rfl
  generalize hL : (ordE.map fun g => (D.ifc 273 (.at (p g) (o g)))) = L at hget hll
  obtain ⟨I, hI⟩ : ∃ I : Nat → Bool, ∀ j (h : j < 18), isE ordE[j] e = I j := ⟨fun j => if h : j < 18 then isE ordE[j] e else false, fun j h => by simp [h]⟩
  have hlI : ∀ j, j < 18 → nl j = if I j = true then (j : Int) + 1 else nl (j + 1) := fun j h => by
    rw [← hI j h]
    exact hl j h
  have hF : ∀ j (h : j < 18), F62 p o [encE p o e, .ifc 273 (.at (p ordE[j]) (o ordE[j]))] = some [.v (.bool (I j))] := fun j h => by
    rw [← hI j h]
    exact hF j h
  clear hI hl
  obtain ⟨t0, x0, hx0⟩ := encE_ifc p o h0
  rw [hx0] at hF ⊢
  clear h0 he hx0
  simp [Tryz.f8, U62, hL, hll]
  refine loop_rule (R := List D) (σ := Nat) (fun j => ⟨slots 20 [(0, .d (.ifc t0 x0)), (7, .d (.sl 1 L)), (8, .d (.v (.int .i64 18))), (9, .d (.v (.int .i64 j)))], []⟩) (fun j => 18 - j) (fun j => j ≤ 18) (fun j => some [.v (.int .i64 (nl j))]) 0 [0, 7, 8, 9] (by simp [kp8]) (by omega) (by omega) (by simp) ?_
  intro j κ' hj hn hx hr
  have hw : IntKind.i64.wrap (↑j + 1) = ↑j + 1 := wrap_i64 (by omega) (by omega)
  by_cases hjl : j < 18
  · have hjl' : (j : Int) < 18 := by omega
    have hl := hlI j hjl
    have hF := hF j hjl
    have hg := hget j hjl
    cases hi : I j with
    | true => simp [hjl, hjl', hw, hg, hF, hr, hl, hi]
    | false =>
      simp [hjl, hjl', hw, hg, hF, hi]
      refine (hn (j + 1) _ (by omega) (by omega) (by simp)).trans ?_
      simp [hl, hi]
  · have hjl' : ¬ (j : Int) < 18 := by omega
    have : j = 18 := by omega
    subst this
    simp [hx, hr, hend]
end Go.Ab
