/- One text of a proof that a law of this seat says true for every input: errors and what they wrap. It holds of the given program under the conditions that the row prints. -/
import Derived.Test.YtaiklcijiajkaaaDoorAbSimp
import Derived.WalkKit
import Derived.LaidEql
import Derived.Stop.Asserts
import Derived.RowKitTokens
set_option linter.unusedVariables false
set_option linter.unusedSimpArgs false
set_option maxRecDepth 100000
namespace Go.Ab
open Go.Proofs
variable {glob : Nat → Option (List D)}

/-- An error: none, one of the document's, or a fault at a line that wraps one. -/
inductive Er where
  | none
  | sent (g : Nat)
  | fault (n : Int) (e : Er)
/-- The variables of the document's errors, by their numbers. -/
def gE : Nat → Nat
  | 1 => 9001
  | 2 => 0
  | 3 => 1
  | 4 => 3
  | 5 => 2
  | 6 => 9006
  | 7 => 4
  | 8 => 9008
  | 9 => 9009
  | 10 => 9010
  | 11 => 9011
  | 12 => 9012
  | 13 => 9013
  | 14 => 9014
  | 15 => 9015
  | 16 => 9016
  | 17 => 9017
  | 18 => 9018
  | _ => 1000
/-- The errors' numbers, by their variables. -/
def dE : Nat → Nat
  | 9001 => 1
  | 0 => 2
  | 1 => 3
  | 3 => 4
  | 2 => 5
  | 9006 => 6
  | 4 => 7
  | 9008 => 8
  | 9009 => 9
  | 9010 => 10
  | 9011 => 11
  | 9012 => 12
  | 9013 => 13
  | 9014 => 14
  | 9015 => 15
  | 9016 => 16
  | 9017 => 17
  | 9018 => 18
  | _ => 0
theorem dE_ok (g : Nat) (h : dE g ≠ 0) : 1 ≤ dE g ∧ dE g ≤ 18 ∧ gE (dE g) = g := by
  unfold dE at h ⊢
  split at h <;> first | exact ⟨by decide, by decide, rfl⟩ | exact absurd rfl h
/-- Where the document's errors lie. -/
structure Sents (glob : Nat → Option (List D)) (p : Nat → Addr) (o : Nat → Obj) : Prop where
  glob : ∀ g, 1 ≤ g → g ≤ 18 → gE g < 9000 → glob (gE g) = some [.ifc 121 (.at (p g) (o g))]
  plain : ∀ g, 1 ≤ g → g ≤ 18 → plainB (o g) = true
  inj : ∀ g g', 1 ≤ g → g ≤ 18 → 1 ≤ g' → g' ≤ 18 → p g = p g' → g = g'
def encE (p : Nat → Addr) (o : Nat → Obj) : Er → D
  | .none => .v .nilIface
  | .sent g => .ifc 121 (.at (p g) (o g))
  | .fault n e => .ifc 40 (.ptr [.v (.int .i64 n), encE p o e])
def Er.good : Er → Bool
  | .none => true
  | .sent g => decide (1 ≤ g ∧ g ≤ 18)
  | .fault _ e => e.good
def Er.deep : Er → Nat
  | .fault _ e => e.deep + 1
  | _ => 0
/-- errors.Is -/
def isE (g : Nat) : Er → Bool
  | .none => false
  | .sent g' => decide (g' = g)
  | .fault _ e => isE g e
theorem encE_cell (p : Nat → Addr) (o : Nat → Obj) (e : Er) : (encE p o e).cell = true := by
  cases e <;> rfl
theorem encE_inj {p : Nat → Addr} {o : Nat → Obj} (hp : ∀ g g', 1 ≤ g → g ≤ 18 → 1 ≤ g' → g' ≤ 18 → p g = p g' → g = g') : ∀ a b : Er, a.good = true → b.good = true → encE p o a = encE p o b → a = b
  | .none, .none, _, _, _ => rfl
  | .sent g, .sent g', ha, hb, h => by
    simp [Er.good] at ha hb
    simp [encE] at h
    rw [hp g g' ha.1 ha.2 hb.1 hb.2 h.1]
  | .fault n e, .fault n' e', ha, hb, h => by
    simp [encE] at h
    rw [h.1, encE_inj hp e e' ha hb h.2]
  | .none, .sent _, _, _, h | .none, .fault _ _, _, _, h | .sent _, .none, _, _, h | .sent _, .fault _ _, _, _, h | .fault _ _, .none, _, _, h | .fault _ _, .sent _, _, _, h => by simp [encE] at h
/-- A function of data out of a typed one, where it is asked for good ones alone. -/
noncomputable def liftG {α : Type} (good : α → Prop) (enc : α → List D) (f : α → Option (List D)) : List D → Option (List D) := fun ds => open Classical in if h : ∃ a, good a ∧ enc a = ds then f h.choose else none
theorem liftG_enc {α : Type} {good : α → Prop} {enc : α → List D} {f : α → Option (List D)} (hi : ∀ a b, good a → good b → enc a = enc b → f a = f b) (a : α) (ha : good a) : liftG good enc f (enc a) = f a := by
  unfold liftG
  have hex : ∃ b, good b ∧ enc b = enc a := ⟨a, ha, rfl⟩
  rw [dif_pos hex]
  exact hi _ _ hex.choose_spec.1 ha hex.choose_spec.2
theorem liftG_some {α : Type} {good : α → Prop} {enc : α → List D} {f : α → Option (List D)} {ds rs : List D} (h : liftG good enc f ds = some rs) : ∃ a, good a ∧ enc a = ds ∧ f a = some rs := by
  unfold liftG at h
  split at h
  · rename_i hx
    exact ⟨_, hx.choose_spec.1, hx.choose_spec.2, h⟩
  · simp at h

noncomputable def F48 (p : Nat → Addr) (o : Nat → Obj) : List D → Option (List D) := liftG (fun a : Int × Er => a.2.good = true) (fun a => [.ptr [.v (.int .i64 a.1), encE p o a.2]]) fun a => some [encE p o a.2]
theorem F48_eq {p : Nat → Addr} {o : Nat → Obj} (n : Int) (e : Er) (he : e.good = true) : F48 p o [.ptr [.v (.int .i64 n), encE p o e]] = some [encE p o e] :=
  liftG_enc (good := fun a : Int × Er => a.2.good = true) (enc := fun a => [.ptr [.v (.int .i64 a.1), encE p o a.2]]) (f := fun a => some [encE p o a.2]) (fun a b _ _ h => by
    simp at h
    rw [h.2]) (n, e) he
end Go.Ab

set_option linter.unusedVariables false
set_option linter.unusedSimpArgs false
set_option maxRecDepth 100000
namespace Go.Ab
open Go.Proofs Go.RowKit Go.Extern.Stop Go.Stop Go.Extern Go.Extern.ReflectliteType
variable {glob : Nat → Option (List D)}

/-! ### what 'reflectlite.TypeOf(target).Comparable()' gives at a document's error -/
theorem isComparable (w : World) : ((Extern.ReflectliteType.method fun t => do Rtype.noPackHeld "Comparable" t; (fun a => Value.bool a.comparable) <$> typeInfo t) #[.agg #[.pointer (some ⟨8, 121, none⟩)]]).run Tryd.prog w = .ok (.bool true) w := by kernel_rfl
end Go.Ab

set_option linter.unusedVariables false
set_option linter.unusedSimpArgs false
set_option maxRecDepth 100000
namespace Go.Ab
open Go.Proofs
variable {glob : Nat → Option (List D)} {p : Nat → Addr} {o : Nat → Obj}

def sentD (p : Nat → Addr) (o : Nat → Obj) (g : Nat) : D := .ifc 121 (.at (p g) (o g))
def goodEG (a : Er × Nat) : Prop := a.1.good = true ∧ 1 ≤ a.2 ∧ a.2 ≤ 18
theorem encEG_inj (hs : Sents glob p o) (a b : Er × Nat) (ha : goodEG a) (hb : goodEG b) (h1 : encE p o a.1 = encE p o b.1) (h2 : sentD p o a.2 = sentD p o b.2) : a = b := by
  have e1 := encE_inj hs.inj _ _ ha.1 hb.1 h1
  have e2 := hs.inj a.2 b.2 ha.2.1 ha.2.2 hb.2.1 hb.2.2 (by simp [sentD] at h2; exact h2.1)
  exact Prod.ext e1 e2
noncomputable def F91 (p : Nat → Addr) (o : Nat → Obj) : List D → Option (List D) := liftG (fun a : Er × Nat => goodEG a ∧ a.1 ≠ .none) (fun a => [encE p o a.1, sentD p o a.2, .v (.bool true)]) fun a => some [.v (.bool (isE a.2 a.1))]
noncomputable def F62 (p : Nat → Addr) (o : Nat → Obj) : List D → Option (List D) := liftG goodEG (fun a => [encE p o a.1, sentD p o a.2]) fun a => some [.v (.bool (isE a.2 a.1))]
theorem F62_eq (hs : Sents glob p o) (e : Er) (he : e.good = true) (g : Nat) (h1 : 1 ≤ g) (h2 : g ≤ 18) : F62 p o [encE p o e, .ifc 121 (.at (p g) (o g))] = some [.v (.bool (isE g e))] :=
  liftG_enc (good := goodEG) (enc := fun a => [encE p o a.1, sentD p o a.2]) (f := fun a => some [.v (.bool (isE a.2 a.1))]) (fun a b ha hb h => by
    simp only [List.cons.injEq] at h
    rw [encEG_inj hs a b ha hb h.1 h.2.1]) (e, g) ⟨he, h1, h2⟩

end Go.Ab
