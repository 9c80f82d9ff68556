/- One text of a proof that a law of this seat says true for every input: words, pieces and statements as the document reads them. It holds of the given program under the conditions that the row prints. -/
import Derived.Test.YtaiklcijiajkaaaDoorRx3
set_option linter.unusedVariables false
set_option linter.unusedSimpArgs false
set_option maxRecDepth 100000
namespace Go.Ab
open Go.Proofs
variable {glob : Nat → Option (List D)}

def FROne : List D → Option (List D)
  | [.s s, .v (.int .i64 i)] => if s.length < 4294967281 ∧ 0 ≤ i ∧ i < s.length then some (pcD (rOne s i.toNat)) else none
  | _ => none
theorem FROne_at (s : List UInt8) (a : Nat) (hl : s.length < 4294967281) (ha : a < s.length) : FROne [.s s, .v (.int .i64 a)] = some (pcD (rOne s a)) := by
  simp only [FROne]
  rw [if_pos ⟨hl, by omega, by omega⟩]
  simp
def rwD : List (List Pc) ⊕ Nat → List D
  | .inl ws => [.sl 1 (ws.map encW), .v (.int .i64 0)]
  | .inr e => [.sl 1 [], .v (.int .i64 e)]
end Go.Ab

set_option linter.unusedVariables false
set_option linter.unusedSimpArgs false
set_option maxRecDepth 100000
namespace Go.Ab
open Go.Proofs
variable {glob : Nat → Option (List D)}

def gapC (b : UInt8) : Bool := gaps.contains b
/-- A byte's number. -/
def FV : List D → Option (List D)
  | [.v (.int .u8 n)] => if 0 ≤ n ∧ n < 256 then some [.v (.int .i64 (valB (UInt8.ofNat n.toNat)))] else none
  | _ => none
theorem FV_at (b : UInt8) : FV [.v (.int .u8 b.toNat)] = some [.v (.int .i64 (valB b))] := by
  have := b.toNat_lt
  simp only [FV]
  rw [if_pos (by omega)]
  simp
def chkV (T : Ctx) (E : Abs) (kp fr : Nat → List Nat) (f : Func) : Bool := (List.range 256).all fun n => match fnK T E kp fr 0 f [.v (.int .u8 n)] with
  | some [.v (.int .i64 x)] => x == (valB (UInt8.ofNat n) : Int)
  | _ => false
theorem chkV_ok {T : Ctx} {E : Abs} {kp fr : Nat → List Nat} {f : Func} (h : chkV T E kp fr f = true) (ds rs : List D) (hF : FV ds = some rs) : ∃ n, fnK T E kp fr n f ds = some rs := by
  unfold FV at hF
  split at hF
  · rename_i n
    split at hF
    · rename_i hn
      cases hF
      have := List.all_eq_true.1 h n.toNat (List.mem_range.2 (by omega))
      rw [Int.toNat_of_nonneg hn.1] at this
      split at this
      · rename_i x hx
        exact ⟨0, by rw [hx, beq_iff_eq.1 this]⟩
      · simp at this
    · simp at hF
  · simp at hF
def FHas : List D → Option (List D)
  | [.st [.v (.int .i64 f), .s q], .v (.int .i64 v)] => if 0 ≤ f ∧ f < 256 ∧ 0 < v ∧ v < 256 then some [.v (.bool (decide (f.toNat / v.toNat % 2 = 1)))] else none
  | _ => none
theorem FHas_at (f v : Nat) (q : List UInt8) (hf : f < 256) (h0 : 0 < v) (hv : v < 256) : FHas [.st [.v (.int .i64 f), .s q], .v (.int .i64 v)] = some [.v (.bool (decide (f / v % 2 = 1)))] := by
  simp only [FHas]
  rw [if_pos (by omega)]
  simp
def raD : (Nat × List UInt8) ⊕ Nat → List D
  | .inl (f, q) => [.st [.v (.int .i64 f), .s q], .v (.int .i64 0)]
  | .inr e => [.st [.v (.int .i64 0), .s []], .v (.int .i64 e)]
theorem valB_lt : ∀ n, n < 256 → valB (UInt8.ofNat n) ≤ 128 := by decide +kernel
theorem valB_has : ∀ f, f < 256 → ∀ n, n < 256 → valB (UInt8.ofNat n) ≠ 0 → ¬ f / valB (UInt8.ofNat n) % 2 = 1 → f + valB (UInt8.ofNat n) < 256 := by
  have key : ∀ f, f < 256 → ∀ b, b < 8 → ¬ f / (1 <<< b) % 2 = 1 → f + (1 <<< b) < 256 := by decide +kernel
  intro f hf n hn h0 h1
  have hp : ∀ n, n < 256 → valB (UInt8.ofNat n) ≠ 0 → ∃ b, b < 8 ∧ valB (UInt8.ofNat n) = 1 <<< b := by decide +kernel
  obtain ⟨b, hb, e⟩ := hp n hn h0
  rw [e] at h1 ⊢
  exact key f hf b hb h1
end Go.Ab

set_option linter.unusedVariables false
set_option linter.unusedSimpArgs false
set_option maxRecDepth 100000
namespace Go.Ab
open Go.Proofs
variable {glob : Nat → Option (List D)}

theorem gapC_eq (b : UInt8) : gapC b = gapB b := congrFun gap_contains b
theorem subs_snoc (s : List UInt8) (i j : Nat) (hij : i ≤ j) (h : j < s.length) : subs s i (j + 1) = subs s i j ++ [s[j]] := by
  unfold subs
  rw [List.take_succ_eq_append_getElem h, List.drop_append_of_le_length (by simp; omega)]
end Go.Ab
