/- One text of a proof that a law of this seat says true for every input: words, pieces and statements as the document reads them. It holds of the given program under the conditions that the row prints. -/
import Derived.Test.YtaiklcijiajkaaaDoorLx13
set_option linter.unusedVariables false
set_option linter.unusedSimpArgs false
set_option maxRecDepth 100000
namespace Go.Ab
open Go.Proofs
variable {glob : Nat → Option (List D)}

/-! # The document's words -/
theorem scan_at (q : UInt8 → Bool) (s : List UInt8) (i0 i : Nat) (h0 : i0 ≤ i) (hk : i ≤ i0 + runN q s i0) :
    (i < i0 + runN q s i0 ∧ ∃ h : i < s.length, q s[i] = true) ∨ (i = i0 + runN q s i0 ∧ (s.length ≤ i ∨ ∃ h : i < s.length, q s[i] = false)) := by
  rcases Nat.eq_or_lt_of_le hk with rfl | h
  · right
    refine ⟨rfl, ?_⟩
    rcases Nat.lt_or_ge (i0 + runN q s i0) s.length with h1 | h1
    · exact .inr ⟨h1, runN_stop q s _ i0 rfl h1⟩
    · exact .inl h1
  · exact .inl ⟨h, runN_all q s _ i0 i rfl h0 h⟩
theorem fb39 : FP blkB [.v (.int .u8 39)] = some [.v (.bool false)] := rfl
theorem fb36 : FP blkB [.v (.int .u8 36)] = some [.v (.bool false)] := rfl
theorem fb96 : FP blkB [.v (.int .u8 96)] = some [.v (.bool false)] := rfl
theorem fb61 : FP blkB [.v (.int .u8 61)] = some [.v (.bool false)] := rfl
theorem fb123 : FP blkB [.v (.int .u8 123)] = some [.v (.bool false)] := rfl
theorem fb125 : FP blkB [.v (.int .u8 125)] = some [.v (.bool false)] := rfl
end Go.Ab

set_option linter.unusedVariables false
set_option linter.unusedSimpArgs false
set_option maxRecDepth 100000
namespace Go.Ab
open Go.Proofs
variable {glob : Nat → Option (List D)}

theorem fl58 : FP letB [.v (.int .u8 58)] = some [.v (.bool false)] := rfl
theorem fl125 : FP letB [.v (.int .u8 125)] = some [.v (.bool false)] := rfl
def FPat : List D → Option (List D)
  | [.s s, .v (.int .i64 i)] => if s.length < 4294967281 ∧ 0 ≤ i ∧ i ≤ s.length then some [.v (.int .i64 (i.toNat + runN patB s i.toNat : Nat))] else none
  | _ => none
theorem FPat_at (s : List UInt8) (a : Nat) (hl : s.length < 4294967281) (ha : a ≤ s.length) : FPat [.s s, .v (.int .i64 a)] = some [.v (.int .i64 (a + runN patB s a : Nat))] := by
  simp only [FPat]
  rw [if_pos ⟨hl, by omega, by omega⟩]
  simp
def pcD (x : Pc × Nat × Nat) : List D := [encP x.1, .v (.int .i64 x.2.1), .v (.int .i64 x.2.2)]
theorem at_cases (s : List UInt8) (i : Nat) (b : UInt8) : (∃ h : i < s.length, s[i] = b ∧ s[i]? = some b) ∨ ((s.length ≤ i ∨ ∃ h : i < s.length, s[i] ≠ b) ∧ s[i]? ≠ some b) := by
  rcases Nat.lt_or_ge i s.length with h | h
  · by_cases hb : s[i] = b
    · exact .inl ⟨h, hb, by rw [List.getElem?_eq_getElem h, hb]⟩
    · exact .inr ⟨.inr ⟨h, hb⟩, by rw [List.getElem?_eq_getElem h]; simpa using hb⟩
  · exact .inr ⟨.inl h, by rw [List.getElem?_eq_none h]; simp⟩
end Go.Ab
