/- One text of a proof that a law of this seat says true for every input: words, pieces and statements as the document reads them. It holds of the given program under the conditions that the row prints. -/
import Derived.Test.YtaiklcijiajkaaaDoorRxA
set_option linter.unusedVariables false
set_option linter.unusedSimpArgs false
set_option maxRecDepth 100000
namespace Go.Ab
open Go.Proofs
variable {glob : Nat → Option (List D)}

def FDol : List D → Option (List D)
  | [.s s, .v (.int .i64 i)] => if s.length < 4294967281 ∧ 0 ≤ i ∧ i < s.length then some (pcD (rDol s i.toNat)) else none
  | _ => none
theorem FDol_at (s : List UInt8) (a : Nat) (hl : s.length < 4294967281) (ha : a < s.length) : FDol [.s s, .v (.int .i64 a)] = some (pcD (rDol s a)) := by
  simp only [FDol]
  rw [if_pos ⟨hl, by omega, by omega⟩]
  simp
theorem unq_step (s : List UInt8) (i e : Nat) (hi : i < e) (hl : i < s.length) : unq (subs s i e) = s[i] :: unq (subs s (if s[i] = 39 then i + 2 else i + 1) e) := by
  rw [subs_cons s i e hi hl]
  by_cases h : s[i] = 39
  · rw [if_pos h]
    rcases Nat.lt_or_ge (i + 1) e with h1 | h1
    · by_cases h2 : i + 1 < s.length
      · rw [subs_cons s (i + 1) e h1 h2]
        simp only [unq, if_pos h]
      · have e1 : subs s (i + 1) e = [] := by
          unfold subs
          exact List.drop_eq_nil_of_le (by simp; omega)
        have e2 : subs s (i + 2) e = [] := by
          unfold subs
          exact List.drop_eq_nil_of_le (by simp; omega)
        rw [e1, e2]
        rfl
    · rw [subs_nil s (i + 1) e h1, subs_nil s (i + 2) e (by omega)]
      rfl
  · rw [if_neg h]
    cases hx : subs s (i + 1) e with
    | nil => rfl
    | cons b r => simp only [unq, if_neg h]
theorem unq_len : ∀ l : List UInt8, (unq l).length ≤ l.length
  | [] => Nat.le_refl _
  | [b] => Nat.le_refl _
  | b :: c :: r => by
    have h1 := unq_len r
    have h2 := unq_len (c :: r)
    unfold unq
    split
    · simp only [List.length_cons]
      omega
    · simp only [List.length_cons] at h2 ⊢
      omega
end Go.Ab
