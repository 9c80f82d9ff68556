/- One text of a proof that a law of this seat says true for every input: the lines of a text. It holds of the given program under the conditions that the row prints. -/
import Derived.Lib.Split
set_option linter.unusedVariables false
set_option linter.unusedSimpArgs false
namespace Go.Ab

/-- A text cut at its line feeds. -/
def sp10 : List UInt8 → List (List UInt8)
  | [] => [[]]
  | b :: l => if b = 10 then [] :: sp10 l else (match sp10 l with | p :: ps => (b :: p) :: ps | [] => [[b]])
theorem sp10_ne (l : List UInt8) : sp10 l ≠ [] := by
  cases l with
  | nil => simp [sp10]
  | cons b l =>
    simp only [sp10]
    split
    · simp
    · split <;> simp
theorem sp10_app (a b : List UInt8) (h : (10 : UInt8) ∉ a) : sp10 (a ++ 10 :: b) = a :: sp10 b := by
  induction a with
  | nil => simp [sp10]
  | cons x a ih =>
    simp only [List.mem_cons, not_or] at h
    simp only [List.cons_append, sp10, ih h.2]
    rw [if_neg (fun e => h.1 e.symm)]
theorem sp10_one (a : List UInt8) (h : (10 : UInt8) ∉ a) : sp10 a = [a] := by
  induction a with
  | nil => rfl
  | cons x a ih =>
    simp only [List.mem_cons, not_or] at h
    simp only [sp10, ih h.2]
    rw [if_neg (fun e => h.1 e.symm)]
theorem sp10_len (l : List UInt8) : ((sp10 l).map List.length).sum + (sp10 l).length = l.length + 1 := by
  induction l with
  | nil => rfl
  | cons b l ih =>
    simp only [sp10]
    split
    · simp only [List.map_cons, List.sum_cons, List.length_nil, List.length_cons]
      omega
    · have := sp10_ne l
      cases hp : sp10 l with
      | nil => exact absurd hp this
      | cons p ps =>
        rw [hp] at ih
        simp only [List.map_cons, List.sum_cons, List.length_cons] at ih ⊢
        omega
theorem ix_none (l : List UInt8) (h : (10 : UInt8) ∉ l) : Lib.index l [10] = -1 := by
  induction l with
  | nil => rfl
  | cons b l ih =>
    simp only [List.mem_cons, not_or] at h
    unfold Lib.index
    rw [ih h.2]
    have : ¬ (10 : UInt8) = b := h.1
    simp [List.isPrefixOf, this]
theorem ix_some (a b : List UInt8) (h : (10 : UInt8) ∉ a) : Lib.index (a ++ 10 :: b) [10] = a.length := by
  induction a with
  | nil => simp [Lib.index, List.isPrefixOf]
  | cons x a ih =>
    simp only [List.mem_cons, not_or] at h
    rw [List.cons_append]
    unfold Lib.index
    rw [ih h.2]
    have : ¬ (10 : UInt8) = x := h.1
    have h2 : ¬ ((a.length : Int) == -1) = true := by simp
    simp only [List.isPrefixOf, beq_iff_eq, this, Bool.false_and, List.length_cons, h2, if_false]
    simp [this]
theorem first10 (l : List UInt8) : (10 : UInt8) ∉ l ∨ ∃ a b, l = a ++ 10 :: b ∧ (10 : UInt8) ∉ a := by
  induction l with
  | nil => exact .inl (by simp)
  | cons x l ih =>
    by_cases hx : x = 10
    · exact .inr ⟨[], l, by simp [hx], by simp⟩
    · rcases ih with h | ⟨a, b, rfl, h⟩
      · exact .inl (by simp [h, Ne.symm hx])
      · exact .inr ⟨x :: a, b, rfl, by simp [h]; exact fun e => hx e.symm⟩
theorem split_sp10 : ∀ (n : Nat) (l : List UInt8), l.length ≤ n → Lib.split l [10] = sp10 l := by
  intro n
  induction n with
  | zero =>
    intro l hl
    have : l = [] := List.eq_nil_of_length_eq_zero (by omega)
    subst this
    rfl
  | succ n ih =>
    intro l hl
    rcases first10 l with h | ⟨a, b, rfl, h⟩
    · rw [sp10_one l h]
      unfold Lib.split
      rw [Lib.count_miss (ix_none l h)]
      rfl
    · have hix := ix_some a b h
      rw [sp10_app a b h]
      have hc := Lib.count_hit (s := a ++ 10 :: b) (sub := [10]) (i := a.length) (by simp) hix
      have hd : (a ++ 10 :: b).drop (a.length + [(10 : UInt8)].length) = b := by
        rw [← List.drop_drop]
        simp
      rw [hd] at hc
      unfold Lib.split
      rw [hc, Nat.add_comm 1]
      unfold Lib.splitK
      rw [hix]
      have h2 : ¬ ((a.length : Int) == -1) = true := by simp
      rw [if_neg h2]
      simp only [Int.toNat_natCast, Nat.add_zero]
      rw [hd]
      have e1 : (a ++ 10 :: b).take a.length = a := by simp
      rw [e1]
      have := ih b (by simp at hl; omega)
      unfold Lib.split at this
      rw [this]
end Go.Ab
