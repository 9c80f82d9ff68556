/- One text of a proof that a law of this seat says true for every input: words, pieces and statements as the document reads them. It holds of the given program under the conditions that the row prints. -/
import Derived.Test.YtaiklcijiajkaaaDoorRxB
import Derived.Test.YtaiklcijiajkaaaDoorLx15
set_option linter.unusedVariables false
set_option linter.unusedSimpArgs false
set_option maxRecDepth 100000
namespace Go.Ab
open Go.Proofs
variable {glob : Nat → Option (List D)}

def FRTrim : List D → Option (List D)
  | [.s s] => if s.length < 4294967281 then some [.s (trimG s)] else none
  | _ => none
theorem FRTrim_at (s : List UInt8) (h : s.length < 4294967281) : FRTrim [.s s] = some [.s (trimG s)] := by
  simp only [FRTrim]
  rw [if_pos h]
def FRWords : List D → Option (List D)
  | [.s s] => if s.length < 4294967281 then some (rwD (rWords s)) else none
  | _ => none
theorem FRWords_at (s : List UInt8) (h : s.length < 4294967281) : FRWords [.s s] = some (rwD (rWords s)) := by
  simp only [FRWords]
  rw [if_pos h]
def FRFind : List D → Option (List D)
  | [.s s, .s sg] => if s.length < 4294967281 ∧ sg.length < 4294967281 then some [.v (.int .i64 (rFind s sg 0))] else none
  | _ => none
theorem FRFind_at (s sg : List UInt8) (h : s.length < 4294967281) (h2 : sg.length < 4294967281) : FRFind [.s s, .s sg] = some [.v (.int .i64 (rFind s sg 0))] := by
  simp only [FRFind]
  rw [if_pos ⟨h, h2⟩]
def FRAttr : List D → Option (List D)
  | [.s s] => if s.length < 4294967281 then some (raD (rAttr s 0)) else none
  | _ => none
theorem FRAttr_at (s : List UInt8) (h : s.length < 4294967281) : FRAttr [.s s] = some (raD (rAttr s 0)) := by
  simp only [FRAttr]
  rw [if_pos h]
def roD : Sm ⊕ Nat → List D
  | .inl s => [encS s, .v (.int .i64 0)]
  | .inr e => [encS Sm.z, .v (.int .i64 e)]
theorem rWords_err (s : List UInt8) (e : Nat) (h : rWords s = .inr e) : e ≠ 0 := pWords_err s e (by rw [words_law]; exact h)
theorem rAttr_err (s : List UInt8) (e : Nat) (h : rAttr s 0 = .inr e) : e ≠ 0 := by
  have := attr_law s s.length 0 0 (by omega) (by omega)
  rw [List.drop_zero] at this
  exact pAttr_err _ _ _ _ _ (Nat.le_refl _) (this.trans h)
theorem colon_le (s : List UInt8) : colon s ≤ s.length := (List.takeWhile_prefix (l := s) (fun b => !(b == 58))).length_le
theorem colon_lt : ∀ (s : List UInt8) (i : Nat) (h : i < s.length), i < colon s → s[i] ≠ 58
  | [], i, h, _ => by simp at h
  | b :: r, i, h, h2 => by
    unfold colon at h2
    rw [List.takeWhile_cons] at h2
    by_cases hb : b = 58
    · subst hb
      simp at h2
    · have hb' : (b == 58) = false := by simpa using hb
      rw [hb', if_pos (by simp)] at h2
      cases i with
      | zero => simpa using hb
      | succ i =>
        simp only [List.getElem_cons_succ]
        exact colon_lt r i _ (by unfold colon; simp at h2; omega)
theorem colon_at : ∀ (s : List UInt8) (h : colon s < s.length), s[colon s] = 58
  | [], h => by simp at h
  | b :: r, h => by
    unfold colon at h ⊢
    by_cases hb : b = 58
    · subst hb
      simp
    · have hb' : (b == 58) = false := by simpa using hb
      simp only [List.takeWhile_cons, hb', Bool.not_false, if_true, List.length_cons] at h ⊢
      simp only [List.getElem_cons_succ]
      exact colon_at r (by unfold colon; omega)
end Go.Ab
