/- One text of a proof that a law of this seat says true for every input: the lines of a text. It holds of the given program under the conditions that the row prints. -/
import Derived.Test.YticphlljahcmkaaDoorLn6
import Derived.Test.YticphlljahcmkaaDoorLn7
set_option linter.unusedVariables false
set_option linter.unusedSimpArgs false
namespace Go.Ab

theorem cutm_pass (s : List UInt8) (last : Bool) (i : Nat) (h : ∀ (j : Nat) (hj : j < s.length), i ≤ j → s[j] ≠ 39 ∧ s[j] ≠ 35 ∧ s[j] ≠ 92) : cutm s last i = (s, false, true) := by
  induction i using cutm.induct (s := s) (last := last) with
  | case1 i hi hc h2 => exact absurd hc (h i hi (Nat.le_refl _)).1
  | case2 i hi hc h2 ih => exact absurd hc (h i hi (Nat.le_refl _)).1
  | case3 i hi hc h2 => exact absurd h2 (h i hi (Nat.le_refl _)).2.1
  | case4 i hi hc h2 h3 => exact absurd h3.1 (h i hi (Nat.le_refl _)).2.2
  | case5 i hi hc h2 h3 ih =>
    have e : cutm s last i = cutm s last (i + 1) := by
      conv => lhs; unfold cutm
      rw [dif_pos hi, if_neg hc, if_neg h2, if_neg h3]
    rw [e]
    exact ih fun j hj hij => h j hj (by omega)
  | case6 i hi =>
    unfold cutm
    rw [dif_neg hi]
theorem cutm_on (a : List UInt8) (h : ∀ (j : Nat) (hj : j < a.length), a[j] ≠ 39 ∧ a[j] ≠ 35 ∧ a[j] ≠ 92) : ∀ i, i ≤ a.length → cutm (a ++ [92]) false i = (a ++ [32], true, true) := by
  intro i
  induction hk : a.length - i generalizing i with
  | zero =>
    intro hi
    have : i = a.length := by omega
    subst this
    unfold cutm
    simp
  | succ k ih =>
    intro hi
    have hil : i < a.length := by omega
    have hg : (a ++ [92])[i]'(by simp; omega) = a[i] := List.getElem_append_left hil
    have := h i hil
    unfold cutm
    rw [dif_pos (by simp; omega), if_neg (by rw [hg]; exact this.1), if_neg (by rw [hg]; exact this.2.1), if_neg (by rw [hg]; exact fun e => this.2.2 e.1)]
    exact ih (i + 1) (by omega) (by omega)
theorem trim_lf (l : List UInt8) : Lib.trimSuffix (l ++ [10]) [10] = l := by
  unfold Lib.trimSuffix Lib.hasSuffix
  have : [(10 : UInt8)].isSuffixOf (l ++ [10]) = true := by
    rw [List.isSuffixOf_iff_suffix]
    exact ⟨l, rfl⟩
  rw [if_pos this]
  simp
theorem phys_lf (l : List UInt8) : phys (l ++ [10]) = sp10 l := by
  unfold phys
  rw [if_neg (by simp), trim_lf, split_sp10 _ _ (Nat.le_refl _)]
theorem bare_all {s : List UInt8} (h : s.all bareB = true) : (∀ (j : Nat) (hj : j < s.length), s[j] ≠ 39 ∧ s[j] ≠ 35 ∧ s[j] ≠ 92) ∧ (10 : UInt8) ∉ s ∧ (∀ b r, s = b :: r → recp s = false) := by
  have hb : ∀ x ∈ s, bareB x = true := fun x hx => List.all_eq_true.1 h x hx
  refine ⟨fun j hj => ?_, fun hm => ?_, ?_⟩
  · have := hb s[j] (List.getElem_mem hj)
    simp [bareB] at this
    exact ⟨this.2.2.1, this.2.2.2.2, this.2.2.2.1⟩
  · have := hb 10 hm
    simp [bareB] at this
  · rintro b r rfl
    have := hb b (by simp)
    simp only [recp, decide_eq_false_iff_not]
    rintro (rfl | rfl) <;> simp [bareB] at this
theorem lg_one (x : List UInt8) (h : cutm x true 0 = (x, false, true)) : lgm [x] [] 0 = .inl (x, 1) := by
  unfold lgm
  simp [h]
theorem lg_two (a b : List UInt8) (h1 : cutm (a ++ [92]) false 0 = (a ++ [32], true, true)) (h2 : cutm b true 0 = (b, false, true)) : lgm [a ++ [92], b] [] 0 = .inl (a ++ [32] ++ b, 2) := by
  unfold lgm
  simp [h1]
  unfold lgm
  simp [h2]
theorem sp_end (xs : List (List UInt8)) (t : List UInt8) (n : Nat) (hr : ∀ h : 0 < xs.length, recp xs[0] = false) (h0 : 0 < xs.length) (hl : lgm xs [] 0 = .inl (t, n)) (hn : xs.length ≤ n) (ht : (Lib.trimS t [32, 9]).length ≤ 400) : spm xs [] 0 = .inl [⟨Lib.trimS t [32, 9], 1, false⟩] := by
  unfold spm
  rw [dif_pos h0, if_neg (by rw [hr h0]; simp)]
  split
  · rename_i n' h'
    rw [hl] at h'
    cases h'
  · rename_i t' n' h'
    rw [hl] at h'
    cases h'
    rw [if_neg (by omega)]
    unfold spm
    rw [dif_neg (by omega)]
    rfl
theorem dropWhile_le {α : Type} (p : α → Bool) (l : List α) : (l.dropWhile p).length ≤ l.length := (List.dropWhile_sublist p).length_le
theorem trimS_le (l cs : List UInt8) : (Lib.trimS l cs).length ≤ l.length := by
  unfold Lib.trimS Lib.trimLeftS Lib.trimRightS
  refine Nat.le_trans (dropWhile_le _ _) ?_
  rw [List.length_reverse]
  exact Nat.le_trans (dropWhile_le _ _) (by simp)
/-- LINES THAT ARE JOINED ARE ONE. -/
theorem join_law (a b : List UInt8) (ha : a.all bareB = true) (hb : b.all bareB = true) (ha0 : 0 < a.length) (hb0 : 0 < b.length) (hal : a.length ≤ 150) (hbl : b.length ≤ 150) :
    ∃ t, spm (phys (a ++ [92, 10] ++ b ++ [10])) [] 0 = .inl [⟨t, 1, false⟩] ∧ spm (phys (a ++ [32] ++ b ++ [10])) [] 0 = .inl [⟨t, 1, false⟩] := by
  obtain ⟨a1, a2, a3⟩ := bare_all ha
  obtain ⟨b1, b2, b3⟩ := bare_all hb
  have htl : (Lib.trimS (a ++ [32] ++ b) [32, 9]).length ≤ 400 := Nat.le_trans (trimS_le _ _) (by simp; omega)
  refine ⟨Lib.trimS (a ++ [32] ++ b) [32, 9], ?_, ?_⟩
  · have e : phys (a ++ [92, 10] ++ b ++ [10]) = [a ++ [92], b] := by
      rw [phys_lf, show a ++ [92, 10] ++ b = (a ++ [92]) ++ 10 :: b by simp, sp10_app _ _ (by simp [a2]), sp10_one _ b2]
    rw [e]
    refine sp_end _ _ 2 (fun h => ?_) (by simp) (lg_two a b (cutm_on a a1 0 (Nat.zero_le _)) (cutm_pass b true 0 fun j hj _ => b1 j hj)) (by simp) htl
    cases a with
    | nil => simp at ha0
    | cons x r =>
      have := a3 x r rfl
      simpa [recp] using this
  · have e : phys (a ++ [32] ++ b ++ [10]) = [a ++ [32] ++ b] := by
      rw [phys_lf, sp10_one _ (by simp [a2, b2])]
    rw [e]
    refine sp_end _ _ 1 (fun h => ?_) (by simp) (lg_one _ (cutm_pass _ true 0 fun j hj _ => ?_)) (by simp) htl
    · cases a with
      | nil => simp at ha0
      | cons x r =>
        have := a3 x r rfl
        simpa [recp] using this
    · by_cases h1 : j < a.length
      · have : (a ++ [32] ++ b)[j] = a[j] := by simp [List.getElem_append, h1]
        rw [this]
        exact a1 j h1
      · by_cases h2 : j = a.length
        · subst h2
          simp
        · have hj' : j - (a.length + 1) < b.length := by simp at hj; omega
          have : (a ++ [32] ++ b)[j] = b[j - (a.length + 1)] := by
            rw [List.getElem_append_right (by simp; omega)]
            simp
          rw [this]
          exact b1 _ hj'
end Go.Ab
