/- One text of a proof that a law of this seat says true for every input: the lines of a text. It holds of the given program under the conditions that the row prints. -/
import Derived.Test.YticphlljahcmkaaDoorLnB
set_option linter.unusedVariables false
set_option linter.unusedSimpArgs false
namespace Go.Ab

/-- Do numbers rise, from one on up to another? -/
def riseB (n : Nat) : Nat → List Ln → Bool
  | _, [] => true
  | last, x :: r => decide (last < x.num) && decide (x.num ≤ n) && riseB n x.num r
theorem riseB_le {n a b : Nat} (h : b ≤ a) : ∀ {r : List Ln}, riseB n a r = true → riseB n b r = true
  | [], _ => rfl
  | x :: r, hr => by
    simp only [riseB, Bool.and_eq_true, decide_eq_true_eq] at hr ⊢
    exact ⟨⟨by omega, hr.1.2⟩, hr.2⟩
/-- A byte without a meaning of its own. -/
def dull (b : UInt8) : Bool := decide (b ≠ 39 ∧ b ≠ 92 ∧ b ≠ 35)
theorem sp10_sub : ∀ (l x : List UInt8), x ∈ sp10 l → ∀ b ∈ x, b ∈ l
  | [], x, hx, b, hb => by
    simp [sp10] at hx
    subst hx
    simp at hb
  | c :: l, x, hx, b, hb => by
    have ih := sp10_sub l
    simp only [sp10] at hx
    split at hx
    · rcases List.mem_cons.1 hx with rfl | hx
      · simp at hb
      · exact List.mem_cons_of_mem _ (ih x hx b hb)
    · split at hx
      · rename_i p ps hp
        rcases List.mem_cons.1 hx with rfl | hx
        · rcases List.mem_cons.1 hb with rfl | hb
          · simp
          · exact List.mem_cons_of_mem _ (ih p (by rw [hp]; simp) b hb)
        · exact List.mem_cons_of_mem _ (ih x (by rw [hp]; simp [hx]) b hb)
      · simp at hx
        subst hx
        simp at hb
        simp [hb]
theorem trimSuffix_sub (l p : List UInt8) : ∀ b ∈ Lib.trimSuffix l p, b ∈ l := by
  unfold Lib.trimSuffix
  split
  · exact fun b hb => List.mem_of_mem_take hb
  · exact fun b hb => hb
theorem phys_dull (l : List UInt8) (h : ∀ b ∈ l, dull b = true) : ∀ x ∈ phys l, ∀ b ∈ x, dull b = true := by
  unfold phys
  split
  · simp
  · rw [split_sp10 _ _ (Nat.le_refl _)]
    exact fun x hx b hb => h b (trimSuffix_sub _ _ b (sp10_sub _ _ hx b hb))
theorem lgm_dull (xs : List (List UInt8)) (h : ∀ x ∈ xs, ∀ b ∈ x, dull b = true) (i : Nat) (hi : i < xs.length) : lgm xs [] i = .inl (xs[i], i + 1) := by
  have hc : cutm xs[i] (i + 1 == xs.length) 0 = (xs[i], false, true) := cutm_pass _ _ _ fun j hj _ => by
    have := h xs[i] (List.getElem_mem hi) xs[i][j] (List.getElem_mem hj)
    simp [dull] at this
    exact ⟨this.1, this.2.2, this.2.1⟩
  unfold lgm
  rw [dif_pos hi, if_neg (by rw [hc]; simp), if_neg (by rw [hc]; simp), hc]
  rfl
/-- EACH PHYSICAL LINE BELONGS TO ONE LINE. -/
theorem whole_law (xs : List (List UInt8)) (acc : List Ln) (i : Nat) (ls : List Ln) (hi : i ≤ xs.length) (h : spm xs acc i = .inl ls) :
    ∃ r, ls = acc ++ r ∧ riseB xs.length i r = true ∧ r.length ≤ xs.length - i ∧ ((∀ x ∈ xs, ∀ b ∈ x, dull b = true) → r.length = xs.length - i) := by
  induction hk : xs.length - i using Nat.strongRecOn generalizing i acc with
  | _ k ih =>
    unfold spm at h
    by_cases hil : i < xs.length
    · rw [dif_pos hil] at h
      have step : ∀ (x : Ln) (n : Nat), x.num = i + 1 → i < n → n ≤ xs.length → spm xs (acc ++ [x]) n = .inl ls → ((∀ x ∈ xs, ∀ b ∈ x, dull b = true) → n = i + 1) →
          ∃ r, ls = acc ++ r ∧ riseB xs.length i r = true ∧ r.length ≤ xs.length - i ∧ ((∀ x ∈ xs, ∀ b ∈ x, dull b = true) → r.length = xs.length - i) := by
        intro x n hx hn hn2 hs hd
        obtain ⟨r, e1, e2, e3, e4⟩ := ih (xs.length - n) (by omega) (acc ++ [x]) n hn2 hs rfl
        refine ⟨x :: r, by rw [e1]; simp, ?_, by simp; omega, fun hp => by have := e4 hp; have := hd hp; simp; omega⟩
        simp only [riseB, Bool.and_eq_true, decide_eq_true_eq, hx]
        exact ⟨⟨by omega, by omega⟩, riseB_le (by omega) e2⟩
      by_cases hr : recp xs[i] = true
      · rw [if_pos hr] at h
        split at h
        · simp at h
        · exact hk ▸ step _ _ rfl (by omega) (by omega) h fun _ => rfl
      · rw [if_neg hr] at h
        split at h
        · simp at h
        · rename_i t n hm
          split at h
          · simp at h
          · have hnx := lgm_next xs [] i t n hm
            refine hk ▸ step _ _ rfl hnx.1 hnx.2 h fun hp => ?_
            rw [lgm_dull xs hp i hil] at hm
            simp only [Sum.inl.injEq, Prod.mk.injEq] at hm
            exact hm.2.symm
    · rw [dif_neg hil] at h
      simp only [Sum.inl.injEq] at h
      subst h
      exact ⟨[], by simp, rfl, by simp, fun _ => by simp; omega⟩
end Go.Ab
