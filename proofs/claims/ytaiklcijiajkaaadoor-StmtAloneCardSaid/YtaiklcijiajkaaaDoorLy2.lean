/- One text of a proof that a law of this seat says true for every input: a part of it. It holds of the given program under the conditions that the row prints. -/
import Derived.Test.YtaiklcijiajkaaaDoorLxF
set_option linter.unusedVariables false
set_option linter.unusedSimpArgs false
namespace Go.Ab

/-! # A line gives the same statement wherever it stands -/
theorem sp10_app2 : ∀ x y : List UInt8, sp10 (x ++ 10 :: y) = sp10 x ++ sp10 y
  | [], y => by simp [sp10]
  | b :: x, y => by
    have ih := sp10_app2 x y
    simp only [List.cons_append, sp10, ih]
    by_cases hb : b = 10
    · simp [hb]
    · rw [if_neg hb, if_neg hb]
      have := sp10_ne x
      cases hx : sp10 x with
      | nil => exact absurd hx this
      | cons p ps => simp
theorem phys_ahead (ahead : List UInt8) : phys (ahead ++ [10, 10]) = sp10 ahead ++ [[]] := by
  have : ahead ++ [10, 10] = (ahead ++ [10]) ++ [10] := by simp
  rw [this, phys_lf, sp10_app2]
  rfl
theorem phys_both (ahead text : List UInt8) (h10 : (10 : UInt8) ∉ text) (hne : text ≠ []) : phys (ahead ++ [10, 10] ++ text) = sp10 ahead ++ [[], text] := by
  have ht : Lib.trimSuffix text [10] = text := by
    unfold Lib.trimSuffix Lib.hasSuffix
    rw [if_neg]
    rw [List.isSuffixOf_iff_suffix]
    rintro ⟨t, rfl⟩
    simp at h10
  unfold phys
  rw [if_neg (by simp), split_sp10 _ _ (Nat.le_refl _), trimSuffix_app _ _ hne, ht]
  have : ahead ++ [10, 10] ++ text = ahead ++ 10 :: (10 :: text) := by simp
  rw [this, sp10_app2]
  have e : sp10 (10 :: text) = [] :: sp10 text := by simp [sp10]
  rw [e, sp10_one text h10]
theorem cutm_last (s : List UInt8) (i : Nat) : (cutm s true i).2.1 = false := by
  induction i using cutm.induct (s := s) (last := true) with
  | case1 i hi hc h2 =>
    unfold cutm
    simp [hi, hc, h2]
  | case2 i hi hc h2 ih =>
    unfold cutm
    simp only [hi, dif_pos, hc, if_pos, h2, dif_neg, not_false_eq_true]
    exact ih
  | case3 i hi hc h2 =>
    unfold cutm
    rw [dif_pos hi, if_neg hc, if_pos h2]
  | case4 i hi hc h2 h3 => simp at h3
  | case5 i hi hc h2 h3 ih =>
    unfold cutm
    rw [dif_pos hi, if_neg hc, if_neg h2, if_neg h3]
    exact ih
  | case6 i hi =>
    unfold cutm
    rw [dif_neg hi]
theorem cutm_nil (last : Bool) : cutm [] last 0 = ([], false, true) := by
  unfold cutm
  simp
section
variable (P : List (List UInt8)) (text : List UInt8)
theorem cut_pre (j : Nat) (hj : j < (P ++ [[]]).length) (hj2 : j < (P ++ [[], text]).length) :
    cutm (P ++ [[], text])[j] (j + 1 == (P ++ [[], text]).length) 0 = cutm (P ++ [[]])[j] (j + 1 == (P ++ [[]]).length) 0 := by
  by_cases h : j < P.length
  · have e1 : (P ++ [[], text])[j] = P[j] := List.getElem_append_left h
    have e2 : (P ++ [[]])[j] = P[j] := List.getElem_append_left h
    have f1 : (j + 1 == (P ++ [[], text]).length) = false := by rw [beq_eq_false_iff_ne]; simp; omega
    have f2 : (j + 1 == (P ++ [[]]).length) = false := by rw [beq_eq_false_iff_ne]; simp; omega
    rw [e1, e2, f1, f2]
  · have hj' : j = P.length := by simp at hj; omega
    subst hj'
    have e1 : (P ++ [[], text])[P.length] = [] := by simp
    have e2 : (P ++ [[]])[P.length] = [] := by simp
    rw [e1, e2, cutm_nil, cutm_nil]
theorem lgm_pre : ∀ (n i : Nat) (acc : List UInt8), (P ++ [[]]).length - i ≤ n → i < (P ++ [[]]).length → lgm (P ++ [[], text]) acc i = lgm (P ++ [[]]) acc i
  | 0, i, acc, hn, hi => by omega
  | n + 1, i, acc, hn, hi => by
    have hi2 : i < (P ++ [[], text]).length := by simp at hi ⊢; omega
    have hc := cut_pre P text i hi hi2
    unfold lgm
    rw [dif_pos hi, dif_pos hi2, hc]
    split
    · rfl
    · split
      · rename_i h1 h2
        by_cases hl : i + 1 < (P ++ [[]]).length
        · exact lgm_pre n (i + 1) _ (by omega) hl
        · exfalso
          have hj' : i = P.length := by simp at hi hl; omega
          subst hj'
          have e2 : (P ++ [[]])[P.length]'hi = [] := by simp
          rw [e2, cutm_nil] at h2
          simp at h2
      · rfl
theorem spm_pre : ∀ (n i : Nat) (acc ls : List Ln), (P ++ [[]]).length - i ≤ n → i ≤ (P ++ [[]]).length → spm (P ++ [[]]) acc i = .inl ls → spm (P ++ [[], text]) acc i = spm (P ++ [[], text]) ls (P.length + 1)
  | n, i, acc, ls, hn, hi, h => by
    by_cases hil : i < (P ++ [[]]).length
    · have hi2 : i < (P ++ [[], text]).length := by simp at hil ⊢; omega
      have hel : (P ++ [[], text])[i] = (P ++ [[]])[i] := by
        by_cases h3 : i < P.length
        · rw [List.getElem_append_left h3, List.getElem_append_left h3]
        · have hj' : i = P.length := by simp at hil; omega
          subst hj'
          simp
      cases n with
      | zero => omega
      | succ n =>
        unfold spm at h
        rw [dif_pos hil] at h
        conv => lhs; unfold spm
        rw [dif_pos hi2, hel]
        split at h
        · rename_i hr
          rw [if_pos hr]
          split at h
          · simp at h
          · rename_i h4
            rw [if_neg h4]
            exact spm_pre n (i + 1) _ ls (by omega) (by omega) h
        · rename_i hr
          rw [if_neg hr]
          have hl := lgm_pre P text _ i [] (Nat.le_refl _) hil
          split at h
          · simp at h
          · rename_i t m hm
            have hnx := lgm_next _ _ _ _ _ hm
            split at h
            · simp at h
            · rename_i h4
              have hm2 : lgm (P ++ [[], text]) [] i = .inl (t, m) := hl.trans hm
              split
              · rename_i n' hm3
                rw [hm2] at hm3
                simp at hm3
              · rename_i t' m' hm3
                rw [hm2] at hm3
                simp only [Sum.inl.injEq, Prod.mk.injEq] at hm3
                obtain ⟨rfl, rfl⟩ := hm3
                rw [if_neg h4]
                exact spm_pre n m _ ls (by omega) hnx.2 h
    · have hie : i = P.length + 1 := by simp at hi hil; omega
      unfold spm at h
      rw [dif_neg hil] at h
      simp only [Sum.inl.injEq] at h
      subst h
      rw [hie]
theorem spm_last (ls : List Ln) (hr : recp text = false) (lb : List Ln) (h : spm [text] [] 0 = .inl lb) : ∃ t, lb = [⟨t, 1, false⟩] ∧ spm (P ++ [[], text]) ls (P.length + 1) = .inl (ls ++ [⟨t, P.length + 2, false⟩]) := by
  have hi : P.length + 1 < (P ++ [[], text]).length := by simp
  have he : (P ++ [[], text])[P.length + 1] = text := by simp
  have hl := cutm_last text 0
  have hf : (P.length + 1 + 1 == (P ++ [[], text]).length) = true := by simp
  have hlg1 : lgm [text] [] 0 = if (cutm text true 0).2.2 = false then .inr 1 else .inl ((cutm text true 0).1, 1) := by
    unfold lgm
    simp [hl]
  have hlg2 : lgm (P ++ [[], text]) [] (P.length + 1) = if (cutm text true 0).2.2 = false then .inr (P.length + 2) else .inl ((cutm text true 0).1, P.length + 2) := by
    unfold lgm
    rw [dif_pos hi, he, hf]
    simp [hl]
  have hend : ∀ acc, spm [text] acc 1 = .inl acc := fun acc => by
    unfold spm
    simp
  have hend2 : ∀ acc, spm (P ++ [[], text]) acc (P.length + 2) = .inl acc := fun acc => by
    unfold spm
    simp
  unfold spm at h
  rw [dif_pos (by simp)] at h
  conv at h => lhs; rw [if_neg (by simp [hr])]
  conv => rhs; ext t; rhs; lhs; unfold spm
  split at h
  · simp at h
  · rename_i t m hm
    rw [hlg1] at hm
    split at hm
    · simp at hm
    · rename_i h2
      rw [if_neg h2] at hlg2
      simp only [Sum.inl.injEq, Prod.mk.injEq] at hm
      obtain ⟨rfl, rfl⟩ := hm
      split at h
      · simp at h
      · rename_i h4
        rw [hend] at h
        simp only [Sum.inl.injEq, List.nil_append, Nat.zero_add] at h
        refine ⟨_, h.symm, ?_⟩
        rw [dif_pos hi, he, if_neg (by simp [hr])]
        split
        · rename_i n' hm3
          rw [hlg2] at hm3
          simp at hm3
        · rename_i t' m' hm3
          rw [hlg2] at hm3
          simp only [Sum.inl.injEq, Prod.mk.injEq] at hm3
          obtain ⟨rfl, rfl⟩ := hm3
          rw [if_neg h4, hend2]
end
theorem pParse_app (l : Li) (hc : l.cell = false) : ∀ (A : List Li) (out a : List Sm) (op : Bool), pParse A out op = .inl a → pParse (A ++ [l]) out op = (if l.text = [] then .inl a else match pOneS l.text with | .inr e => .inr (e, l.num) | .inl s => .inl (a ++ [{ s with line := l.num }]))
  | [], out, a, op, h => by
    unfold pParse at h
    simp only [Sum.inl.injEq] at h
    subst h
    simp only [List.nil_append]
    unfold pParse
    simp only [hc, Bool.false_eq_true, false_and, if_false, false_or]
    split
    · simp [pParse]
    · cases pOneS l.text with
      | inr e => rfl
      | inl s => simp [pParse]
  | x :: A, out, a, op, h => by
    simp only [List.cons_append]
    unfold pParse at h ⊢
    split at h
    · rename_i h1
      rw [if_pos h1]
      exact pParse_app l hc A _ a _ h
    · rename_i h1
      rw [if_neg h1]
      split at h
      · simp at h
      · rename_i h2
        rw [if_neg h2]
        split at h
        · rename_i h3
          rw [if_pos h3]
          exact pParse_app l hc A _ a _ h
        · rename_i h3
          rw [if_neg h3]
          split at h
          · simp at h
          · exact pParse_app l hc A _ a _ h
/-- Numbers that rise, each above one. -/
def rises : Int → List Int → Prop
  | _, [] => True
  | m, x :: r => m < x ∧ rises x r
theorem addRec_line (out : List Sm) (t : List UInt8) : (addRec out t).map Sm.line = out.map Sm.line := by
  unfold addRec
  split
  · rename_i s h
    obtain ⟨pre, rfl⟩ := List.getLast?_eq_some_iff.1 h
    simp
  · rfl
theorem rises_snoc : ∀ (l : List Int) (m y : Int), rises m l → (∀ x ∈ l, x < y) → m < y → rises m (l ++ [y])
  | [], m, y, h, h2, h3 => ⟨h3, trivial⟩
  | x :: l, m, y, h, h2, h3 => ⟨h.1, rises_snoc l x y h.2 (fun z hz => h2 z (by simp [hz])) (h2 x (by simp))⟩
theorem pParse_rise : ∀ (A : List Li) (out a : List Sm) (op : Bool) (m : Int), pParse A out op = .inl a → 0 ≤ m → rises 0 (out.map Sm.line) → (∀ x ∈ out.map Sm.line, x ≤ m) → rises m (A.map Li.num) → rises 0 (a.map Sm.line) ∧ ∀ x ∈ a.map Sm.line, x ≤ m ∨ ∃ l ∈ A, x ≤ l.num
  | [], out, a, op, m, h, hm, h1, h2, h3 => by
    unfold pParse at h
    simp only [Sum.inl.injEq] at h
    subst h
    exact ⟨h1, fun x hx => .inl (h2 x hx)⟩
  | x :: A, out, a, op, m, h, hm, h1, h2, h3 => by
    have hmx : m < x.num := h3.1
    have h3' : rises x.num (A.map Li.num) := h3.2
    have fin : ∀ (out' : List Sm) (op' : Bool), pParse A out' op' = .inl a → rises 0 (out'.map Sm.line) → (∀ y ∈ out'.map Sm.line, y ≤ x.num) → rises 0 (a.map Sm.line) ∧ ∀ y ∈ a.map Sm.line, y ≤ m ∨ ∃ l ∈ x :: A, y ≤ l.num := fun out' op' e1 e2 e3 => by
      obtain ⟨r1, r2⟩ := pParse_rise A out' a op' x.num e1 (by omega) e2 e3 h3'
      refine ⟨r1, fun y hy => .inr ?_⟩
      rcases r2 y hy with r | ⟨l, hl, r⟩
      · exact ⟨x, by simp, r⟩
      · exact ⟨l, by simp [hl], r⟩
    have h2' : ∀ y ∈ out.map Sm.line, y ≤ x.num := fun y hy => by have := h2 y hy; omega
    unfold pParse at h
    split at h
    · exact fin _ _ h (by rw [addRec_line]; exact h1) (by rw [addRec_line]; exact h2')
    · split at h
      · simp at h
      · split at h
        · exact fin _ _ h h1 h2'
        · split at h
          · simp at h
          · refine fin _ _ h ?_ ?_
            · rw [List.map_append]
              exact rises_snoc _ _ _ h1 (fun z hz => by have := h2 z hz; simp only; omega) (by simp only; omega)
            · intro y hy
              rw [List.map_append] at hy
              rcases List.mem_append.1 hy with hy | hy
              · exact h2' y hy
              · simp at hy
                omega
theorem rises_of (n : Nat) : ∀ (last : Nat) (r : List Ln), riseB n last r = true → rises last ((r.map lnLi).map Li.num) ∧ ∀ l ∈ r.map lnLi, l.num ≤ n
  | last, [], h => ⟨trivial, fun l hl => by simp at hl⟩
  | last, x :: r, h => by
    simp only [riseB, Bool.and_eq_true, decide_eq_true_eq] at h
    obtain ⟨h1, h2⟩ := rises_of n x.num r h.2
    refine ⟨⟨by simp only [lnLi]; omega, h1⟩, fun l hl => ?_⟩
    simp only [List.map_cons, List.mem_cons] at hl
    rcases hl with rfl | hl
    · simp only [lnLi]
      omega
    · exact h2 l hl
theorem alone_law (ahead text : List UInt8) (hA : ahead.length ≤ 800) (hT : text.length ≤ 300) (h10 : (10 : UInt8) ∉ text) (hne : text ≠ []) (hg : recp text = false) (a b : List Sm) (ha : pOf (ahead ++ [10, 10]) = .inl a) (hb : pOf text = .inl b) :
    rises 0 (a.map Sm.line) ∧ ((b = [] ∧ pOf (ahead ++ [10, 10] ++ text) = .inl a) ∨ ∃ s n, b = [s] ∧ pOf (ahead ++ [10, 10] ++ text) = .inl (a ++ [{ s with line := n }]) ∧ 0 < n ∧ ∀ x ∈ a.map Sm.line, x < n) := by
  unfold pOf at ha hb ⊢
  have l1 : ¬ 4000 < (ahead ++ [10, 10]).length := by simp; omega
  have l2 : ¬ 4000 < text.length := by omega
  have l3 : ¬ 4000 < (ahead ++ [10, 10] ++ text).length := by simp; omega
  rw [if_neg l1, phys_ahead] at ha
  rw [if_neg l2, phys_one text h10 hne] at hb
  rw [if_neg l3, phys_both ahead text h10 hne]
  generalize sp10 ahead = P at *
  cases hs1 : spm (P ++ [[]]) [] 0 with
  | inr e =>
    rw [hs1] at ha
    simp at ha
  | inl ls =>
    rw [hs1] at ha
    cases hs2 : spm [text] [] 0 with
    | inr e =>
      rw [hs2] at hb
      simp at hb
    | inl lb =>
      rw [hs2] at hb
      obtain ⟨t, rfl, hs3⟩ := spm_last P text ls hg lb hs2
      rw [spm_pre P text _ 0 [] ls (Nat.le_refl _) (Nat.zero_le _) hs1, hs3]
      simp only [List.map_append, List.map_cons, List.map_nil] at hb ⊢
      simp only at ha
      obtain ⟨r, e1, e2, _, _⟩ := whole_law _ [] 0 ls (Nat.zero_le _) hs1
      simp only [List.nil_append] at e1
      subst e1
      obtain ⟨q1, q2⟩ := rises_of _ 0 ls e2
      obtain ⟨q3, q4⟩ := pParse_rise _ [] a false 0 ha (Int.le_refl _) trivial (fun x hx => by simp at hx) q1
      refine ⟨q3, ?_⟩
      rw [pParse_app (lnLi ⟨t, P.length + 2, false⟩) rfl _ _ a _ ha]
      have hb2 := pParse_app (lnLi ⟨t, 1, false⟩) rfl [] [] [] false (by simp [pParse])
      simp only [List.nil_append] at hb2
      rw [hb2] at hb
      simp only [lnLi] at hb ⊢
      by_cases ht : t = []
      · simp only [ht, if_true, Sum.inl.injEq] at hb ⊢
        exact .inl ⟨hb.symm, trivial⟩
      · simp only [ht, if_false] at hb ⊢
        cases ho : pOneS t with
        | inr e =>
          rw [ho] at hb
          simp at hb
        | inl s =>
          rw [ho] at hb
          simp only [Sum.inl.injEq] at hb
          refine .inr ⟨{ s with line := 1 }, (P.length + 2 : Nat), by simpa using hb.symm, rfl, by omega, fun x hx => ?_⟩
          rcases q4 x hx with h5 | ⟨l, hl, h5⟩
          · omega
          · have := q2 l hl
            simp at this
            omega
end Go.Ab
