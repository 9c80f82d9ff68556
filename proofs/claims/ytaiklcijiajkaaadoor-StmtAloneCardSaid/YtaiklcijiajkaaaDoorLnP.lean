/- One text of a proof that a law of this seat says true for every input: the lines of a text. It holds of the given program under the conditions that the row prints. -/
import Derived.Lib.Split
import Derived.Test.YtaiklcijiajkaaaDoorLnA
set_option linter.unusedVariables false
set_option linter.unusedSimpArgs false
namespace Go.Ab

/-- A text cut at its line feeds. -/
def sp10 : List UInt8 → List (List UInt8)
  | [] => [[]]
  | b :: l => if b = 10 then [] :: sp10 l else (match sp10 l with | p :: ps => (b :: p) :: ps | [] => [[b]])
theorem sp10_ne (l : List UInt8) : sp10 l ≠ [] := by
  cases l with
  | nil => simp [sp10]
  | cons b l =>
    simp only [sp10]
    split
    · simp
    · split <;> simp
theorem sp10_app (a b : List UInt8) (h : (10 : UInt8) ∉ a) : sp10 (a ++ 10 :: b) = a :: sp10 b := by
  induction a with
  | nil => simp [sp10]
  | cons x a ih =>
    simp only [List.mem_cons, not_or] at h
    simp only [List.cons_append, sp10, ih h.2]
    rw [if_neg (fun e => h.1 e.symm)]
theorem sp10_one (a : List UInt8) (h : (10 : UInt8) ∉ a) : sp10 a = [a] := by
  induction a with
  | nil => rfl
  | cons x a ih =>
    simp only [List.mem_cons, not_or] at h
    simp only [sp10, ih h.2]
    rw [if_neg (fun e => h.1 e.symm)]
theorem sp10_len (l : List UInt8) : ((sp10 l).map List.length).sum + (sp10 l).length = l.length + 1 := by
  induction l with
  | nil => rfl
  | cons b l ih =>
    simp only [sp10]
    split
    · simp only [List.map_cons, List.sum_cons, List.length_nil, List.length_cons]
      omega
    · have := sp10_ne l
      cases hp : sp10 l with
      | nil => exact absurd hp this
      | cons p ps =>
        rw [hp] at ih
        simp only [List.map_cons, List.sum_cons, List.length_cons] at ih ⊢
        omega
theorem ix_none (l : List UInt8) (h : (10 : UInt8) ∉ l) : Lib.index l [10] = -1 := by
  induction l with
  | nil => rfl
  | cons b l ih =>
    simp only [List.mem_cons, not_or] at h
    unfold Lib.index
    rw [ih h.2]
    have : ¬ (10 : UInt8) = b := h.1
    simp [List.isPrefixOf, this]
theorem ix_some (a b : List UInt8) (h : (10 : UInt8) ∉ a) : Lib.index (a ++ 10 :: b) [10] = a.length := by
  induction a with
  | nil => simp [Lib.index, List.isPrefixOf]
  | cons x a ih =>
    simp only [List.mem_cons, not_or] at h
    rw [List.cons_append]
    unfold Lib.index
    rw [ih h.2]
    have : ¬ (10 : UInt8) = x := h.1
    have h2 : ¬ ((a.length : Int) == -1) = true := by simp
    simp only [List.isPrefixOf, beq_iff_eq, this, Bool.false_and, List.length_cons, h2, if_false]
    simp [this]
theorem first10 (l : List UInt8) : (10 : UInt8) ∉ l ∨ ∃ a b, l = a ++ 10 :: b ∧ (10 : UInt8) ∉ a := by
  induction l with
  | nil => exact .inl (by simp)
  | cons x l ih =>
    by_cases hx : x = 10
    · exact .inr ⟨[], l, by simp [hx], by simp⟩
    · rcases ih with h | ⟨a, b, rfl, h⟩
      · exact .inl (by simp [h, Ne.symm hx])
      · exact .inr ⟨x :: a, b, rfl, by simp [h]; exact fun e => hx e.symm⟩
theorem split_sp10 : ∀ (n : Nat) (l : List UInt8), l.length ≤ n → Lib.split l [10] = sp10 l := by
  intro n
  induction n with
  | zero =>
    intro l hl
    have : l = [] := List.eq_nil_of_length_eq_zero (by omega)
    subst this
    rfl
  | succ n ih =>
    intro l hl
    rcases first10 l with h | ⟨a, b, rfl, h⟩
    · rw [sp10_one l h]
      unfold Lib.split
      rw [Lib.count_miss (ix_none l h)]
      rfl
    · have hix := ix_some a b h
      rw [sp10_app a b h]
      have hc := Lib.count_hit (s := a ++ 10 :: b) (sub := [10]) (i := a.length) (by simp) hix
      have hd : (a ++ 10 :: b).drop (a.length + [(10 : UInt8)].length) = b := by
        rw [← List.drop_drop]
        simp
      rw [hd] at hc
      unfold Lib.split
      rw [hc, Nat.add_comm 1]
      unfold Lib.splitK
      rw [hix]
      have h2 : ¬ ((a.length : Int) == -1) = true := by simp
      rw [if_neg h2]
      simp only [Int.toNat_natCast, Nat.add_zero]
      rw [hd]
      have e1 : (a ++ 10 :: b).take a.length = a := by simp
      rw [e1]
      have := ih b (by simp at hl; omega)
      unfold Lib.split at this
      rw [this]
end Go.Ab

set_option linter.unusedVariables false
set_option linter.unusedSimpArgs false
set_option maxRecDepth 100000
namespace Go.Ab
open Go.Proofs
theorem cutm_pass (s : List UInt8) (last : Bool) (i : Nat) (h : ∀ (j : Nat) (hj : j < s.length), i ≤ j → s[j] ≠ 39 ∧ s[j] ≠ 35 ∧ s[j] ≠ 92) : cutm s last i = (s, false, true) := by
  induction i using cutm.induct (s := s) (last := last) with
  | case1 i hi hc h2 => exact absurd hc (h i hi (Nat.le_refl _)).1
  | case2 i hi hc h2 ih => exact absurd hc (h i hi (Nat.le_refl _)).1
  | case3 i hi hc h2 => exact absurd h2 (h i hi (Nat.le_refl _)).2.1
  | case4 i hi hc h2 h3 => exact absurd h3.1 (h i hi (Nat.le_refl _)).2.2
  | case5 i hi hc h2 h3 ih =>
    have e : cutm s last i = cutm s last (i + 1) := by
      conv => lhs; unfold cutm
      rw [dif_pos hi, if_neg hc, if_neg h2, if_neg h3]
    rw [e]
    exact ih fun j hj hij => h j hj (by omega)
  | case6 i hi =>
    unfold cutm
    rw [dif_neg hi]
theorem trim_lf (l : List UInt8) : Lib.trimSuffix (l ++ [10]) [10] = l := by
  unfold Lib.trimSuffix Lib.hasSuffix
  have : [(10 : UInt8)].isSuffixOf (l ++ [10]) = true := by
    rw [List.isSuffixOf_iff_suffix]
    exact ⟨l, rfl⟩
  rw [if_pos this]
  simp
theorem phys_lf (l : List UInt8) : phys (l ++ [10]) = sp10 l := by
  unfold phys
  rw [if_neg (by simp), trim_lf, split_sp10 _ _ (Nat.le_refl _)]
theorem dropWhile_le {α : Type} (p : α → Bool) (l : List α) : (l.dropWhile p).length ≤ l.length := (List.dropWhile_sublist p).length_le
theorem trimS_le (l cs : List UInt8) : (Lib.trimS l cs).length ≤ l.length := by
  unfold Lib.trimS Lib.trimLeftS Lib.trimRightS
  refine Nat.le_trans (dropWhile_le _ _) ?_
  rw [List.length_reverse]
  exact Nat.le_trans (dropWhile_le _ _) (by simp)
/-- LINES THAT ARE JOINED ARE ONE. -/
theorem phys_bounds (l : List UInt8) : (phys l).length ≤ l.length + 1 ∧ ((phys l).map List.length).sum ≤ l.length := by
  unfold phys
  split
  · simp
  · rw [split_sp10 _ _ (Nat.le_refl _)]
    have h1 := sp10_len (Lib.trimSuffix l [10])
    have h2 := trimSuffix_le l [10]
    have h3 : 0 < (sp10 (Lib.trimSuffix l [10])).length := List.length_pos_iff.2 (sp10_ne _)
    omega
theorem F37_at (el eq : D) (l : List UInt8) (h : l.length < 4294966000) : F37 el eq [.s l] = some (spF el eq l) := by
  have := phys_bounds l
  simp only [F37]
  rw [if_pos (by omega)]
def riseB (n : Nat) : Nat → List Ln → Bool
  | _, [] => true
  | last, x :: r => decide (last < x.num) && decide (x.num ≤ n) && riseB n x.num r
theorem riseB_le {n a b : Nat} (h : b ≤ a) : ∀ {r : List Ln}, riseB n a r = true → riseB n b r = true
  | [], _ => rfl
  | x :: r, hr => by
    simp only [riseB, Bool.and_eq_true, decide_eq_true_eq] at hr ⊢
    exact ⟨⟨by omega, hr.1.2⟩, hr.2⟩
/-- A byte without a meaning of its own. -/
def dull (b : UInt8) : Bool := decide (b ≠ 39 ∧ b ≠ 92 ∧ b ≠ 35)
theorem sp10_sub : ∀ (l x : List UInt8), x ∈ sp10 l → ∀ b ∈ x, b ∈ l
  | [], x, hx, b, hb => by
    simp [sp10] at hx
    subst hx
    simp at hb
  | c :: l, x, hx, b, hb => by
    have ih := sp10_sub l
    simp only [sp10] at hx
    split at hx
    · rcases List.mem_cons.1 hx with rfl | hx
      · simp at hb
      · exact List.mem_cons_of_mem _ (ih x hx b hb)
    · split at hx
      · rename_i p ps hp
        rcases List.mem_cons.1 hx with rfl | hx
        · rcases List.mem_cons.1 hb with rfl | hb
          · simp
          · exact List.mem_cons_of_mem _ (ih p (by rw [hp]; simp) b hb)
        · exact List.mem_cons_of_mem _ (ih x (by rw [hp]; simp [hx]) b hb)
      · simp at hx
        subst hx
        simp at hb
        simp [hb]
theorem trimSuffix_sub (l p : List UInt8) : ∀ b ∈ Lib.trimSuffix l p, b ∈ l := by
  unfold Lib.trimSuffix
  split
  · exact fun b hb => List.mem_of_mem_take hb
  · exact fun b hb => hb
theorem phys_dull (l : List UInt8) (h : ∀ b ∈ l, dull b = true) : ∀ x ∈ phys l, ∀ b ∈ x, dull b = true := by
  unfold phys
  split
  · simp
  · rw [split_sp10 _ _ (Nat.le_refl _)]
    exact fun x hx b hb => h b (trimSuffix_sub _ _ b (sp10_sub _ _ hx b hb))
theorem lgm_dull (xs : List (List UInt8)) (h : ∀ x ∈ xs, ∀ b ∈ x, dull b = true) (i : Nat) (hi : i < xs.length) : lgm xs [] i = .inl (xs[i], i + 1) := by
  have hc : cutm xs[i] (i + 1 == xs.length) 0 = (xs[i], false, true) := cutm_pass _ _ _ fun j hj _ => by
    have := h xs[i] (List.getElem_mem hi) xs[i][j] (List.getElem_mem hj)
    simp [dull] at this
    exact ⟨this.1, this.2.2, this.2.1⟩
  unfold lgm
  rw [dif_pos hi, if_neg (by rw [hc]; simp), if_neg (by rw [hc]; simp), hc]
  rfl
/-- EACH PHYSICAL LINE BELONGS TO ONE LINE. -/
theorem whole_law (xs : List (List UInt8)) (acc : List Ln) (i : Nat) (ls : List Ln) (hi : i ≤ xs.length) (h : spm xs acc i = .inl ls) :
    ∃ r, ls = acc ++ r ∧ riseB xs.length i r = true ∧ r.length ≤ xs.length - i ∧ ((∀ x ∈ xs, ∀ b ∈ x, dull b = true) → r.length = xs.length - i) := by
  induction hk : xs.length - i using Nat.strongRecOn generalizing i acc with
  | _ k ih =>
    unfold spm at h
    by_cases hil : i < xs.length
    · rw [dif_pos hil] at h
      have step : ∀ (x : Ln) (n : Nat), x.num = i + 1 → i < n → n ≤ xs.length → spm xs (acc ++ [x]) n = .inl ls → ((∀ x ∈ xs, ∀ b ∈ x, dull b = true) → n = i + 1) →
          ∃ r, ls = acc ++ r ∧ riseB xs.length i r = true ∧ r.length ≤ xs.length - i ∧ ((∀ x ∈ xs, ∀ b ∈ x, dull b = true) → r.length = xs.length - i) := by
        intro x n hx hn hn2 hs hd
        obtain ⟨r, e1, e2, e3, e4⟩ := ih (xs.length - n) (by omega) (acc ++ [x]) n hn2 hs rfl
        refine ⟨x :: r, by rw [e1]; simp, ?_, by simp; omega, fun hp => by have := e4 hp; have := hd hp; simp; omega⟩
        simp only [riseB, Bool.and_eq_true, decide_eq_true_eq, hx]
        exact ⟨⟨by omega, by omega⟩, riseB_le (by omega) e2⟩
      by_cases hr : recp xs[i] = true
      · rw [if_pos hr] at h
        split at h
        · simp at h
        · exact hk ▸ step _ _ rfl (by omega) (by omega) h fun _ => rfl
      · rw [if_neg hr] at h
        split at h
        · simp at h
        · rename_i t n hm
          split at h
          · simp at h
          · have hnx := lgm_next xs [] i t n hm
            refine hk ▸ step _ _ rfl hnx.1 hnx.2 h fun hp => ?_
            rw [lgm_dull xs hp i hil] at hm
            simp only [Sum.inl.injEq, Prod.mk.injEq] at hm
            exact hm.2.symm
    · rw [dif_neg hil] at h
      simp only [Sum.inl.injEq] at h
      subst h
      exact ⟨[], by simp, rfl, by simp, fun _ => by simp; omega⟩
end Go.Ab

set_option linter.unusedVariables false
set_option linter.unusedSimpArgs false
namespace Go.Ab

/-! # The document's lines are the program's -/
/-- ref12.Lines, its loop -/
def r12lines (s : List UInt8) (out : List (List UInt8)) (frm i : Nat) : List (List UInt8) × Nat :=
  if h : i < s.length then
    if s[i] = 10 then r12lines s (out ++ [(s.take i).drop frm]) (i + 1) (i + 1) else r12lines s out frm (i + 1)
  else (out, frm)
termination_by s.length - i
def r12fin (s : List UInt8) (r : List (List UInt8) × Nat) : List (List UInt8) := if r.2 < s.length then r.1 ++ [s.drop r.2] else r.1
theorem trimSuffix_app (a b : List UInt8) (hb : b ≠ []) : Lib.trimSuffix (a ++ b) [10] = a ++ Lib.trimSuffix b [10] := by
  have hs : Lib.hasSuffix (a ++ b) [10] = Lib.hasSuffix b [10] := by
    unfold Lib.hasSuffix
    rw [Bool.eq_iff_iff, List.isSuffixOf_iff_suffix, List.isSuffixOf_iff_suffix]
    constructor
    · rintro ⟨t, ht⟩
      obtain ⟨c, hc⟩ : ∃ c, b = c ++ [b.getLast hb] := ⟨_, (List.dropLast_concat_getLast hb).symm⟩
      rw [hc, ← List.append_assoc] at ht
      have := List.append_inj_right' ht rfl
      simp at this
      rw [hc]
      exact ⟨c, by rw [this]⟩
    · rintro ⟨t, rfl⟩
      exact ⟨a ++ t, by simp⟩
  have hl : 0 < b.length := List.length_pos_iff.2 hb
  unfold Lib.trimSuffix
  rw [hs]
  split
  · rw [List.take_append]
    simp only [List.length_append, List.length_cons, List.length_nil]
    rw [List.take_of_length_le (by omega)]
    congr 2
    omega
  · rfl
theorem phys_cons (a b : List UInt8) (h : (10 : UInt8) ∉ a) : phys (a ++ 10 :: b) = a :: phys b := by
  by_cases hb : b = []
  · subst hb
    rw [phys_lf, sp10_one a h]
    rfl
  · unfold phys
    rw [if_neg (by simp), if_neg hb, split_sp10 _ _ (Nat.le_refl _), split_sp10 _ _ (Nat.le_refl _)]
    have : a ++ 10 :: b = (a ++ [10]) ++ b := by simp
    rw [this, trimSuffix_app _ _ hb, List.append_assoc, List.singleton_append, sp10_app _ _ h]
theorem phys_one (a : List UInt8) (h : (10 : UInt8) ∉ a) (ha : a ≠ []) : phys a = [a] := by
  unfold phys
  rw [if_neg ha, split_sp10 _ _ (Nat.le_refl _)]
  have : Lib.trimSuffix a [10] = a := by
    unfold Lib.trimSuffix Lib.hasSuffix
    rw [if_neg]
    rw [List.isSuffixOf_iff_suffix]
    rintro ⟨t, rfl⟩
    simp at h
  rw [this, sp10_one a h]
theorem r12lines_phys (s : List UInt8) (out : List (List UInt8)) (frm i : Nat) (h1 : frm ≤ i) (h2 : i ≤ s.length) (h3 : (10 : UInt8) ∉ (s.take i).drop frm) : r12fin s (r12lines s out frm i) = out ++ phys (s.drop frm) := by
  induction hk : s.length - i generalizing out frm i with
  | zero =>
    have : i = s.length := by omega
    subst this
    unfold r12lines
    rw [dif_neg (by omega)]
    rw [List.take_length] at h3
    unfold r12fin
    by_cases hf : frm < s.length
    · rw [if_pos hf, phys_one _ h3 (by simp; omega)]
    · rw [if_neg hf, List.drop_of_length_le (by omega)]
      simp [phys]
  | succ k ih =>
    have hi : i < s.length := by omega
    unfold r12lines
    rw [dif_pos hi]
    by_cases hc : s[i] = 10
    · rw [if_pos hc, ih _ _ _ (Nat.le_refl _) hi (by simp) (by omega)]
      have e : s.drop frm = (s.take i).drop frm ++ 10 :: s.drop (i + 1) := by
        have : s = s.take i ++ (10 :: s.drop (i + 1)) := by
          rw [← hc, ← List.drop_eq_getElem_cons hi, List.take_append_drop]
        conv => lhs; rw [this]
        rw [List.drop_append_of_le_length (by simp; omega)]
      rw [e, phys_cons _ _ h3]
      simp
    · rw [if_neg hc]
      refine ih _ _ _ (by omega) hi ?_ (by omega)
      rw [List.take_succ_eq_append_getElem hi, List.drop_append_of_le_length (by simp; omega)]
      simp only [List.mem_append, List.mem_singleton, not_or]
      exact ⟨h3, fun e => hc e.symm⟩
theorem r12lines_eq (s : List UInt8) : r12fin s (r12lines s [] 0 0) = phys s := by
  rw [r12lines_phys s [] 0 0 (Nat.le_refl _) (Nat.zero_le _) (by simp)]
  simp

/-! ### trim -/
def gapB (b : UInt8) : Bool := decide (b = 32 ∨ b = 9)
def trimR : List UInt8 → List UInt8
  | [] => []
  | b :: r => if trimR r = [] ∧ gapB b = true then [] else b :: trimR r
theorem gap_contains : (fun b : UInt8 => ([32, 9] : List UInt8).contains b) = gapB := by
  funext b
  rw [Bool.eq_iff_iff]
  simp [gapB]
theorem trimR_eq : ∀ l, Lib.trimRightS l [32, 9] = trimR l
  | [] => rfl
  | b :: r => by
    have ih := trimR_eq r
    unfold Lib.trimRightS at ih ⊢
    rw [gap_contains] at ih ⊢
    rw [List.reverse_cons, List.dropWhile_append]
    simp only [trimR]
    rw [← ih]
    by_cases he : (r.reverse.dropWhile gapB).isEmpty = true
    · rw [if_pos he]
      simp only [List.isEmpty_iff] at he
      rw [he]
      cases hb : gapB b <;> simp [List.dropWhile, hb]
    · rw [if_neg he]
      simp only [List.isEmpty_iff] at he
      rw [if_neg (by simp [he])]
      simp
theorem trim_comm : ∀ l, (trimR l).dropWhile gapB = trimR (l.dropWhile gapB)
  | [] => rfl
  | b :: r => by
    have ih := trim_comm r
    cases hb : gapB b with
    | true =>
      simp only [List.dropWhile, hb]
      rw [← ih]
      simp only [trimR]
      by_cases ht : trimR r = []
      · simp [ht, hb]
      · rw [if_neg (by simp [ht])]
        simp [List.dropWhile, hb]
    | false =>
      have : trimR (b :: r) = b :: trimR r := by simp [trimR, hb]
      simp only [List.dropWhile, hb, this]
theorem trimS_eq (l : List UInt8) : Lib.trimS l [32, 9] = trimR (l.dropWhile gapB) := by
  unfold Lib.trimS Lib.trimLeftS
  rw [trimR_eq, gap_contains, trim_comm]
theorem trimR_nil {l : List UInt8} (h : l = []) : trimR l = [] := by rw [h]; rfl
theorem trimR_snoc (l : List UInt8) (b : UInt8) : trimR (l ++ [b]) = if gapB b = true then trimR l else l ++ [b] := by
  induction l with
  | nil => cases hb : gapB b <;> simp [trimR, hb]
  | cons c l ih =>
    rw [List.cons_append]
    simp only [trimR, ih]
    cases hb : gapB b <;> simp

/-! ### one physical line -/
def r12in (s : List UInt8) (last : Bool) (i : Nat) (held : List UInt8) (goes : Bool) : Option (List UInt8 × Bool) :=
  if h : i < s.length then
    if s[i] = 39 then
      if h2 : qend s i < 0 then none else r12in s last (qend s i).toNat (held ++ (s.take (qend s i).toNat).drop i) goes
    else if s[i] = 35 then some (held, goes)
    else if s[i] = 92 ∧ i + 1 = s.length ∧ last = false then r12in s last (i + 1) (held ++ [32]) true
    else r12in s last (i + 1) (held ++ [s[i]]) goes
  else some (held, goes)
termination_by s.length - i
decreasing_by
  · have := qend_gt s i
    omega
  · omega
  · omega
theorem cutm_pre (s : List UInt8) (last : Bool) (i : Nat) (hi : i ≤ s.length) (h : (cutm s last i).2.2 = true) : (cutm s last i).1.take i = s.take i ∧ i ≤ (cutm s last i).1.length := by
  induction i using cutm.induct (s := s) (last := last) with
  | case1 i hl hc h2 =>
    unfold cutm at h
    simp [hl, hc, h2] at h
  | case2 i hl hc h2 ih =>
    have e : cutm s last i = cutm s last (qend s i).toNat := by
      conv => lhs; unfold cutm
      simp only [hl, dif_pos, hc, if_pos, h2, dif_neg, not_false_eq_true]
    have hq := qend_gt s i
    rw [e] at h ⊢
    obtain ⟨h3, h4⟩ := ih (by omega) h
    refine ⟨?_, by omega⟩
    have := congrArg (List.take i) h3
    rwa [List.take_take, List.take_take, Nat.min_eq_left (by omega)] at this
  | case3 i hl hc h2 =>
    unfold cutm
    rw [dif_pos hl, if_neg hc, if_pos h2]
    exact ⟨by rw [List.take_take, Nat.min_self], by rw [List.length_take]; omega⟩
  | case4 i hl hc h2 h3 =>
    unfold cutm
    rw [dif_pos hl, if_neg hc, if_neg h2, if_pos h3]
    simp only [List.length_append, List.length_take, List.length_cons, List.length_nil]
    refine ⟨?_, by omega⟩
    rw [List.take_append_of_le_length (by simp; omega), List.take_take, Nat.min_self]
  | case5 i hl hc h2 h3 ih =>
    have e : cutm s last i = cutm s last (i + 1) := by
      conv => lhs; unfold cutm
      rw [dif_pos hl, if_neg hc, if_neg h2, if_neg h3]
    rw [e] at h ⊢
    obtain ⟨h4, h5⟩ := ih (by omega) h
    refine ⟨?_, by omega⟩
    have := congrArg (List.take i) h4
    rwa [List.take_take, List.take_take, Nat.min_eq_left (by omega)] at this
  | case6 i hl =>
    unfold cutm
    rw [dif_neg hl]
    exact ⟨rfl, hi⟩
theorem drop_at {t s : List UInt8} {i e : Nat} (h : t.take e = s.take e) (hie : i ≤ e) (he : e ≤ s.length) : t.drop i = (s.take e).drop i ++ t.drop e := by
  conv => lhs; rw [← List.take_append_drop e t, h]
  rw [List.drop_append_of_le_length (by simp; omega)]
theorem r12in_cut (s : List UInt8) (last : Bool) (i : Nat) (held : List UInt8) (hi : i ≤ s.length) :
    r12in s last i held false = if (cutm s last i).2.2 = true then some (held ++ (cutm s last i).1.drop i, (cutm s last i).2.1) else none := by
  induction i using cutm.induct (s := s) (last := last) generalizing held with
  | case1 i hl hc h2 =>
    unfold cutm r12in
    simp [hl, hc, h2]
  | case2 i hl hc h2 ih =>
    have e : cutm s last i = cutm s last (qend s i).toNat := by
      conv => lhs; unfold cutm
      simp only [hl, dif_pos, hc, if_pos, h2, dif_neg, not_false_eq_true]
    have hq := qend_gt s i
    unfold r12in
    rw [dif_pos hl, if_pos hc, dif_neg h2, ih _ (by omega), e]
    by_cases hok : (cutm s last (qend s i).toNat).2.2 = true
    · rw [if_pos hok, if_pos hok]
      have hp := cutm_pre s last _ (by omega) hok
      rw [drop_at hp.1 (i := i) (by omega) (by omega), List.append_assoc]
    · rw [if_neg hok, if_neg hok]
  | case3 i hl hc h2 =>
    unfold cutm r12in
    rw [dif_pos hl, if_neg hc, if_pos h2, dif_pos hl, if_neg hc, if_pos h2, if_pos rfl]
    simp
  | case4 i hl hc h2 h3 =>
    unfold cutm r12in
    rw [dif_pos hl, if_neg hc, if_neg h2, if_pos h3, dif_pos hl, if_neg hc, if_neg h2, if_pos h3, if_pos rfl]
    unfold r12in
    rw [dif_neg (by omega), List.drop_append_of_le_length (by simp; omega)]
    simp
  | case5 i hl hc h2 h3 ih =>
    have e : cutm s last i = cutm s last (i + 1) := by
      conv => lhs; unfold cutm
      rw [dif_pos hl, if_neg hc, if_neg h2, if_neg h3]
    unfold r12in
    rw [dif_pos hl, if_neg hc, if_neg h2, if_neg h3, ih _ (by omega), e]
    by_cases hok : (cutm s last (i + 1)).2.2 = true
    · rw [if_pos hok, if_pos hok]
      have hp := cutm_pre s last _ (by omega) hok
      rw [drop_at hp.1 (i := i) (by omega) (by omega), List.take_succ_eq_append_getElem hl, List.drop_append_of_le_length (by simp; omega)]
      simp
    · rw [if_neg hok, if_neg hok]
  | case6 i hl =>
    have hd : s.drop i = [] := List.drop_of_length_le (by omega)
    unfold cutm r12in
    rw [dif_neg hl, dif_neg hl, if_pos rfl]
    simp only [hd, List.append_nil]

/-! ### all -/
def r12sp (xs : List (List UInt8)) (k op : Nat) (held : List UInt8) (out : List Ln) : List Ln ⊕ (Nat × Nat) :=
  if h : k < xs.length then
    if op = 0 ∧ recp xs[k] = true then
      if 400 < xs[k].length - 1 then .inr (2, k + 1) else r12sp xs (k + 1) 0 held (out ++ [⟨xs[k].drop 1, k + 1, true⟩])
    else match r12in xs[k] (k + 1 == xs.length) 0 (if op = 0 then [] else held) false with
      | none => .inr (5, k + 1)
      | some (t, true) => r12sp xs (k + 1) (if op = 0 then k + 1 else op) t out
      | some (t, false) => if 400 < (Lib.trimS t [32, 9]).length then .inr (2, if op = 0 then k + 1 else op) else r12sp xs (k + 1) 0 t (out ++ [⟨Lib.trimS t [32, 9], if op = 0 then k + 1 else op, false⟩])
  else .inl out
termination_by xs.length - k
theorem r12sp_open (xs : List (List UInt8)) (k op : Nat) (held : List UInt8) (out : List Ln) (hk : k < xs.length) (ho : op ≠ 0) :
    r12sp xs k op held out = match lgm xs held k with
      | .inr n => .inr (5, n)
      | .inl (t, n) => if 400 < (Lib.trimS t [32, 9]).length then .inr (2, op) else r12sp xs n 0 t (out ++ [⟨Lib.trimS t [32, 9], op, false⟩]) := by
  induction hm : xs.length - k generalizing k held with
  | zero => omega
  | succ m ih =>
    conv => lhs; unfold r12sp
    rw [dif_pos hk, if_neg (by simp [ho]), if_neg ho, r12in_cut _ _ _ _ (Nat.zero_le _)]
    unfold lgm
    rw [dif_pos hk]
    have hlast := (cutm_len xs[k] (k + 1 == xs.length) 0).2
    cases hok : (cutm xs[k] (k + 1 == xs.length) 0).2.2 with
    | false => simp
    | true =>
      simp only [if_pos, List.drop_zero]
      cases hg : (cutm xs[k] (k + 1 == xs.length) 0).2.1 with
      | true =>
        have : k + 1 < xs.length := by
          rcases Nat.lt_or_ge (k + 1) xs.length with h | h
          · exact h
          · have := hlast (by simp; omega)
            rw [hg] at this
            simp at this
        simp [ho]
        exact ih (k + 1) _ this (by omega)
      | false => simp [ho]
def spConv : List Ln ⊕ (Nat × Bool) → List Ln ⊕ (Nat × Nat)
  | .inl l => .inl l
  | .inr (n, q) => .inr (if q then 5 else 2, n)
theorem r12sp_eq (xs : List (List UInt8)) (k : Nat) (held : List UInt8) (out : List Ln) (hk : k ≤ xs.length) : r12sp xs k 0 held out = spConv (spm xs out k) := by
  induction hm : xs.length - k using Nat.strongRecOn generalizing k held out with
  | _ m ih =>
    by_cases hl : k < xs.length
    · by_cases hr : recp xs[k] = true
      · unfold r12sp spm
        rw [dif_pos hl, if_pos ⟨rfl, hr⟩, dif_pos hl, if_pos hr]
        split
        · rfl
        · exact ih _ (by omega) _ _ _ (by omega) rfl
      · have e : r12sp xs k 0 held out = r12sp xs k (k + 1) [] out := by
          conv => lhs; unfold r12sp
          conv => rhs; unfold r12sp
          rw [dif_pos hl, if_neg (show ¬ (0 = 0 ∧ recp xs[k] = true) from by simp [hr]), dif_pos hl, if_neg (show ¬ (k + 1 = 0 ∧ recp xs[k] = true) from by simp)]
          simp
        rw [e, r12sp_open xs k (k + 1) [] out hl (by omega)]
        cases hn : lgm xs [] k with
        | inr n =>
          have e2 : spm xs out k = .inr (n, true) := by
            conv => lhs; unfold spm
            rw [dif_pos hl, if_neg hr]
            split
            · rename_i n' hn'
              rw [hn] at hn'
              cases hn'
              rfl
            · rename_i t' n' hn'
              rw [hn] at hn'
              cases hn'
          rw [e2]
          rfl
        | inl tn =>
          obtain ⟨t, n⟩ := tn
          have hnx := lgm_next xs [] k t n hn
          have e2 : spm xs out k = if 400 < (Lib.trimS t [32, 9]).length then .inr (k + 1, false) else spm xs (out ++ [⟨Lib.trimS t [32, 9], k + 1, false⟩]) n := by
            conv => lhs; unfold spm
            rw [dif_pos hl, if_neg hr]
            split
            · rename_i n' hn'
              rw [hn] at hn'
              cases hn'
            · rename_i t' n' hn'
              rw [hn] at hn'
              cases hn'
              rfl
          rw [e2]
          simp only
          split
          · rfl
          · exact ih _ (by omega) _ _ _ (by omega) rfl
    · unfold r12sp spm
      rw [dif_neg hl, dif_neg hl]
      rfl
end Go.Ab
