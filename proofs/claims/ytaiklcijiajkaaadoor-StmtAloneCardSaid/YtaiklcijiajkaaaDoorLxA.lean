/- One text of a proof that a law of this seat says true for every input: words, pieces and statements. It holds of the given program under the conditions that the row prints. -/
import Derived.Lib.Replace
import Derived.Lib.SplitLaws
import Derived.Lib.SlTrimSet
set_option linter.unusedVariables false
set_option linter.unusedSimpArgs false
namespace Go.Ab

/-! # Words by their pieces: the program's way and the document's -/
def blkB (b : UInt8) : Bool := b == 32 || b == 9 || b == 10
def letB (b : UInt8) : Bool := (decide (97 ≤ b.toNat) && decide (b.toNat ≤ 122)) || (decide (65 ≤ b.toNat) && decide (b.toNat ≤ 90)) || (decide (48 ≤ b.toNat) && decide (b.toNat ≤ 57)) || b == 95
def plnB (b : UInt8) : Bool := !blkB b && !(b == 39) && !(b == 36) && !(b == 96)
def patB (b : UInt8) : Bool := plnB b && !(b == 61) && !(b == 123) && !(b == 125)
def insB (b : UInt8) : Bool := !(b == 123) && !(b == 125)

/-- How many bytes from a place on are of a kind. -/
def runN (p : UInt8 → Bool) (s : List UInt8) (i : Nat) : Nat := ((s.drop i).takeWhile p).length
theorem runN_ge (p : UInt8 → Bool) (s : List UInt8) (i : Nat) (h : s.length ≤ i) : runN p s i = 0 := by
  simp [runN, List.drop_eq_nil_of_le h]
theorem runN_lt (p : UInt8 → Bool) (s : List UInt8) (i : Nat) (h : i < s.length) : runN p s i = if p s[i] = true then runN p s (i + 1) + 1 else 0 := by
  unfold runN
  rw [List.drop_eq_getElem_cons h, List.takeWhile_cons]
  split <;> simp
theorem runN_le (p : UInt8 → Bool) (s : List UInt8) (i : Nat) : i + runN p s i ≤ max i s.length := by
  have := (List.takeWhile_prefix (l := s.drop i) p).length_le
  unfold runN
  simp only [List.length_drop] at this
  omega
theorem runN_all (p : UInt8 → Bool) (s : List UInt8) : ∀ (n i j : Nat), runN p s i = n → i ≤ j → j < i + n → ∃ h : j < s.length, p s[j] = true
  | 0, i, j, h, h1, h2 => by omega
  | n + 1, i, j, h, h1, h2 => by
    have hi : i < s.length := by
      rcases Nat.lt_or_ge i s.length with hi | hi
      · exact hi
      · rw [runN_ge p s i hi] at h
        omega
    rw [runN_lt p s i hi] at h
    split at h
    · rename_i hp
      rcases Nat.eq_or_lt_of_le h1 with rfl | hlt
      · exact ⟨hi, hp⟩
      · exact runN_all p s n (i + 1) j (by omega) hlt (by omega)
    · omega
theorem runN_stop (p : UInt8 → Bool) (s : List UInt8) : ∀ (n i : Nat), runN p s i = n → ∀ h : i + n < s.length, p s[i + n] = false
  | 0, i, hn, h => by
    rw [runN_lt p s i (by omega)] at hn
    split at hn
    · omega
    · rename_i hp
      simpa using hp
  | n + 1, i, hn, h => by
    rw [runN_lt p s i (by omega)] at hn
    split at hn
    · have := runN_stop p s n (i + 1) (by omega) (by omega)
      simpa only [show i + 1 + n = i + (n + 1) from by omega] using this
    · omega
/-- A part of a text. -/
def subs (s : List UInt8) (i j : Nat) : List UInt8 := (s.take j).drop i
theorem subs_run (p : UInt8 → Bool) (s : List UInt8) (i : Nat) : subs s i (i + runN p s i) = (s.drop i).takeWhile p := by
  unfold subs runN
  rw [List.drop_take]
  have : i + ((s.drop i).takeWhile p).length - i = ((s.drop i).takeWhile p).length := by omega
  rw [this]
  exact List.prefix_iff_eq_take.1 (List.takeWhile_prefix p) |>.symm
theorem subs_cons (s : List UInt8) (i j : Nat) (hij : i < j) (h : i < s.length) : subs s i j = s[i] :: subs s (i + 1) j := by
  unfold subs
  have h1 : i < (s.take j).length := by simp; omega
  rw [List.drop_eq_getElem_cons h1]
  simp
theorem subs_nil (s : List UInt8) (i j : Nat) (h : j ≤ i) : subs s i j = [] := by
  unfold subs
  exact List.drop_eq_nil_of_le (by simp; omega)
theorem subs_len (s : List UInt8) (i j : Nat) (h : j ≤ s.length) : (subs s i j).length = j - i := by
  unfold subs
  simp
  omega

def namOk (t : List UInt8) : Bool := !t.isEmpty && decide (t.length ≤ 12) && t.all letB
/-- A piece. -/
structure Pc where
  k : Nat
  t : List UInt8
  f : List UInt8
  o : List UInt8
deriving DecidableEq
def Pc.z : Pc := ⟨0, [], [], []⟩
/-- the first error stays -/
def frst (e k : Nat) : Nat := if e = 0 then k else e
/-- takes a byte that must come -/
def tks (s : List UInt8) (b : UInt8) (st : Nat × Nat) : Nat × Nat := if s[st.1]? = some b then (st.1 + 1, st.2) else (st.1, frst st.2 3)

/-- quote.End behind its first quote -/
def qlp (s : List UInt8) (i : Nat) : Int :=
  if h : i < s.length then
    if s[i] ≠ 39 then qlp s (i + 1)
    else if s[i + 1]? = some 39 then qlp s (i + 2) else i + 1
  else -1
termination_by s.length - i

/-! ## the program -/
def pVar (s : List UInt8) (a : Nat) : Pc × Nat × Nat :=
  if s[a]? = some 123 then
    let b := a + 1 + runN letB s (a + 1)
    let t := subs s (a + 1) b
    let e := if namOk t = true then 0 else 4
    if e = 0 ∧ s[b]? = some 58 then
      let c := b + 1 + runN patB s (b + 1)
      let st := tks s 61 (c, 0)
      let d := st.1 + runN patB s st.1
      let st2 := tks s 125 (d, st.2)
      (⟨3, t, subs s (b + 1) c, subs s st.1 d⟩, st2)
    else (⟨2, t, [], []⟩, tks s 125 (b, e))
  else
    let b := a + runN letB s a
    let t := subs s a b
    (⟨2, t, [], []⟩, b, if namOk t = true then 0 else 4)
def pQuo (qe : Int) (s : List UInt8) (a : Nat) : Pc × Nat × Nat :=
  if qe < 0 then (.z, a, 5) else (⟨1, Lib.replaceAll (subs s (a + 1) (qe.toNat - 1)) [39, 39] [39], [], []⟩, qe.toNat, 0)
def pCmd (s : List UInt8) (a : Nat) : Pc × Nat × Nat :=
  let st := tks s 123 (a, 0)
  let b := st.1 + runN insB s st.1
  (⟨4, subs s st.1 b, [], []⟩, tks s 125 (b, st.2))
def pPln (s : List UInt8) (a : Nat) : Pc × Nat × Nat := (⟨0, subs s a (a + runN plnB s a), [], []⟩, a + runN plnB s a, 0)

/-! ## the document -/
def rDol (s : List UInt8) (a : Nat) : Pc × Nat × Nat :=
  let from_ := if s[a + 1]? = some 123 then a + 2 else a + 1
  let b := from_ + runN letB s from_
  let t := subs s from_ b
  if namOk t = true then
    if s[a + 1]? = some 123 then
      if s[b]? = some 58 then
        let c := b + 1 + runN patB s (b + 1)
        if s[c]? = some 61 then
          let d := c + 1 + runN patB s (c + 1)
          if s[d]? = some 125 then (⟨3, t, subs s (b + 1) c, subs s (c + 1) d⟩, d + 1, 0) else (.z, 0, 3)
        else (.z, 0, 3)
      else if s[b]? = some 125 then (⟨2, t, [], []⟩, b + 1, 0) else (.z, 0, 3)
    else (⟨2, t, [], []⟩, b, 0)
  else (.z, 0, 4)
/-- what a quoted part says -/
def unq : List UInt8 → List UInt8
  | [] => []
  | [b] => [b]
  | b :: c :: r => if b = 39 then b :: unq r else b :: unq (c :: r)
def rQuo (qe : Int) (s : List UInt8) (a : Nat) : Pc × Nat × Nat :=
  if qe < 0 then (.z, 0, 5) else (⟨1, unq (subs s (a + 1) (qe.toNat - 1)), [], []⟩, qe.toNat, 0)
def rCmd (s : List UInt8) (a : Nat) : Pc × Nat × Nat :=
  let b := a + 2 + runN insB s (a + 2)
  if s[a + 1]? = some 123 ∧ s[b]? = some 125 then (⟨4, subs s (a + 2) b, [], []⟩, b + 1, 0) else (.z, 0, 3)

/-- They say the same: the same error, or the same piece that ends at the same place. -/
def sameP (x y : Pc × Nat × Nat) : Prop := x.2.2 = y.2.2 ∧ (y.2.2 = 0 → x = y)

theorem var_law (s : List UInt8) (a : Nat) : sameP (pVar s (a + 1)) (rDol s a) := by
  unfold pVar rDol sameP
  by_cases h1 : s[a + 1]? = some 123
  · simp only [h1, if_true, show a + 1 + 1 = a + 2 from rfl]
    cases hn : namOk (subs s (a + 2) (a + 2 + runN letB s (a + 2))) with
    | false =>
      simp only [Bool.false_eq_true, if_false, tks, frst, show ¬ (4 = 0) from by decide, false_and]
      split <;> simp
    | true =>
      simp only [if_true, true_and]
      generalize a + 2 + runN letB s (a + 2) = b
      by_cases h2 : s[b]? = some 58
      · simp only [h2, if_true]
        generalize b + 1 + runN patB s (b + 1) = c
        by_cases h3 : s[c]? = some 61
        · simp only [tks, h3, if_true]
          generalize c + 1 + runN patB s (c + 1) = d
          by_cases h4 : s[d]? = some 125
          · simp [h4]
          · simp [h4, frst]
        · simp only [tks, h3, if_false, frst, if_true, show ¬ (3 = 0) from by decide]
          split <;> simp
      · simp only [h2, if_false, tks]
        by_cases h4 : s[b]? = some 125
        · simp [h4]
        · simp [h4, frst]
  · simp only [h1, if_false]
    cases hn : namOk (subs s (a + 1) (a + 1 + runN letB s (a + 1))) <;> simp
theorem cmd_law (s : List UInt8) (a : Nat) : sameP (pCmd s (a + 1)) (rCmd s a) := by
  unfold pCmd rCmd sameP
  by_cases h1 : s[a + 1]? = some 123
  · simp only [tks, h1, if_true, true_and, show a + 1 + 1 = a + 2 from rfl]
    generalize a + 2 + runN insB s (a + 2) = b
    by_cases h4 : s[b]? = some 125
    · simp [h4]
    · simp [h4, frst]
  · simp only [tks, h1, if_false, false_and, frst, if_true, show ¬ (3 = 0) from by decide]
    split <;> simp

/-! ### quotes -/
def paired : List UInt8 → Bool
  | [] => true
  | [b] => !(b == 39)
  | b :: c :: r => if b = 39 then c == 39 && paired r else paired (c :: r)
def pairs : List UInt8 → Nat
  | [] => 0
  | [b] => 0
  | b :: c :: r => if b = 39 then pairs r + 1 else pairs (c :: r)
theorem paired_first : ∀ l : List UInt8, paired l = true → (39 ∉ l ∧ pairs l = 0 ∧ unq l = l) ∨ ∃ a r, l = a ++ 39 :: 39 :: r ∧ 39 ∉ a ∧ paired r = true ∧ pairs l = pairs r + 1 ∧ unq l = a ++ 39 :: unq r
  | [], _ => .inl ⟨by simp, rfl, rfl⟩
  | [b], h => by
    simp only [paired, Bool.not_eq_true', beq_eq_false_iff_ne] at h
    exact .inl ⟨by simpa using Ne.symm h, rfl, rfl⟩
  | b :: c :: r, h => by
    simp only [paired] at h
    by_cases hb : b = 39
    · subst hb
      simp only [if_true, Bool.and_eq_true, beq_iff_eq] at h
      obtain ⟨rfl, h⟩ := h
      exact .inr ⟨[], r, rfl, by simp, h, by simp [pairs], by simp [unq]⟩
    · rw [if_neg hb] at h
      rcases paired_first (c :: r) h with ⟨h1, h2, h3⟩ | ⟨a, r', h1, h2, h3, h4, h5⟩
      · refine .inl ⟨?_, ?_, ?_⟩
        · simp only [List.mem_cons, not_or] at h1 ⊢
          exact ⟨Ne.symm hb, h1.1, h1.2⟩
        · simp only [pairs, if_neg hb, h2]
        · simp only [unq, if_neg hb, h3]
      · refine .inr ⟨b :: a, r', by rw [h1]; rfl, ?_, h3, ?_, ?_⟩
        · simp only [List.mem_cons, not_or]
          exact ⟨Ne.symm hb, h2⟩
        · simp only [pairs, if_neg hb, h4]
        · simp only [unq, if_neg hb, h5, List.cons_append]
theorem ix2_none (l : List UInt8) (h : (39 : UInt8) ∉ l) : Lib.index l [39, 39] = -1 := by
  induction l with
  | nil => rfl
  | cons b l ih =>
    simp only [List.mem_cons, not_or] at h
    unfold Lib.index
    rw [ih h.2]
    simp [List.isPrefixOf, h.1]
theorem ix2_some (a r : List UInt8) (h : (39 : UInt8) ∉ a) : Lib.index (a ++ 39 :: 39 :: r) [39, 39] = a.length := by
  induction a with
  | nil => simp [Lib.index, List.isPrefixOf]
  | cons x a ih =>
    simp only [List.mem_cons, not_or] at h
    rw [List.cons_append]
    unfold Lib.index
    rw [ih h.2]
    have h2 : ¬ ((a.length : Int) == -1) = true := by simp
    simp only [List.isPrefixOf, beq_iff_eq, h.1, Bool.false_and, List.length_cons, h2, if_false]
    simp [h.1]
theorem drop2 (a r : List UInt8) : (a ++ 39 :: 39 :: r).drop (a.length + [(39 : UInt8), 39].length) = r := by
  rw [← List.drop_drop]
  simp
theorem repl_pair : ∀ (n : Nat) (l : List UInt8), l.length ≤ n → paired l = true → (∀ fuel, l.length < fuel → Lib.countFrom [39, 39] fuel l = pairs l) ∧ Lib.replaceK [39, 39] [39] (pairs l) l = unq l := by
  intro n
  induction n with
  | zero =>
    intro l hl hp
    have : l = [] := List.eq_nil_of_length_eq_zero (by omega)
    subst this
    refine ⟨fun fuel hf => ?_, rfl⟩
    cases fuel with
    | zero => omega
    | succ f => rfl
  | succ n ih =>
    intro l hl hp
    rcases paired_first l hp with ⟨h1, h2, h3⟩ | ⟨a, r, rfl, h2, h3, h4, h5⟩
    · rw [h2, h3]
      refine ⟨fun fuel hf => ?_, rfl⟩
      cases fuel with
      | zero => omega
      | succ f => simp [Lib.countFrom, ix2_none l h1]
    · simp only [List.length_append, List.length_cons] at hl
      obtain ⟨h6, h7⟩ := ih r (by omega) h3
      rw [h4, h5]
      refine ⟨fun fuel hf => ?_, ?_⟩
      · cases fuel with
        | zero => omega
        | succ f =>
          have hne : ¬ (Lib.index (a ++ 39 :: 39 :: r) [39, 39] == -1) = true := by rw [ix2_some a r h2]; simp
          simp only [List.length_append, List.length_cons] at hf
          rw [Lib.countFrom, if_neg hne, ix2_some a r h2, show ((a.length : Int)).toNat = a.length from by omega, drop2, h6 f (by omega)]
          omega
      · rw [Lib.replaceK_hit _ _ _ _ _ (ix2_some a r h2), drop2, h7]
        simp
theorem repl_unq (l : List UInt8) (h : paired l = true) : Lib.replaceAll l [39, 39] [39] = unq l := by
  unfold Lib.replaceAll Lib.replace Lib.replaceNum
  have h1 : ¬ (([39, 39] : List UInt8) == [39]) = true := by decide
  rw [if_neg h1, if_pos (.inl (by decide))]
  obtain ⟨h2, h3⟩ := repl_pair l.length l (Nat.le_refl _) h
  unfold Lib.count
  rw [h2 _ (by omega), h3]
theorem qlp_pair (s : List UInt8) (i : Nat) : qlp s i < 0 ∨ ((i : Int) < qlp s i ∧ qlp s i ≤ s.length ∧ paired (subs s i ((qlp s i).toNat - 1)) = true ∧ s[(qlp s i).toNat - 1]? = some 39) := by
  induction i using qlp.induct (s := s) with
  | case1 i h hc ih =>
    have e : qlp s i = qlp s (i + 1) := by
      conv => lhs; unfold qlp
      simp [h, hc]
    rw [e]
    rcases ih with ih | ⟨h1, h2, h3, h4⟩
    · exact .inl ih
    · refine .inr ⟨by omega, h2, ?_, h4⟩
      rw [subs_cons s i _ (by omega) h]
      rcases Nat.lt_or_ge (i + 1) ((qlp s (i + 1)).toNat - 1) with hlt | hge
      · rw [subs_cons s (i + 1) _ hlt (by omega)] at h3 ⊢
        simp only [paired, if_neg hc]
        exact h3
      · rw [subs_nil s (i + 1) _ hge]
        simpa [paired] using hc
  | case2 i h hc hd ih =>
    have e : qlp s i = qlp s (i + 2) := by
      conv => lhs; unfold qlp
      rw [dif_pos h, if_neg hc, if_pos hd]
    rw [e]
    rcases ih with ih | ⟨h1, h2, h3, h4⟩
    · exact .inl ih
    · refine .inr ⟨by omega, h2, ?_, h4⟩
      obtain ⟨h5, h6⟩ := List.getElem?_eq_some_iff.1 hd
      have hc' : s[i] = 39 := Classical.not_not.1 hc
      rw [subs_cons s i _ (by omega) h, subs_cons s (i + 1) _ (by omega) h5, hc', h6]
      simp only [paired, if_true, beq_self_eq_true, Bool.true_and]
      exact h3
  | case3 i h hc hd =>
    have e : qlp s i = i + 1 := by
      conv => lhs; unfold qlp
      rw [dif_pos h, if_neg hc, if_neg hd]
    have hc' : s[i] = 39 := Classical.not_not.1 hc
    rw [e]
    refine .inr ⟨by omega, by omega, ?_, ?_⟩
    · rw [subs_nil s i _ (by omega)]
      rfl
    · rw [show ((i : Int) + 1).toNat - 1 = i from by omega, List.getElem?_eq_getElem h, hc']
  | case4 i h =>
    have e : qlp s i = -1 := by
      conv => lhs; unfold qlp
      simp [h]
    omega
theorem quo_law (s : List UInt8) (a : Nat) : sameP (pQuo (qlp s (a + 1)) s a) (rQuo (qlp s (a + 1)) s a) := by
  unfold pQuo rQuo sameP
  rcases qlp_pair s (a + 1) with h | ⟨h1, h2, h3, h4⟩
  · simp [h]
  · rw [if_neg (by omega), if_neg (by omega), repl_unq _ h3]
    simp
/-- A piece that begins at a place. -/
def pOne (s : List UInt8) (a : Nat) : Pc × Nat × Nat := if s[a]? = some 39 then pQuo (qlp s (a + 1)) s a else if s[a]? = some 36 then pVar s (a + 1) else if s[a]? = some 96 then pCmd s (a + 1) else pPln s a
def rOne (s : List UInt8) (a : Nat) : Pc × Nat × Nat := if s[a]? = some 39 then rQuo (qlp s (a + 1)) s a else if s[a]? = some 96 then rCmd s a else if s[a]? = some 36 then rDol s a else pPln s a
theorem one_law (s : List UInt8) (a : Nat) : sameP (pOne s a) (rOne s a) := by
  unfold pOne rOne
  by_cases h1 : s[a]? = some 39
  · rw [if_pos h1, if_pos h1]
    exact quo_law s a
  · rw [if_neg h1, if_neg h1]
    by_cases h2 : s[a]? = some 36
    · rw [if_pos h2, if_neg (by rw [h2]; decide), if_pos h2]
      exact var_law s a
    · rw [if_neg h2, if_neg h2]
      by_cases h3 : s[a]? = some 96
      · rw [if_pos h3, if_pos h3]
        exact cmd_law s a
      · rw [if_neg h3, if_neg h3]
        exact ⟨rfl, fun _ => rfl⟩
/-- A piece goes on, and ends within the text. -/
theorem rOne_gt (s : List UInt8) (a : Nat) (h : a < s.length) (hb : blkB s[a] = false) : (rOne s a).2.2 ≠ 0 ∨ (a < (rOne s a).2.1 ∧ (rOne s a).2.1 ≤ s.length) := by
  unfold rOne
  have lt_of : ∀ {i : Nat} {b : UInt8}, s[i]? = some b → i < s.length := fun e => (List.getElem?_eq_some_iff.1 e).1
  split
  · unfold rQuo
    rcases qlp_pair s (a + 1) with h1 | ⟨h1, h2, _⟩
    · rw [if_pos h1]
      exact .inl (by simp)
    · rw [if_neg (by omega)]
      exact .inr (by simp only; omega)
  · split
    · unfold rCmd
      simp only
      split
      · rename_i h1
        have := lt_of h1.2
        exact .inr (by simp only; omega)
      · exact .inl (by simp)
    · split
      · unfold rDol
        simp only
        have hle := runN_le letB s (a + 1)
        repeat' split
        all_goals first
          | (refine .inl ?_; simp; done)
          | (rename_i h5; have := lt_of h5; refine .inr ⟨?_, ?_⟩ <;> (simp only; omega))
          | (refine .inr ⟨?_, ?_⟩ <;> (simp only; omega))
      · rename_i h1 h2 h3
        have hp : plnB s[a] = true := by
          simp only [List.getElem?_eq_getElem h, Option.some.injEq] at h1 h2 h3
          simp [plnB, hb, h1, h2, h3]
        have h4 := runN_lt plnB s a h
        rw [if_pos hp] at h4
        have h5 := runN_le plnB s a
        exact .inr (by simp only [pPln]; omega)
end Go.Ab

set_option linter.unusedVariables false
set_option linter.unusedSimpArgs false
namespace Go.Ab

/-- The rest of a word, piece by piece. -/
def pIn (s : List UInt8) (a : Nat) (w : List Pc) : (List Pc × Nat) ⊕ Nat :=
  if h : a < s.length then
    if blkB s[a] = true then .inl (w, a)
    else
      if (pOne s a).2.2 = 0 then (if h2 : a < (pOne s a).2.1 then pIn s (pOne s a).2.1 (w ++ [(pOne s a).1]) else .inr 99) else .inr (pOne s a).2.2
  else .inl (w, a)
termination_by s.length - a
def pOut (s : List UInt8) (a : Nat) (out : List (List Pc)) : List (List Pc) ⊕ Nat :=
  if h : a + runN blkB s a < s.length then
    match pIn s (a + runN blkB s a) [] with
    | .inl (w, c) => if h2 : a < c then pOut s c (out ++ [w]) else .inr 99
    | .inr e => .inr e
  else .inl out
termination_by s.length - a
def pWords (s : List UInt8) : List (List Pc) ⊕ Nat := pOut s 0 []
/-- The document's words. -/
def rW (s : List UInt8) (a : Nat) (w : List Pc) (out : List (List Pc)) : List (List Pc) ⊕ Nat :=
  if h : a < s.length then
    if blkB s[a] = true then rW s (a + 1) [] (if w = [] then out else out ++ [w])
    else
      if (rOne s a).2.2 = 0 then (if h2 : a < (rOne s a).2.1 then rW s (rOne s a).2.1 (w ++ [(rOne s a).1]) out else .inr 99) else .inr (rOne s a).2.2
  else .inl (if w = [] then out else out ++ [w])
termination_by s.length - a
def rWords (s : List UInt8) : List (List Pc) ⊕ Nat := rW s 0 [] []

theorem pOne_gt (s : List UInt8) (a : Nat) (h : a < s.length) (hb : blkB s[a] = false) : (pOne s a).2.2 ≠ 0 ∨ (a < (pOne s a).2.1 ∧ (pOne s a).2.1 ≤ s.length) := by
  obtain ⟨h1, h2⟩ := one_law s a
  rcases rOne_gt s a h hb with h3 | h3
  · exact .inl (by rw [h1]; exact h3)
  · by_cases h0 : (rOne s a).2.2 = 0
    · rw [h2 h0]
      exact .inr h3
    · exact .inl (by rw [h1]; exact h0)

/-- From a place on that is no blank, both go on piece by piece. -/
theorem in_law (s : List UInt8) : ∀ (n a : Nat) (w : List Pc) (out : List (List Pc)), s.length - a ≤ n → a ≤ s.length →
    rW s a w out = (match pIn s a w with | .inl (w', c) => rW s c w' out | .inr e => .inr e) ∧
    (∀ w' c, pIn s a w = .inl (w', c) → a ≤ c ∧ c ≤ s.length ∧ (∀ h : c < s.length, blkB s[c] = true) ∧ ((a < c ∧ w' ≠ []) ∨ (a = c ∧ w' = w))) := by
  intro n
  induction n with
  | zero =>
    intro a w out hn ha
    have e : pIn s a w = .inl (w, a) := by
      unfold pIn
      rw [dif_neg (by omega)]
    rw [e]
    refine ⟨rfl, fun w' c h => ?_⟩
    injection h with h
    injection h with h1 h2
    subst h1 h2
    exact ⟨Nat.le_refl _, ha, fun h => absurd h (by omega), .inr ⟨rfl, rfl⟩⟩
  | succ n ih =>
    intro a w out hn ha
    unfold pIn
    by_cases h : a < s.length
    · rw [dif_pos h]
      by_cases hb : blkB s[a] = true
      · rw [if_pos hb]
        refine ⟨rfl, fun w' c h => ?_⟩
        injection h with h
        injection h with h1 h2
        subst h1 h2
        exact ⟨Nat.le_refl _, ha, fun _ => hb, .inr ⟨rfl, rfl⟩⟩
      · rw [if_neg hb]
        try simp only
        obtain ⟨h1, h2⟩ := one_law s a
        by_cases h0 : (rOne s a).2.2 = 0
        · have e := h2 h0
          rw [if_pos (by rw [h1]; exact h0)]
          have hg := (pOne_gt s a h (by simpa using hb)).resolve_left (by rw [h1]; simpa using h0)
          rw [dif_pos hg.1]
          have ih' := ih (pOne s a).2.1 (w ++ [(pOne s a).1]) out (by omega) hg.2
          refine ⟨?_, fun w' c hh => ?_⟩
          · conv => lhs; unfold rW
            rw [dif_pos h, if_neg hb]
            try simp only
            rw [if_pos h0, dif_pos (by rw [← e]; exact hg.1), ← e]
            exact ih'.1
          · obtain ⟨h3, h4, h5, h6⟩ := ih'.2 w' c hh
            refine ⟨by omega, h4, h5, .inl ⟨by omega, ?_⟩⟩
            rcases h6 with h6 | h6
            · exact h6.2
            · rw [h6.2]
              simp
        · rw [if_neg (by rw [h1]; exact h0)]
          refine ⟨?_, fun w' c hh => by simp at hh⟩
          conv => lhs; unfold rW
          rw [dif_pos h, if_neg hb]
          try simp only
          rw [if_neg h0, h1]
    · rw [dif_neg h]
      refine ⟨rfl, fun w' c h => ?_⟩
      injection h with h
      injection h with h1 h2
      subst h1 h2
      exact ⟨Nat.le_refl _, ha, fun h' => absurd h' h, .inr ⟨rfl, rfl⟩⟩
/-- Blanks are passed over. -/
theorem rW_skip (s : List UInt8) (out : List (List Pc)) : ∀ (n a : Nat), runN blkB s a = n → rW s a [] out = rW s (a + n) [] out
  | 0, a, h => rfl
  | n + 1, a, h => by
    have ha : a < s.length := by
      rcases Nat.lt_or_ge a s.length with h1 | h1
      · exact h1
      · rw [runN_ge _ _ _ h1] at h
        omega
    rw [runN_lt _ _ _ ha] at h
    split at h
    · rename_i hb
      have := rW_skip s out n (a + 1) (by omega)
      rw [show a + 1 + n = a + (n + 1) from by omega] at this
      rw [← this]
      conv => lhs; unfold rW
      rw [dif_pos ha, if_pos hb]
      simp
    · omega
theorem rW_end (s : List UInt8) (w : List Pc) (out : List (List Pc)) (c : Nat) (hw : w ≠ []) (hc : ∀ h : c < s.length, blkB s[c] = true) : rW s c w out = rW s c [] (out ++ [w]) := by
  conv => lhs; unfold rW
  conv => rhs; unfold rW
  by_cases h : c < s.length
  · rw [dif_pos h, dif_pos h, if_pos (hc h), if_pos (hc h), if_neg hw]
    simp
  · rw [dif_neg h, dif_neg h, if_neg hw]
    simp
theorem out_law (s : List UInt8) : ∀ (n a : Nat) (out : List (List Pc)), s.length - a ≤ n → a ≤ s.length → pOut s a out = rW s a [] out := by
  intro n
  induction n with
  | zero =>
    intro a out hn ha
    unfold pOut rW
    rw [dif_neg (by omega), dif_neg (by omega)]
    simp
  | succ n ih =>
    intro a out hn ha
    have hle := runN_le blkB s a
    rw [rW_skip s out _ a rfl]
    unfold pOut
    by_cases h : a + runN blkB s a < s.length
    · rw [dif_pos h]
      have hb : blkB s[a + runN blkB s a] = false := runN_stop blkB s _ a rfl h
      obtain ⟨h1, h2⟩ := in_law s (s.length - (a + runN blkB s a)) (a + runN blkB s a) [] out (Nat.le_refl _) (by omega)
      rw [h1]
      cases hp : pIn s (a + runN blkB s a) [] with
      | inr e => rfl
      | inl x =>
        obtain ⟨w', c⟩ := x
        obtain ⟨h3, h4, h5, h6⟩ := h2 w' c hp
        have h7 : a + runN blkB s a < c ∧ w' ≠ [] := by
          rcases h6 with h6 | ⟨h6, _⟩
          · exact h6
          · subst h6
            have := h5 h
            rw [hb] at this
            simp at this
        try simp only
        rw [dif_pos (by omega), rW_end s w' out c h7.2 h5]
        exact ih c _ (by omega) h4
    · rw [dif_neg h]
      unfold rW
      rw [dif_neg h]
      simp
theorem words_law (s : List UInt8) : pWords s = rWords s := out_law s s.length 0 [] (by omega) (by omega)

/-- Where a sign stands outside of pieces. -/
def pFind (s sg : List UInt8) (a : Nat) : Int :=
  if h : a < s.length then
    if blkB s[a] = true then pFind s sg (a + 1)
    else
      if (pOne s a).2.2 = 0 then
        if (pOne s a).1.k = 0 then
          match (pOne s a).1.t.findIdx? (sg.contains ·) with
          | some i => (a : Int) + i
          | none => if h2 : a < (pOne s a).2.1 then pFind s sg (pOne s a).2.1 else -1
        else if h2 : a < (pOne s a).2.1 then pFind s sg (pOne s a).2.1 else -1
      else -1
  else -1
termination_by s.length - a
def rFind (s sg : List UInt8) (a : Nat) : Int :=
  if h : a < s.length then
    if blkB s[a] = true then rFind s sg (a + 1)
    else
      if (rOne s a).2.2 = 0 then
        if (rOne s a).1.k = 0 then
          match (subs s a (rOne s a).2.1).findIdx? (sg.contains ·) with
          | some i => (a : Int) + i
          | none => if h2 : a < (rOne s a).2.1 then rFind s sg (rOne s a).2.1 else -1
        else if h2 : a < (rOne s a).2.1 then rFind s sg (rOne s a).2.1 else -1
      else -1
  else -1
termination_by s.length - a
/-- A plain piece is what stands there. -/
theorem one_plain (s : List UInt8) (a : Nat) (h0 : (rOne s a).2.2 = 0) (hk : (rOne s a).1.k = 0) : (rOne s a).1.t = subs s a (rOne s a).2.1 := by
  unfold rOne at *
  split at h0
  · rename_i h1
    rw [if_pos h1] at hk
    unfold rQuo at *
    split at h0
    · simp at h0
    · rename_i h2
      rw [if_neg h2] at hk
      simp at hk
  · rename_i h1
    rw [if_neg h1] at hk ⊢
    split at h0
    · rename_i h2
      rw [if_pos h2] at hk
      unfold rCmd at *
      simp only at *
      split at h0
      · rename_i h3
        rw [if_pos h3] at hk
        simp at hk
      · simp at h0
    · rename_i h2
      rw [if_neg h2] at hk ⊢
      split at h0
      · rename_i h3
        rw [if_pos h3] at hk
        unfold rDol at *
        simp only at *
        repeat' (split at h0)
        all_goals (try (simp at h0; done))
        all_goals (exfalso; simp_all)
      · rename_i h3
        rw [if_neg h3]
        rfl
theorem find_law (s sg : List UInt8) : ∀ (n a : Nat), s.length - a ≤ n → pFind s sg a = rFind s sg a := by
  intro n
  induction n with
  | zero =>
    intro a hn
    unfold pFind rFind
    rw [dif_neg (by omega), dif_neg (by omega)]
  | succ n ih =>
    intro a hn
    unfold pFind rFind
    by_cases h : a < s.length
    · rw [dif_pos h, dif_pos h]
      by_cases hb : blkB s[a] = true
      · rw [if_pos hb, if_pos hb]
        exact ih _ (by omega)
      · rw [if_neg hb, if_neg hb]
        try simp only
        obtain ⟨h1, h2⟩ := one_law s a
        by_cases h0 : (rOne s a).2.2 = 0
        · have e := h2 h0
          rw [e, if_pos h0, if_pos h0]
          have hg := (rOne_gt s a h (by simpa using hb)).resolve_left (by simpa using h0)
          rw [dif_pos hg.1, dif_pos hg.1, ih _ (by omega)]
          by_cases hk : (rOne s a).1.k = 0
          · rw [if_pos hk, if_pos hk, one_plain s a h0 hk]
          · rw [if_neg hk, if_neg hk]
        · rw [if_neg h0, if_neg (by rw [h1]; exact h0)]
    · rw [dif_neg h, dif_neg h]
theorem rFind_lt (s sg : List UInt8) : ∀ (n a : Nat), s.length - a ≤ n → rFind s sg a < 0 ∨ ((a : Int) ≤ rFind s sg a ∧ rFind s sg a < s.length ∧ ∃ b ∈ sg, s[(rFind s sg a).toNat]? = some b) := by
  intro n
  induction n with
  | zero =>
    intro a hn
    unfold rFind
    rw [dif_neg (by omega)]
    exact .inl (by decide)
  | succ n ih =>
    intro a hn
    unfold rFind
    by_cases h : a < s.length
    · rw [dif_pos h]
      by_cases hb : blkB s[a] = true
      · rw [if_pos hb]
        have := ih (a + 1) (by omega)
        rcases this with h1 | ⟨h1, h2⟩
        · exact .inl h1
        · exact .inr ⟨by omega, h2⟩
      · rw [if_neg hb]
        try simp only
        by_cases h0 : (rOne s a).2.2 = 0
        · rw [if_pos h0]
          have hg := (rOne_gt s a h (by simpa using hb)).resolve_left (by simpa using h0)
          have hrest : (if h2 : a < (rOne s a).2.1 then rFind s sg (rOne s a).2.1 else -1) < 0 ∨ ((a : Int) ≤ (if h2 : a < (rOne s a).2.1 then rFind s sg (rOne s a).2.1 else -1) ∧ (if h2 : a < (rOne s a).2.1 then rFind s sg (rOne s a).2.1 else -1) < s.length ∧ ∃ b ∈ sg, s[(if h2 : a < (rOne s a).2.1 then rFind s sg (rOne s a).2.1 else -1).toNat]? = some b) := by
            rw [dif_pos hg.1]
            rcases ih (rOne s a).2.1 (by omega) with h1 | ⟨h1, h2⟩
            · exact .inl h1
            · exact .inr ⟨by omega, h2⟩
          by_cases hk : (rOne s a).1.k = 0
          · rw [if_pos hk]
            split
            · rename_i i hi
              refine .inr ?_
              obtain ⟨hil, hp⟩ := List.findIdx?_eq_some_iff_getElem.1 hi
              have hlen := subs_len s a _ hg.2
              refine ⟨by omega, by omega, s[a + i], ?_, ?_⟩
              · have := hp.1
                have e : (subs s a (rOne s a).2.1)[i] = s[a + i]'(by omega) := by simp [subs]
                rw [e] at this
                simpa using this
              · rw [show ((a : Int) + (i : Int)).toNat = a + i from by omega, List.getElem?_eq_getElem]
            · exact hrest
          · rw [if_neg hk]
            exact hrest
        · rw [if_neg h0]
          exact .inl (by decide)
    · rw [dif_neg h]
      exact .inl (by decide)
end Go.Ab

set_option linter.unusedVariables false
set_option linter.unusedSimpArgs false
namespace Go.Ab

/-- A line as statements read it. -/
structure Li where
  text : List UInt8
  num : Int
  cell : Bool
/-- A statement. -/
structure Sm where
  kind : Nat
  line : Int
  name : List UInt8
  heads : List (List Pc)
  words : List (List Pc)
  flags : Nat
  prog : List UInt8
  recipe : List UInt8
  hidden : Bool
  command : Bool
deriving DecidableEq
def Sm.z : Sm := ⟨0, 0, [], [], [], 0, [], [], false, false⟩
abbrev gaps : List UInt8 := [32, 9]
def trimG (s : List UInt8) : List UInt8 := Lib.trimS s gaps

/-! ## attributes -/
def attrL : List UInt8 := [68, 69, 78, 110, 81, 82, 85, 86]
/-- the program's: from a place on -/
def pAttr (s : List UInt8) (i : Nat) (f : Nat) : (Nat × List UInt8) ⊕ Nat :=
  if h : i < s.length then
    if s[i] = 80 then
      if s.drop (i + 1) = [] then .inr 7 else if 120 < (s.drop (i + 1)).length then .inr 2 else .inl (f, s.drop (i + 1))
    else
      let b := Lib.indexByte attrL s[i]
      if b < 0 then .inr 7 else pAttr s (i + 1) (f ||| 1 <<< b.toNat)
  else .inl (f, [])
termination_by s.length - i
/-- a letter's number -/
def valB (b : UInt8) : Nat := if b = 68 then 1 else if b = 69 then 2 else if b = 78 then 4 else if b = 110 then 8 else if b = 81 then 16 else if b = 82 then 32 else if b = 85 then 64 else if b = 86 then 128 else 0
/-- the document's -/
def rAttr : List UInt8 → Nat → (Nat × List UInt8) ⊕ Nat
  | [], f => .inl (f, [])
  | b :: r, f => if b = 80 then
      if r = [] then .inr 7 else if 121 < r.length + 1 then .inr 2 else .inl (f, r)
    else if valB b = 0 then .inr 7 else rAttr r (if f / valB b % 2 = 1 then f else f + valB b)
theorem val_ix : ∀ n, n < 256 → (UInt8.ofNat n ≠ 80 → (Lib.indexByte attrL (UInt8.ofNat n) < 0 ↔ valB (UInt8.ofNat n) = 0) ∧ (0 ≤ Lib.indexByte attrL (UInt8.ofNat n) → Lib.indexByte attrL (UInt8.ofNat n) < 8 ∧ valB (UInt8.ofNat n) = 1 <<< (Lib.indexByte attrL (UInt8.ofNat n)).toNat)) := by decide +kernel
theorem or_bit : ∀ f, f < 256 → ∀ b, b < 8 → (f ||| 1 <<< b) = (if f / (1 <<< b) % 2 = 1 then f else f + 1 <<< b) ∧ (f ||| 1 <<< b) < 256 := by decide +kernel
theorem byte_all {P : UInt8 → Prop} (h : ∀ n, n < 256 → P (UInt8.ofNat n)) (b : UInt8) : P b := by
  have := h b.toNat b.toNat_lt
  rwa [UInt8.ofNat_toNat] at this
theorem attr_law (s : List UInt8) : ∀ (n i f : Nat), s.length - i ≤ n → f < 256 → pAttr s i f = rAttr (s.drop i) f := by
  intro n
  induction n with
  | zero =>
    intro i f hn hf
    unfold pAttr
    rw [dif_neg (by omega), List.drop_eq_nil_of_le (by omega)]
    rfl
  | succ n ih =>
    intro i f hn hf
    unfold pAttr
    by_cases h : i < s.length
    · rw [dif_pos h, List.drop_eq_getElem_cons h]
      simp only [rAttr]
      by_cases h1 : s[i] = 80
      · rw [if_pos h1, if_pos h1]
        by_cases h2 : s.drop (i + 1) = []
        · rw [if_pos h2, if_pos h2]
        · rw [if_neg h2, if_neg h2]
          by_cases h3 : 120 < (s.drop (i + 1)).length
          · rw [if_pos h3, if_pos (by omega)]
          · rw [if_neg h3, if_neg (by omega)]
      · rw [if_neg h1, if_neg h1]
        obtain ⟨h2, h3⟩ := byte_all (P := fun b => b ≠ 80 → (Lib.indexByte attrL b < 0 ↔ valB b = 0) ∧ (0 ≤ Lib.indexByte attrL b → Lib.indexByte attrL b < 8 ∧ valB b = 1 <<< (Lib.indexByte attrL b).toNat)) val_ix s[i] h1
        by_cases h4 : Lib.indexByte attrL s[i] < 0
        · rw [if_pos h4, if_pos (h2.1 h4)]
        · rw [if_neg h4, if_neg (fun e => h4 (h2.2 e))]
          obtain ⟨h5, h6⟩ := h3 (by omega)
          obtain ⟨h7, h8⟩ := or_bit f hf (Lib.indexByte attrL s[i]).toNat (by omega)
          rw [ih (i + 1) _ (by omega) h8, h7, h6]
    · rw [dif_neg h, List.drop_eq_nil_of_le (by omega)]
      rfl
theorem pAttr_lt (s : List UInt8) : ∀ (n i f : Nat), s.length - i ≤ n → f < 256 → ∀ g p, pAttr s i f = .inl (g, p) → g < 256 := by
  intro n
  induction n with
  | zero =>
    intro i f hn hf g p h
    unfold pAttr at h
    rw [dif_neg (by omega)] at h
    injection h with h
    injection h with h1 h2
    omega
  | succ n ih =>
    intro i f hn hf g p h
    unfold pAttr at h
    by_cases hi : i < s.length
    · rw [dif_pos hi] at h
      split at h
      · split at h
        · simp at h
        · split at h
          · simp at h
          · injection h with h
            injection h with h1 h2
            omega
      · rename_i h1
        simp only at h
        split at h
        · simp at h
        · rename_i h4
          obtain ⟨h2, h3⟩ := byte_all (P := fun b => b ≠ 80 → (Lib.indexByte attrL b < 0 ↔ valB b = 0) ∧ (0 ≤ Lib.indexByte attrL b → Lib.indexByte attrL b < 8 ∧ valB b = 1 <<< (Lib.indexByte attrL b).toNat)) val_ix s[i] h1
          obtain ⟨h5, h6⟩ := h3 (by omega)
          obtain ⟨h7, h8⟩ := or_bit f hf (Lib.indexByte attrL s[i]).toNat (by omega)
          exact ih (i + 1) _ (by omega) h8 g p h
    · rw [dif_neg hi] at h
      injection h with h
      injection h with h1 h2
      omega

/-! ## one line, the program's way -/
def pInc (rest : List UInt8) : Sm ⊕ Nat :=
  if Lib.hasPrefix rest [124] = true then
    if trimG (Lib.trimPrefix rest [124]) = [] then .inr 3 else .inl { Sm.z with kind := 3, command := true, name := trimG (Lib.trimPrefix rest [124]) }
  else match pWords rest with
    | .inr e => .inr e
    | .inl [] => .inr 3
    | .inl (w :: ws) => .inl { Sm.z with kind := 3, words := w :: ws }
def hides (s : List UInt8) : Bool := decide (trimG s ≠ [] ∧ Lib.trimS (trimG s) [85] = [])
def pAsg (name rest : List UInt8) : Sm ⊕ Nat :=
  if namOk (trimG name) = true then
    let k := pFind rest [61] 0
    let hid := decide (0 ≤ k) && hides (rest.take k.toNat)
    match pWords (if hid = true then rest.drop (k.toNat + 1) else rest) with
    | .inr e => .inr e
    | .inl ws => .inl { Sm.z with kind := 1, name := trimG name, hidden := hid, words := ws }
  else .inr 4
def pTail (hs : List (List Pc)) (f : Nat) (p rest : List UInt8) : Sm ⊕ Nat :=
  match pWords rest with
  | .inr e => .inr e
  | .inl ws => .inl { Sm.z with kind := 2, heads := hs, flags := f, prog := p, words := ws }
def pRul (heads rest : List UInt8) : Sm ⊕ Nat :=
  match pWords heads with
  | .inr e => .inr e
  | .inl [] => .inr 3
  | .inl (w :: ws) =>
    match rest with
    | [] => pTail (w :: ws) 0 [] []
    | b :: r =>
      if gaps.contains b = true then pTail (w :: ws) 0 [] (b :: r)
      else if (Lib.cut (b :: r) [58]).2.2 = true then
        match pAttr (Lib.cut (b :: r) [58]).1 0 0 with
        | .inr e => .inr e
        | .inl (f, p) => pTail (w :: ws) f p (Lib.cut (b :: r) [58]).2.1
      else .inr 7
def pOneS (t : List UInt8) : Sm ⊕ Nat :=
  if Lib.hasPrefix t [60] = true then pInc (Lib.trimPrefix t [60])
  else
    let k := pFind t [58, 61] 0
    if k < 0 then (match pWords t with | .inr e => .inr e | .inl _ => .inr 3)
    else if t[k.toNat]? = some 61 then pAsg (t.take k.toNat) (t.drop (k.toNat + 1))
    else pRul (t.take k.toNat) (t.drop (k.toNat + 1))

/-! ## one line, the document's way -/
def colon (s : List UInt8) : Nat := (s.takeWhile fun b => !(b == 58)).length
def rTail (hs : List (List Pc)) (f : Nat) (p rest : List UInt8) : Sm ⊕ Nat :=
  match rWords rest with
  | .inr e => .inr e
  | .inl ws => .inl { Sm.z with kind := 2, heads := hs, flags := f, prog := p, words := ws }
def rOneS (t : List UInt8) : Sm ⊕ Nat :=
  if t[0]? = some 60 then
    if t[1]? = some 124 then
      if trimG (t.drop 2) = [] then .inr 3 else .inl { Sm.z with kind := 3, command := true, name := trimG (t.drop 2) }
    else match rWords (t.drop 1) with
      | .inr e => .inr e
      | .inl [] => .inr 3
      | .inl (w :: ws) => .inl { Sm.z with kind := 3, words := w :: ws }
  else
    let k := rFind t [58, 61] 0
    if k < 0 then (match rWords t with | .inr e => .inr e | .inl _ => .inr 3)
    else
      let rest := t.drop (k.toNat + 1)
      if t[k.toNat]? = some 61 then
        if namOk (trimG (t.take k.toNat)) = true then
          let j := rFind rest [61] 0
          let hid := decide (0 ≤ j) && (decide (trimG (rest.take j.toNat) ≠ []) && (trimG (rest.take j.toNat)).all (· == 85))
          match rWords (if hid = true then rest.drop (j.toNat + 1) else rest) with
          | .inr e => .inr e
          | .inl ws => .inl { Sm.z with kind := 1, name := trimG (t.take k.toNat), hidden := hid, words := ws }
        else .inr 4
      else match rWords (t.take k.toNat) with
        | .inr e => .inr e
        | .inl [] => .inr 3
        | .inl (w :: ws) =>
          match rest with
          | [] => rTail (w :: ws) 0 [] []
          | b :: r =>
            if gaps.contains b = true then rTail (w :: ws) 0 [] (b :: r)
            else if colon (b :: r) = (b :: r).length then .inr 7
            else match rAttr ((b :: r).take (colon (b :: r))) 0 with
              | .inr e => .inr e
              | .inl (f, p) => rTail (w :: ws) f p ((b :: r).drop (colon (b :: r) + 1))

theorem dropWhile_nil {α : Type} (p : α → Bool) : ∀ l : List α, l.dropWhile p = [] ↔ ∀ x ∈ l, p x = true
  | [] => by simp
  | b :: l => by
    rw [List.dropWhile_cons]
    by_cases h : p b = true
    · rw [if_pos h, dropWhile_nil p l]
      simp [h]
    · rw [if_neg h]
      simp [h]
theorem takeWhile_all {α : Type} (p : α → Bool) (x : α) : ∀ l : List α, x ∈ l.takeWhile p → p x = true
  | [], h => by simp at h
  | b :: l, h => by
    rw [List.takeWhile_cons] at h
    split at h
    · rename_i hb
      rcases List.mem_cons.1 h with rfl | h
      · exact hb
      · exact takeWhile_all p x l h
    · simp at h
theorem hides_law (t : List UInt8) : hides t = (decide (trimG t ≠ []) && (trimG t).all (· == 85)) := by
  unfold hides
  generalize trimG t = s
  have : Lib.trimS s [85] = [] ↔ s.all (· == 85) = true := by
    unfold Lib.trimS Lib.trimLeftS Lib.trimRightS
    rw [dropWhile_nil]
    constructor
    · intro h
      rw [List.all_eq_true]
      intro b hb
      by_cases hc : ([85] : List UInt8).contains b = true
      · simpa using hc
      · exfalso
        have hm : b ∈ s.reverse.dropWhile fun x => ([85] : List UInt8).contains x := by
          have hb' : b ∈ s.reverse := by simpa using hb
          rw [← List.takeWhile_append_dropWhile (p := fun x => ([85] : List UInt8).contains x) (l := s.reverse)] at hb'
          rcases List.mem_append.1 hb' with h1 | h1
          · exact absurd (takeWhile_all _ _ _ h1) hc
          · exact h1
        have := h b (by simpa using hm)
        exact hc this
    · intro h b hb
      rw [List.all_eq_true] at h
      have hm : b ∈ s := by
        have h1 := (List.dropWhile_suffix (fun x => ([85] : List UInt8).contains x) (l := s.reverse)).subset (by simpa using hb)
        simpa using h1
      simpa using h b hm
  by_cases h1 : s = []
  · simp [h1]
  · by_cases h2 : s.all (· == 85) = true
    · simp [h1, this.2 h2]
      simpa using h2
    · have : ¬ Lib.trimS s [85] = [] := fun e => h2 (this.1 e)
      simp only [Bool.not_eq_true] at h2
      rw [h2]
      simp [this]
theorem colon_cut (s : List UInt8) : (Lib.cut s [58] = if colon s = s.length then (s, [], false) else (s.take (colon s), s.drop (colon s + 1), true)) := by
  have key : Lib.index s [58] = if colon s = s.length then -1 else (colon s : Int) := by
    induction s with
    | nil => rfl
    | cons b l ih =>
      unfold Lib.index colon
      rw [List.takeWhile_cons]
      by_cases hb : b = 58
      · subst hb
        simp [List.isPrefixOf]
      · have h1 : (b == 58) = false := by simpa using hb
        have h2 : (([58] : List UInt8).isPrefixOf (b :: l)) = false := by simp [List.isPrefixOf, Ne.symm hb]
        rw [h2, ih]
        simp only [h1, Bool.not_false, if_true, Bool.false_eq_true, if_false, List.length_cons]
        unfold colon
        by_cases h3 : (l.takeWhile fun b => !(b == 58)).length = l.length
        · simp [h3]
        · rw [if_neg h3]
          have h4 : ¬ (((l.takeWhile fun b => !(b == 58)).length : Int) == -1) = true := by simp
          rw [if_neg h4, if_neg (by omega)]
          omega
  unfold Lib.cut
  rw [key]
  by_cases h : colon s = s.length
  · rw [if_pos h, if_pos h, if_neg (by decide)]
  · rw [if_neg h, if_neg h, if_pos (by omega)]
    simp
theorem tail_law (hs : List (List Pc)) (f : Nat) (p rest : List UInt8) : pTail hs f p rest = rTail hs f p rest := by
  unfold pTail rTail
  rw [words_law]
theorem hasPrefix_one (t : List UInt8) (b : UInt8) : Lib.hasPrefix t [b] = decide (t[0]? = some b) := by
  cases t with
  | nil => simp [Lib.hasPrefix, List.isPrefixOf]
  | cons c r =>
    simp [Lib.hasPrefix, List.isPrefixOf]
    by_cases h : b = c
    · simp [h]
    · simp [h, Ne.symm h]
theorem trimPrefix_one (t : List UInt8) (b : UInt8) (h : t[0]? = some b) : Lib.trimPrefix t [b] = t.drop 1 := by
  unfold Lib.trimPrefix
  rw [hasPrefix_one, if_pos (by simpa using h)]
  rfl
theorem pFind_eq (s sg : List UInt8) : pFind s sg 0 = rFind s sg 0 := find_law s sg s.length 0 (by omega)
theorem oneS_law (t : List UInt8) : pOneS t = rOneS t := by
  unfold pOneS rOneS
  rw [hasPrefix_one]
  by_cases h1 : t[0]? = some 60
  · rw [if_pos (by simpa using h1), if_pos h1, trimPrefix_one t 60 h1]
    unfold pInc
    rw [hasPrefix_one]
    have e : (t.drop 1)[0]? = t[1]? := by simp
    rw [e]
    by_cases h2 : t[1]? = some 124
    · rw [if_pos (by simpa using h2), if_pos h2, trimPrefix_one _ 124 (by rw [e]; exact h2), List.drop_drop]
    · rw [if_neg (by simpa using h2), if_neg h2, words_law]
  · rw [if_neg (by simpa using h1), if_neg h1]
    simp only [pFind_eq, words_law]
    by_cases h2 : rFind t [58, 61] 0 < 0
    · rw [if_pos h2, if_pos h2]
    · rw [if_neg h2, if_neg h2]
      by_cases h3 : t[(rFind t [58, 61] 0).toNat]? = some 61
      · rw [if_pos h3, if_pos h3]
        unfold pAsg
        simp only [pFind_eq, words_law, hides_law]
      · rw [if_neg h3, if_neg h3]
        unfold pRul
        rw [words_law]
        cases rWords (t.take (rFind t [58, 61] 0).toNat) with
        | inr e => rfl
        | inl ws =>
          cases ws with
          | nil => rfl
          | cons w ws =>
            simp only
            cases t.drop ((rFind t [58, 61] 0).toNat + 1) with
            | nil => exact tail_law _ _ _ _
            | cons b r =>
              simp only [colon_cut, tail_law]
              by_cases h4 : gaps.contains b = true
              · rw [if_pos h4, if_pos h4]
              · rw [if_neg h4, if_neg h4]
                by_cases h5 : colon (b :: r) = (b :: r).length
                · rw [if_pos h5, if_pos h5]
                  simp
                · rw [if_neg h5, if_neg h5]
                  simp only [if_true]
                  rw [attr_law _ _ 0 0 (Nat.le_refl _) (by omega), List.drop_zero]

/-! ## all lines -/
def addRec (out : List Sm) (t : List UInt8) : List Sm := match out.getLast? with
  | some s => out.dropLast ++ [{ s with recipe := s.recipe ++ t ++ [10] }]
  | none => out
/-- the program: the statements so far; may the last one's recipe go on? -/
def pParse : List Li → List Sm → Bool → List Sm ⊕ (Nat × Int)
  | [], out, _ => .inl out
  | l :: r, out, op =>
    if l.cell = true ∧ op = true then pParse r (addRec out l.text) op
    else if l.cell = true ∧ trimG l.text ≠ [] then .inr (3, l.num)
    else if l.cell = true ∨ l.text = [] then pParse r out false
    else match pOneS l.text with
      | .inr e => .inr (e, l.num)
      | .inl s => pParse r (out ++ [{ s with line := l.num }]) (decide (s.kind = 2))
/-- the lines of a recipe, and what is behind them -/
def recs : List Li → List UInt8 × List Li
  | [] => ([], [])
  | l :: r => if l.cell = true then (l.text ++ [10] ++ (recs r).1, (recs r).2) else ([], l :: r)
theorem recs_le : ∀ l : List Li, (recs l).2.length ≤ l.length
  | [] => by simp [recs]
  | l :: r => by
    have := recs_le r
    unfold recs
    split <;> simp <;> omega
/-- the document -/
def rParse (ls : List Li) (out : List Sm) : List Sm ⊕ (Nat × Int) :=
  match ls with
  | [] => .inl out
  | l :: r =>
    if l.cell = true then (if trimG l.text ≠ [] then .inr (3, l.num) else rParse r out)
    else if l.text = [] then rParse r out
    else match rOneS l.text with
      | .inr e => .inr (e, l.num)
      | .inl s => if s.kind = 2 then rParse (recs r).2 (out ++ [{ s with line := l.num, recipe := s.recipe ++ (recs r).1 }]) else rParse r (out ++ [{ s with line := l.num }])
termination_by ls.length
decreasing_by
  all_goals simp_wf
  all_goals (try omega)
  all_goals (have := recs_le r; omega)
theorem addRec_app (out : List Sm) (s : Sm) (t : List UInt8) : addRec (out ++ [s]) t = out ++ [{ s with recipe := s.recipe ++ t ++ [10] }] := by
  simp [addRec]
theorem parse_recs (out : List Sm) : ∀ (r : List Li) (s : Sm), pParse r (out ++ [s]) true = pParse (recs r).2 (out ++ [{ s with recipe := s.recipe ++ (recs r).1 }]) true
  | [], s => by simp [recs, pParse]
  | l :: r, s => by
    by_cases h : l.cell = true
    · rw [recs, if_pos h]
      conv => lhs; unfold pParse
      rw [if_pos ⟨h, rfl⟩, addRec_app, parse_recs out r]
      simp
    · rw [recs, if_neg h]
      simp
theorem recs_head : ∀ (r : List Li) (l : Li) (r' : List Li), (recs r).2 = l :: r' → l.cell = false
  | [], l, r', h => by simp [recs] at h
  | x :: r, l, r', h => by
    unfold recs at h
    split at h
    · exact recs_head r l r' h
    · rename_i hc
      injection h with h1 h2
      subst h1
      simpa using hc
theorem parse_open (out : List Sm) (ls : List Li) (h : ∀ l r', ls = l :: r' → l.cell = false) (a b : Bool) : pParse ls out a = pParse ls out b := by
  cases ls with
  | nil => rfl
  | cons l r =>
    have hc := h l r rfl
    unfold pParse
    simp only [hc, Bool.false_eq_true, false_and, if_false, false_or]
theorem parse_law : ∀ (n : Nat) (ls : List Li) (out : List Sm), ls.length ≤ n → pParse ls out false = rParse ls out := by
  intro n
  induction n with
  | zero =>
    intro ls out hn
    have : ls = [] := List.eq_nil_of_length_eq_zero (by omega)
    subst this
    simp [pParse, rParse]
  | succ n ih =>
    intro ls out hn
    cases ls with
    | nil => simp [pParse, rParse]
    | cons l r =>
      simp only [List.length_cons] at hn
      unfold pParse rParse
      cases hc : l.cell with
      | true =>
        simp only [Bool.false_eq_true, and_false, if_false, true_and, if_true, true_or]
        by_cases ht : trimG l.text = []
        · simp only [ht, ne_eq, not_true_eq_false, if_false]
          exact ih r out (by omega)
        · simp [ht]
      | false =>
        simp only [Bool.false_eq_true, false_and, if_false, false_or]
        by_cases ht : l.text = []
        · rw [if_pos ht, if_pos ht]
          exact ih r out (by omega)
        · rw [if_neg ht, if_neg ht, oneS_law]
          cases rOneS l.text with
          | inr e => rfl
          | inl s =>
            simp only
            by_cases hk : s.kind = 2
            · rw [if_pos hk, decide_eq_true hk, parse_recs, parse_open _ _ (fun l' r' h => recs_head r l' r' h) true false, ih _ _ (by have := recs_le r; omega)]
            · rw [if_neg hk, decide_eq_false hk]
              exact ih r _ (by omega)
end Go.Ab
