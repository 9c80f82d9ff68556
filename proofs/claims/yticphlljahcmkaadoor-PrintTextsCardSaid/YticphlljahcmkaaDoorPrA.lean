/- One text of a proof that a law of this seat says true for every input: printed rules. It holds of the given program under the conditions that the row prints. -/
import Derived.Test.YticphlljahcmkaaDoorLnA
import Derived.Test.YticphlljahcmkaaDoorAbLibs2
import Derived.Lib.Replace
import Derived.Lib.SplitLaws
set_option linter.unusedVariables false
set_option linter.unusedSimpArgs false
set_option maxRecDepth 100000
namespace Go.Ab
open Go.Proofs
variable {glob : Nat → Option (List D)}

/-- quote.Blank -/
def blankB (b : UInt8) : Bool := decide (b = 32 ∨ b = 9 ∨ b = 10)
theorem blank_ix : ∀ n, n < 256 → decide (0 ≤ Lib.indexByte [32, 9, 10] (UInt8.ofNat n)) = blankB (UInt8.ofNat n) := by decide +kernel
theorem blank_ix' (b : UInt8) : decide (0 ≤ Lib.indexByte [32, 9, 10] b) = blankB b := by
  have := blank_ix b.toNat b.toNat_lt
  simpa using this
theorem ev92 (b : UInt8) : fnK (mkCtx tab glob) EL kp92 fr92 0 Tryd.f92 [encB b] = some [.v (.bool (blankB b))] := by
  have := blank_ix' b
  simp [Tryd.f92, EL, F93, ← this]
def FB : List D → Option (List D)
  | [.v (.int .u8 c)] => if 0 ≤ c ∧ c < 256 then some [.v (.bool (blankB c.toNat.toUInt8))] else none
  | _ => none
theorem FB_at (b : UInt8) : FB [.v (.int .u8 b.toNat)] = some [.v (.bool (blankB b))] := by
  have := b.toNat_lt
  simp only [FB]
  rw [if_pos ⟨by omega, by omega⟩]
  simp
/-- The library's functions that rules' text needs. -/
def EQ0 : Abs := ext (ext (ext (ext EL 64 F64) 96 F96) 135 F135) 80 F80
def EQ1 : Abs := ext EQ0 92 FB
section
variable {m : Int} (h20 : glob 20 = some [.v (.int .i64 m)])
include h20
theorem EQ0_ok : ∀ f, Pure Tryd.prog (mkCtx tab glob) f (EQ0 f) := ext_ok (ext_ok (ext_ok (ext_ok (EL_ok h20) F64_ok) (F96_ok h20)) (F135_ok h20)) F80_ok
theorem EQ1_ok : ∀ f, Pure Tryd.prog (mkCtx tab glob) f (EQ1 f) := by
  refine ext_ok (EQ0_ok h20) ?_
  refine pure_of (T_ok glob) (EL_ok h20) Tryd.func92 (by kernel_rfl) (kp := kp92) (fr := fr92) (by kernel_rfl) fun ds rs hF => ?_
  unfold FB at hF
  split at hF
  · rename_i c
    split at hF
    · rename_i h
      cases hF
      refine ⟨0, ?_⟩
      have := ev92 (glob := glob) c.toNat.toUInt8
      rw [encB, show ((c.toNat.toUInt8).toNat : Int) = c by simp; omega] at this
      exact this
    · simp at hF
  · simp at hF
end
/-- quote.Plain -/
def badB (b : UInt8) : Bool := blankB b || decide (b = 39) || decide (0 ≤ Lib.indexByte [35, 36, 96, 58, 61, 60, 92, 59, 38, 124, 40, 41, 123, 125, 91, 93, 42, 63, 94, 126] b)
def plainS (s : List UInt8) : Bool := !s.any badB && !s.isEmpty
set_option maxHeartbeats 4000000 in
theorem ev63 (s : List UInt8) (hl : s.length < 4294967281) : fnK (mkCtx tab glob) EQ1 kp63 fr63 (s.length + 2) Tryd.f63 [.s s] = some [.v (.bool (plainS s))] := by
  simp [Tryd.f63, EQ1, EQ0, EL]
  refine loop_rule (R := List D) (σ := Nat) (fun j => ⟨slots 29 [(0, .d (.s s)), (5, .d (.v (.int .i64 s.length))), (6, .d (.v (.int .i64 j)))], []⟩) (fun j => s.length - j) (fun j => j ≤ s.length) (fun j => some [.v (.bool (!(s.drop j).any badB && !s.isEmpty))]) 0 [0, 5, 6] (by simp [kp63]) (by omega) (by omega) (by simp) ?_
  intro j κ' hj hn he hr
  have hw : IntKind.i64.wrap (↑j + 1) = ↑j + 1 := wrap_i64 (by omega) (by omega)
  by_cases hjl : j < s.length
  · have hd : s.drop j = s[j] :: s.drop (j + 1) := List.drop_eq_getElem_cons hjl
    have hB := FB_at s[j]
    generalize hb : s[j] = b at hd hB
    have h93 : F93 [.s [35, 36, 96, 58, 61, 60, 92, 59, 38, 124, 40, 41, 123, 125, 91, 93, 42, 63, 94, 126], .v (.int .u8 b.toNat)] = some [.v (.int .i64 (Lib.indexByte [35, 36, 96, 58, 61, 60, 92, 59, 38, 124, 40, 41, 123, 125, 91, 93, 42, 63, 94, 126] b))] := by simp [F93]
    have hbad : badB b = (blankB b || decide (b = 39) || decide (0 ≤ Lib.indexByte [35, 36, 96, 58, 61, 60, 92, 59, 38, 124, 40, 41, 123, 125, 91, 93, 42, 63, 94, 126] b)) := rfl
    generalize hx : Lib.indexByte [35, 36, 96, 58, 61, 60, 92, 59, 38, 124, 40, 41, 123, 125, 91, 93, 42, 63, 94, 126] b = x at h93 hbad
    cases h1 : blankB b with
    | true =>
      rw [h1] at hB hbad
      simp [hjl, hb, hB, hr, hd, hbad]
    | false =>
      rw [h1] at hB hbad
      by_cases h2 : b = 39
      · have hbad' : badB b = true := by rw [hbad]; simp [h2]
        simp [hjl, hb, hB, hr, hd, hbad', eq_true h2]
      · by_cases h3 : 0 ≤ x
        · simp [hjl, hb, hB, hr, hd, hbad, h2, h3, h93]
        · simp [hjl, hb, hB, hr, hd, hbad, h2, h3, h93, hw]
          refine (hn (j + 1) _ (by omega) (by omega) (by simp)).trans ?_
          simp
  · have hd : s.drop j = [] := by simp; omega
    simp [hjl, he, hd]
end Go.Ab

set_option linter.unusedVariables false
set_option linter.unusedSimpArgs false
set_option maxRecDepth 100000
namespace Go.Ab
open Go.Proofs
variable {glob : Nat → Option (List D)}

/-- A byte twice. -/
def dblB (c : UInt8) : List UInt8 → List UInt8
  | [] => []
  | b :: l => if b = c then c :: c :: dblB c l else b :: dblB c l
theorem ixc_none (c : UInt8) (l : List UInt8) (h : c ∉ l) : Lib.index l [c] = -1 := by
  induction l with
  | nil => rfl
  | cons b l ih =>
    simp only [List.mem_cons, not_or] at h
    unfold Lib.index
    rw [ih h.2]
    simp [List.isPrefixOf, h.1]
theorem ixc_some (c : UInt8) (a b : List UInt8) (h : c ∉ a) : Lib.index (a ++ c :: b) [c] = a.length := by
  induction a with
  | nil => simp [Lib.index, List.isPrefixOf]
  | cons x a ih =>
    simp only [List.mem_cons, not_or] at h
    rw [List.cons_append]
    unfold Lib.index
    rw [ih h.2]
    have h2 : ¬ ((a.length : Int) == -1) = true := by simp
    simp only [List.isPrefixOf, beq_iff_eq, h.1, Bool.false_and, List.length_cons, h2, if_false]
    simp [h.1]
theorem firstc (c : UInt8) (l : List UInt8) : c ∉ l ∨ ∃ a b, l = a ++ c :: b ∧ c ∉ a := by
  induction l with
  | nil => exact .inl (by simp)
  | cons x l ih =>
    by_cases hx : x = c
    · exact .inr ⟨[], l, by simp [hx], by simp⟩
    · rcases ih with h | ⟨a, b, rfl, h⟩
      · exact .inl (by simp [h, Ne.symm hx])
      · exact .inr ⟨x :: a, b, rfl, by simp [h]; exact fun e => hx e.symm⟩
theorem dblB_not (c : UInt8) (l : List UInt8) (h : c ∉ l) : dblB c l = l := by
  induction l with
  | nil => rfl
  | cons b l ih =>
    simp only [List.mem_cons, not_or] at h
    simp only [dblB, ih h.2]
    rw [if_neg (Ne.symm h.1)]
theorem dblB_app (c : UInt8) (a b : List UInt8) (h : c ∉ a) : dblB c (a ++ c :: b) = a ++ c :: c :: dblB c b := by
  induction a with
  | nil => simp [dblB]
  | cons x a ih =>
    simp only [List.mem_cons, not_or] at h
    simp only [List.cons_append, dblB, ih h.2]
    rw [if_neg (Ne.symm h.1)]
theorem repl_dbl (c : UInt8) : ∀ (n : Nat) (l : List UInt8), l.length ≤ n → Lib.replaceK [c] [c, c] (l.count c) l = dblB c l := by
  intro n
  induction n with
  | zero =>
    intro l hl
    have : l = [] := List.eq_nil_of_length_eq_zero (by omega)
    subst this
    rfl
  | succ n ih =>
    intro l hl
    rcases firstc c l with h | ⟨a, b, rfl, h⟩
    · rw [dblB_not c l h, List.count_eq_zero.2 h]
      rfl
    · rw [dblB_app c a b h, List.count_append, List.count_cons_self, List.count_eq_zero.2 h, Nat.zero_add, Lib.replaceK_hit _ _ _ _ _ (ixc_some c a b h)]
      have hd : (a ++ c :: b).drop (a.length + [c].length) = b := by
        rw [← List.drop_drop]
        simp
      rw [hd, ih b (by simp at hl; omega)]
      simp
theorem repl_all (c : UInt8) (l : List UInt8) : Lib.replaceAll l [c] [c, c] = dblB c l := by
  unfold Lib.replaceAll Lib.replace Lib.replaceNum
  have h : ¬ (([c] : List UInt8) == [c, c]) = true := by simp
  rw [if_neg h, if_pos (.inl (by decide)), Lib.count_one]
  exact repl_dbl c l.length l (Nat.le_refl _)
theorem dblB_len (c : UInt8) (l : List UInt8) : (dblB c l).length = l.length + l.count c := by
  induction l with
  | nil => rfl
  | cons b l ih =>
    simp only [dblB]
    split
    · rename_i h
      subst h
      simp [ih]
      omega
    · rename_i h
      simp [ih, List.count_cons, h]
      omega
theorem dblB_le (c : UInt8) (l : List UInt8) : (dblB c l).length ≤ 2 * l.length := by
  have := dblB_len c l
  have := List.count_le_length (a := c) (l := l)
  omega
/-- quote.Quote -/
def quoteS (s : List UInt8) : List UInt8 := if plainS s = true then s else 39 :: dblB 39 s ++ [39]
theorem quoteS_le (s : List UInt8) : (quoteS s).length ≤ 2 * s.length + 2 := by
  have := dblB_le 39 s
  unfold quoteS
  split
  · omega
  · simp; omega
def F63 : List D → Option (List D)
  | [.s s] => if s.length < 4294967281 then some [.v (.bool (plainS s))] else none
  | _ => none
def EQ2 : Abs := ext EQ1 63 F63
theorem ev111 (s : List UInt8) (hl : s.length < 2000000000) : fnK (mkCtx tab glob) EQ2 kp111 fr111 0 Tryd.f111 [.s s] = some [.s (quoteS s)] := by
  have h1 : F63 [.s s] = some [.v (.bool (plainS s))] := by simp only [F63]; rw [if_pos (by omega)]
  have h2 : F135 [.s s, .s [39], .s [39, 39]] = some [.s (dblB 39 s)] := by
    have hc : Lib.countB ⟨s.toArray⟩ ⟨([39] : List UInt8).toArray⟩ ≤ s.length := by
      show Lib.count s [39] ≤ _
      rw [Lib.count_one]
      exact List.count_le_length
    simp only [F135]
    rw [if_pos ⟨by omega, by simp, by simp only [List.length_cons, List.length_nil]; omega⟩, repl_all]
  have h3 := dblB_le 39 s
  have h4 : 1 + (dblB 39 s).length ≤ lim := by unfold lim; omega
  have h5 : (dblB 39 s).length + 1 + 1 ≤ lim := by unfold lim; omega
  cases hp : plainS s with
  | true =>
    rw [hp] at h1
    simp [Tryd.f111, EQ2, EQ1, EQ0, h1, quoteS, hp]
  | false =>
    rw [hp] at h1
    have hq : quoteS s = 39 :: dblB 39 s ++ [39] := by simp [quoteS, hp]
    rw [hq]
    generalize dblB 39 s = t at *
    simp [Tryd.f111, EQ2, EQ1, EQ0, EL, h1, h2, h4, h5]
def F111 : List D → Option (List D)
  | [.s s] => if s.length < 2000000000 then some [.s (quoteS s)] else none
  | _ => none
def EQ3 : Abs := ext EQ2 111 F111
/-- quote.Join -/
def joinQ (l : List (List UInt8)) : List UInt8 := Lib.join (l.map quoteS) [32]
def shortL (n : Nat) (l : List (List UInt8)) : Bool := l.all fun s => decide (s.length < n)
set_option maxHeartbeats 4000000 in
theorem ev83 (l : List (List UInt8)) (hl : l.length < 1000000) (hs : shortL 100000 l = true) (hj : (joinQ l).length ≤ 140737488355328) : fnK (mkCtx tab glob) EQ3 kp83 fr83 (l.length + 2) Tryd.f83 [.sl 1 (l.map .s)] = some [.s (joinQ l)] := by
  simp [Tryd.f83, EQ3, EQ2, EQ1, EQ0, EL]
  refine loop_rule (R := List D) (σ := Nat) (fun j => ⟨slots 20 [(3, .own (1, 3)), (6, .d (.sl 1 (l.map .s))), (7, .d (.v (.int .i64 l.length))), (8, .d (.v (.int .i64 j)))], [((1, 3), .tok 1 ((l.take j).map fun s => .s (quoteS s)))]⟩) (fun j => l.length - j) (fun j => j ≤ l.length) (fun j => some [.s (joinQ l)]) 0 [3, 6, 7, 8] (by simp [kp83]) (by omega) (by omega) (by simp) ?_
  intro j κ' hjl hn he hr
  have hw : IntKind.i64.wrap (↑j + 1) = ↑j + 1 := wrap_i64 (by omega) (by omega)
  by_cases h : j < l.length
  · have hlen : l[j].length < 100000 := by
      have := List.all_eq_true.1 hs l[j] (List.getElem_mem h)
      simpa using this
    have h1 : F111 [.s l[j]] = some [.s (quoteS l[j])] := by simp only [F111]; rw [if_pos (by omega)]
    have ht : (l.take (j + 1)).map (fun s => D.s (quoteS s)) = (l.take j).map (fun s => D.s (quoteS s)) ++ [.s (quoteS l[j])] := by
      rw [List.take_succ_eq_append_getElem h, List.map_append]
      rfl
    have hb : j + 1 ≤ lim := by unfold lim; omega
    have hm : min j l.length = j := by omega
    simp [h, h1, hw, hb, hm]
    refine hn (j + 1) _ (by omega) (by omega) ?_
    rw [ht]
    simp
  · have hj2 : j = l.length := by omega
    subst hj2
    have h1 : F80 [.sl 1 (l.map fun s => D.s (quoteS s)), .s [32]] = some [.s (joinQ l)] := by
      have : (l.map fun s => D.s (quoteS s)) = (l.map quoteS).map .s := by simp
      rw [this]
      simp only [F80, strsOf_map]
      rw [if_pos ⟨by simp; omega, hj⟩]
      rfl
    simp [he, h1]
end Go.Ab

set_option linter.unusedVariables false
set_option linter.unusedSimpArgs false
set_option maxRecDepth 100000
namespace Go.Ab
open Go.Proofs
variable {glob : Nat → Option (List D)}

/-- slices.IndexFunc, from a place on -/
def idxF (q : List UInt8 → Bool) (ls : List (List UInt8)) (j : Nat) : Int := match (ls.drop j).findIdx? q with
  | some i => (i + j : Nat)
  | none => -1
theorem idxF_eq (q : List UInt8 → Bool) (ls : List (List UInt8)) (j : Nat) (hj : j < ls.length) : idxF q ls j = if q ls[j] = true then (j : Int) else idxF q ls (j + 1) := by
  unfold idxF
  rw [List.drop_eq_getElem_cons hj, List.findIdx?_cons]
  by_cases hi : q ls[j] = true
  · simp [hi]
  · rw [if_neg hi, if_neg hi]
    cases h : List.findIdx? q (ls.drop (j + 1)) with
    | none => simp
    | some i => simp; omega
theorem idxF_end (q : List UInt8 → Bool) (ls : List (List UInt8)) (j : Nat) (hj : ls.length ≤ j) : idxF q ls j = -1 := by
  unfold idxF
  rw [List.drop_eq_nil_iff.2 hj]
  rfl
theorem idxF_any (q : List UInt8 → Bool) (ls : List (List UInt8)) : decide (0 ≤ idxF q ls 0) = ls.any q := by
  unfold idxF
  rw [List.drop_zero]
  cases h : ls.findIdx? q with
  | none =>
    rw [List.findIdx?_eq_none_iff] at h
    have : ls.any q = false := by
      rw [List.any_eq_false]
      intro x hx
      simp [h x hx]
    simp [this]
  | some i =>
    have := List.findIdx?_eq_some_iff_getElem.1 h
    obtain ⟨h1, h2, _⟩ := this
    have : ls.any q = true := List.any_eq_true.2 ⟨ls[i], List.getElem_mem h1, h2⟩
    simp [this]
set_option maxHeartbeats 4000000 in
theorem ev95 (E : Abs) (g : FuncId) (q : List UInt8 → Bool) (ls : List (List UInt8)) (hl : ls.length < 4294967281) (hE : ∀ s ∈ ls, E g [.s s] = some [.v (.bool (q s))]) :
    fnK (mkCtx tab glob) E kp95 fr95 (ls.length + 2) Tryd.f95 [.sl 1 (ls.map .s), .fn (.func g) [] []] = some [.v (.int .i64 (idxF q ls 0))] := by
  simp [Tryd.f95]
  refine loop_rule (R := List D) (σ := Nat) (fun j => ⟨slots 19 [(0, .d (.sl 1 (ls.map .s))), (1, .d (.fn (.func g) [] [])), (7, .d (.v (.int .i64 ls.length))), (8, .d (.v (.int .i64 j)))], []⟩) (fun j => ls.length - j) (fun j => j ≤ ls.length) (fun j => some [.v (.int .i64 (idxF q ls j))]) 0 [0, 1, 7, 8] (by simp [kp95]) (by omega) (by omega) (by simp) ?_
  intro j κ' hjl hn he hr
  have hw : IntKind.i64.wrap (↑j + 1) = ↑j + 1 := wrap_i64 (by omega) (by omega)
  by_cases h : j < ls.length
  · have h1 := hE ls[j] (List.getElem_mem h)
    have h2 := idxF_eq q ls j h
    cases hq : q ls[j] with
    | true =>
      rw [hq] at h1 h2
      rw [if_pos rfl] at h2
      simp [h, h1, hr, h2]
    | false =>
      rw [hq] at h1 h2
      rw [if_neg (by simp)] at h2
      simp [h, h1, hw, h2]
      exact hn (j + 1) _ (by omega) (by omega) (by simp)
  · simp [h, he, idxF_end q ls j (by omega)]
/-- What the functions that are handed over tell. -/
def fnB (g : FuncId) : Option (List UInt8 → Bool) := if g = 66 then some fun l => Lib.contains l [10] else if g = 81 then some fun l => decide (120 < l.length) else if g = 82 then some fun l => decide (400 < l.length) else none
def F66 : List D → Option (List D)
  | [.s l] => if l.length < 4294967281 then some [.v (.bool (Lib.contains l [10]))] else none
  | _ => none
def FL81 (n : Nat) : List D → Option (List D)
  | [.s l] => if l.length < 4294967281 then some [.v (.bool (decide (n < l.length)))] else none
  | _ => none
def EC1 : Abs := ext (ext (ext EQ0 66 F66) 81 (FL81 120)) 82 (FL81 400)
def F95 : List D → Option (List D)
  | [.sl 1 xs, .fn (.func g) [] []] => match strsOf xs, fnB g with
    | some ls, some q => if ls.length < 4294967281 ∧ shortL 4294967281 ls = true then some [.v (.int .i64 (idxF q ls 0))] else none
    | _, _ => none
  | _ => none
def EC2 : Abs := ext EC1 95 F95
def F65 : List D → Option (List D)
  | [.sl 1 xs, .fn (.func g) [] []] => match strsOf xs, fnB g with
    | some ls, some q => if ls.length < 4294967281 ∧ shortL 4294967281 ls = true then some [.v (.bool (ls.any q))] else none
    | _, _ => none
  | _ => none
theorem ev66 (l : List UInt8) (hl : l.length < 4294967281) : fnK (mkCtx tab glob) EQ0 kp66 fr66 0 Tryd.f66 [.s l] = some [.v (.bool (Lib.contains l [10]))] := by
  have h : F96 [.s l, .s [10]] = some [.v (.bool (Lib.contains l [10]))] := by simp only [F96]; rw [if_pos hl]
  simp [Tryd.f66, EQ0, h]
theorem ev81 (E : Abs) (l : List UInt8) (hl : l.length < 4294967281) : fnK (mkCtx tab glob) E kp81 fr81 0 Tryd.f81 [.s l] = some [.v (.bool (decide (120 < l.length)))] := by
  by_cases h : 120 < l.length
  · have h' : (120 : Int) < l.length := by omega
    simp [Tryd.f81, h, h']
  · have h' : ¬ (120 : Int) < l.length := by omega
    simp [Tryd.f81, h, h']
theorem ev82 (E : Abs) (l : List UInt8) (hl : l.length < 4294967281) : fnK (mkCtx tab glob) E kp82 fr82 0 Tryd.f82 [.s l] = some [.v (.bool (decide (400 < l.length)))] := by
  by_cases h : 400 < l.length
  · have h' : (400 : Int) < l.length := by omega
    simp [Tryd.f82, h, h']
  · have h' : ¬ (400 : Int) < l.length := by omega
    simp [Tryd.f82, h, h']
theorem short_at {n : Nat} {ls : List (List UInt8)} (h : shortL n ls = true) {s : List UInt8} (hs : s ∈ ls) : s.length < n := by
  have := List.all_eq_true.1 h s hs
  simpa using this
theorem EC1_fn {g : FuncId} {q : List UInt8 → Bool} (hq : fnB g = some q) (s : List UInt8) (hs : s.length < 4294967281) : EC1 g [.s s] = some [.v (.bool (q s))] := by
  unfold fnB at hq
  split at hq
  · rename_i e
    cases hq
    subst e
    simp [EC1, ext, F66, hs]
  · split at hq
    · rename_i e
      cases hq
      subst e
      simp [EC1, ext, FL81, hs]
    · split at hq
      · rename_i e
        cases hq
        subst e
        simp [EC1, ext, FL81, hs]
      · cases hq
theorem ev65 (g : FuncId) (q : List UInt8 → Bool) (hq : fnB g = some q) (ls : List (List UInt8)) (hl : ls.length < 4294967281) (hs : shortL 4294967281 ls = true) :
    fnK (mkCtx tab glob) EC2 kp65 fr65 0 Tryd.f65 [.sl 1 (ls.map .s), .fn (.func g) [] []] = some [.v (.bool (ls.any q))] := by
  have h : F95 [.sl 1 (ls.map .s), .fn (.func g) [] []] = some [.v (.int .i64 (idxF q ls 0))] := by
    simp only [F95, strsOf_map, hq]
    rw [if_pos ⟨hl, hs⟩]
  rw [← idxF_any]
  simp [Tryd.f65, EC2, h]
section
variable {m : Int} (h20 : glob 20 = some [.v (.int .i64 m)])
include h20
theorem EC1_ok : ∀ f, Pure Tryd.prog (mkCtx tab glob) f (EC1 f) := by
  refine ext_ok (ext_ok (ext_ok (EQ0_ok h20) ?_) ?_) ?_
  · refine pure_of (T_ok glob) (EQ0_ok h20) Tryd.func66 (by kernel_rfl) (kp := kp66) (fr := fr66) (by kernel_rfl) fun ds rs hF => ?_
    unfold F66 at hF
    split at hF
    · split at hF
      · rename_i h
        cases hF
        exact ⟨0, ev66 _ h⟩
      · simp at hF
    · simp at hF
  · refine pure_of (T_ok glob) (EQ0_ok h20) Tryd.func81 (by kernel_rfl) (kp := kp81) (fr := fr81) (by kernel_rfl) fun ds rs hF => ?_
    unfold FL81 at hF
    split at hF
    · split at hF
      · rename_i h
        cases hF
        exact ⟨0, ev81 _ _ h⟩
      · simp at hF
    · simp at hF
  · refine pure_of (T_ok glob) (EQ0_ok h20) Tryd.func82 (by kernel_rfl) (kp := kp82) (fr := fr82) (by kernel_rfl) fun ds rs hF => ?_
    unfold FL81 at hF
    split at hF
    · split at hF
      · rename_i h
        cases hF
        exact ⟨0, ev82 _ _ h⟩
      · simp at hF
    · simp at hF
theorem EC2_ok : ∀ f, Pure Tryd.prog (mkCtx tab glob) f (EC2 f) := by
  refine ext_ok (EC1_ok h20) ?_
  refine pure_of (T_ok glob) (EC1_ok h20) Tryd.func95 (by kernel_rfl) (kp := kp95) (fr := fr95) (by kernel_rfl) fun ds rs hF => ?_
  unfold F95 at hF
  split at hF
  · split at hF
    · rename_i ls q hls hq
      split at hF
      · rename_i h
        cases hF
        obtain rfl := strsOf_some hls
        exact ⟨_, ev95 EC1 _ q ls h.1 fun s hs => EC1_fn hq s (short_at h.2 hs)⟩
      · simp at hF
    · simp at hF
  · simp at hF
theorem F65_ok : Pure Tryd.prog (mkCtx tab glob) 65 F65 := by
  refine pure_of (T_ok glob) (EC2_ok h20) Tryd.func65 (by kernel_rfl) (kp := kp65) (fr := fr65) (by kernel_rfl) fun ds rs hF => ?_
  unfold F65 at hF
  split at hF
  · split at hF
    · rename_i ls q hls hq
      split at hF
      · rename_i h
        cases hF
        obtain rfl := strsOf_some hls
        exact ⟨_, ev65 _ q hq ls h.1 h.2⟩
      · simp at hF
    · simp at hF
  · simp at hF
/-- The quotes' functions. -/
theorem EQ2_ok : ∀ f, Pure Tryd.prog (mkCtx tab glob) f (EQ2 f) := by
  refine ext_ok (EQ1_ok h20) ?_
  refine pure_of (T_ok glob) (EQ1_ok h20) Tryd.func63 (by kernel_rfl) (kp := kp63) (fr := fr63) (by kernel_rfl) fun ds rs hF => ?_
  unfold F63 at hF
  split at hF
  · split at hF
    · rename_i h
      cases hF
      exact ⟨_, ev63 _ h⟩
    · simp at hF
  · simp at hF
theorem EQ3_ok : ∀ f, Pure Tryd.prog (mkCtx tab glob) f (EQ3 f) := by
  refine ext_ok (EQ2_ok h20) ?_
  refine pure_of (T_ok glob) (EQ2_ok h20) Tryd.func111 (by kernel_rfl) (kp := kp111) (fr := fr111) (by kernel_rfl) fun ds rs hF => ?_
  unfold F111 at hF
  split at hF
  · split at hF
    · rename_i h
      cases hF
      exact ⟨_, ev111 _ h⟩
    · simp at hF
  · simp at hF
end
end Go.Ab

set_option linter.unusedVariables false
set_option linter.unusedSimpArgs false
set_option maxRecDepth 100000
namespace Go.Ab
open Go.Proofs
variable {glob : Nat → Option (List D)}

/-- attr.Right -/
def rightA (f : Int) (p : List UInt8) : Bool := decide (0 ≤ f) && decide (f ≤ 255) && decide (p.length ≤ 120)
def encA (f : Int) (p : List UInt8) : D := .st [.v (.int .i64 f), .s p]
theorem ev67 (E : Abs) (f : Int) (p : List UInt8) : fnK (mkCtx tab glob) E kp67 fr67 0 Tryd.f67 [encA f p] = some [.v (.bool (rightA f p))] := by
  by_cases h1 : 0 ≤ f
  · by_cases h2 : f ≤ 255
    · by_cases h3 : p.length ≤ 120
      · have h3' : (p.length : Int) ≤ 120 := by omega
        simp [Tryd.f67, encA, rightA, h1, h2, h3, h3']
      · have h3' : ¬ (p.length : Int) ≤ 120 := by omega
        simp [Tryd.f67, encA, rightA, h1, h2, h3, h3']
    · simp [Tryd.f67, encA, rightA, h1, h2]
  · simp [Tryd.f67, encA, rightA, h1]
/-- attr.Attr.Has, at one bit -/
def bits8 : List Int := [1, 2, 4, 8, 16, 32, 64, 128]
def hasA (f k : Int) : Bool := decide (f / k % 2 = 1)
theorem and_bit : ∀ n, n < 256 → bits8.all (fun k => (IntKind.i64.wrap ((BitVec.ofInt 64 (n : Nat) &&& BitVec.ofInt 64 k).toNat : Nat) == k) == hasA (n : Nat) k) = true := by decide +kernel
theorem ev112 (E : Abs) (f : Int) (p : List UInt8) (k : Int) (h0 : 0 ≤ f) (h1 : f < 256) (hk : k ∈ bits8) : fnK (mkCtx tab glob) E kp112 fr112 0 Tryd.f112 [encA f p, .v (.int .i64 k)] = some [.v (.bool (hasA f k))] := by
  obtain ⟨n, rfl⟩ := Int.eq_ofNat_of_zero_le h0
  have := List.all_eq_true.1 (and_bit n (by omega)) k hk
  have h : (IntKind.i64.wrap ((BitVec.ofInt 64 (n : Int) &&& BitVec.ofInt 64 k).toNat : Nat) == k) = hasA n k := by simpa using this
  simp [Tryd.f112, encA]
  rw [← h]
  rfl
def F67 : List D → Option (List D)
  | [.st [.v (.int .i64 f), .s p]] => some [.v (.bool (rightA f p))]
  | _ => none
def F112 : List D → Option (List D)
  | [.st [.v (.int .i64 f), .s p], .v (.int .i64 k)] => if 0 ≤ f ∧ f < 256 ∧ k ∈ bits8 then some [.v (.bool (hasA f k))] else none
  | _ => none
def EA1 : Abs := ext (ext (fun _ _ => none) 67 F67) 112 F112
theorem EA1_ok : ∀ f, Pure Tryd.prog (mkCtx tab glob) f (EA1 f) := by
  refine ext_ok (ext_ok none_ok ?_) ?_
  · refine pure_of (T_ok glob) none_ok Tryd.func67 (by kernel_rfl) (kp := kp67) (fr := fr67) (by kernel_rfl) fun ds rs hF => ?_
    unfold F67 at hF
    split at hF
    · cases hF
      exact ⟨0, ev67 _ _ _⟩
    · simp at hF
  · refine pure_of (T_ok glob) none_ok Tryd.func112 (by kernel_rfl) (kp := kp112) (fr := fr112) (by kernel_rfl) fun ds rs hF => ?_
    unfold F112 at hF
    split at hF
    · split at hF
      · rename_i h
        cases hF
        exact ⟨0, ev112 _ _ _ _ h.1 h.2.1 h.2.2⟩
      · simp at hF
    · simp at hF
/-- The letters of the first bits. -/
def letB : List UInt8 := [68, 69, 78, 110, 81, 82, 85, 86]
def letsA (f : Int) : Nat → List UInt8
  | 0 => []
  | j + 1 => letsA f j ++ (if hasA f ((2 : Int) ^ j) = true then [letB.getD j 0] else [])
theorem letsA_len (f : Int) : ∀ j, (letsA f j).length ≤ j
  | 0 => Nat.le_refl _
  | j + 1 => by
    have := letsA_len f j
    simp only [letsA, List.length_append]
    split <;> simp <;> omega
/-- attr.Text -/
def attrT (f : Int) (p : List UInt8) : List UInt8 := if rightA f p = true then letsA f 8 ++ (if p = [] then [] else [80]) ++ p else []
theorem bytesOf_enc : ∀ l : List UInt8, bytesOf (l.map encB) = some l
  | [] => rfl
  | b :: l => by
    have := b.toNat_lt
    simp only [List.map_cons, encB, bytesOf]
    have ih := bytesOf_enc l
    rw [ih]
    simp only
    rw [if_pos ⟨by omega, by omega⟩]
    simp
theorem pow_bits : ∀ j, j < 8 → (2 : Int) ^ j ∈ bits8 ∧ IntKind.i64.wrap (2 ^ (min j 64)) = 2 ^ j ∧ IntKind.i64.wrap (2 ^ j) = 2 ^ j := by decide
theorem let_at : ∀ j, j < 8 → ([68, 69, 78, 110, 81, 82, 85, 86] : List UInt8)[j]? = some (letB.getD j 0) := by decide
set_option maxHeartbeats 8000000 in
theorem ev84 (f : Int) (p : List UInt8) : fnK (mkCtx tab glob) EA1 kp84 fr84 10 Tryd.f84 [encA f p] = some [.s (attrT f p)] := by
  cases hr : rightA f p with
  | false => simp [Tryd.f84, EA1, encA, F67, hr, attrT]
  | true =>
    have hr' := hr
    simp only [rightA, Bool.and_eq_true, decide_eq_true_eq] at hr'
    obtain ⟨⟨h0, h1⟩, h2⟩ := hr'
    have ht : attrT f p = letsA f 8 ++ (if p = [] then [] else [80]) ++ p := by simp [attrT, hr]
    rw [ht]
    simp [Tryd.f84, EA1, encA, F67, hr, iceMark]


    refine loop_rule (R := List D) (σ := Nat) (fun j => ⟨slots 32 [(1, .ref (1, 1) 0), (3, .own (1, 3)), (8, .d (.v (.int .i64 j)))], [((1, 3), .tok 1 ((letsA f j).map encB)), ((1, 1), .box [.d (.v (.int .i64 f)), .d (.s p)])]⟩) (fun j => 8 - j) (fun j => j ≤ 8) (fun j => some [.s (letsA f 8 ++ ((if p = [] then [] else [80]) ++ p))]) 0 [1, 3, 8] (by simp [kp84]) (by omega) (by omega) (by simp [letsA]) ?_
    intro j κ' hjl hn he hr2
    have hw : IntKind.i64.wrap (↑j + 1) = ↑j + 1 := wrap_i64 (by omega) (by omega)
    by_cases h : j < 8
    · have h' : (j : Int) < 8 := by omega
      obtain ⟨hb1, hb2, hb3⟩ := pow_bits j h
      have hF : F112 [.st [.v (.int .i64 f), .s p], .v (.int .i64 (2 ^ j))] = some [.v (.bool (hasA f (2 ^ j)))] := by
        simp only [F112]
        rw [if_pos ⟨h0, by omega, hb1⟩]
      have hl := letsA_len f j
      have hlim : (letsA f j).length + 1 ≤ lim := by unfold lim; omega
      have hmin : min j IntKind.i64.bits = j := by show min j 64 = j; omega
      have hneg : ¬ ((j : Int) < 0) := by omega
      have hla := let_at j h
      cases hh : hasA f (2 ^ j) with
      | true =>
        rw [hh] at hF
        have hls : letsA f (j + 1) = letsA f j ++ [letB.getD j 0] := by simp [letsA, hh]
        simp [h, h', hw, hmin, hneg, hb3, hF, hlim, hla, fr84]
        refine hn (j + 1) _ (by omega) (by omega) ?_
        rw [hls]
        simp [letB, h]
      | false =>
        rw [hh] at hF
        have hls : letsA f (j + 1) = letsA f j := by simp [letsA, hh]
        simp [h, h', hw, hmin, hneg, hb3, hF, hlim, hla, fr84]
        refine hn (j + 1) _ (by omega) (by omega) ?_
        rw [hls]
        simp
    · have hj : j = 8 := by omega
      subst hj
      have hl := letsA_len f 8
      have hlim : (letsA f 8).length + 1 ≤ lim := by unfold lim; omega
      have hb := bytesOf_enc (letsA f 8)
      have hb2 := bytesOf_enc (letsA f 8 ++ [80])
      generalize letsA f 8 = ls at *
      cases p with
      | nil => 
        have hlim2 : ls.length ≤ lim := by omega
        simp [he, hb, hlim2]
      | cons b p =>
        have hlim2 : ls.length + 1 + (p.length + 1) ≤ lim := by unfold lim; simp at h2; omega
        have hb3 : bytesOf (ls.map encB ++ [.v (.int .u8 80)]) = some (ls ++ [80]) := by
          rw [List.map_append] at hb2
          exact hb2
        simp [he, hlim, hb3, hlim2]
end Go.Ab
