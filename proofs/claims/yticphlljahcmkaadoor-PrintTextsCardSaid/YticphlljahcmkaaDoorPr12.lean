/- One text of a proof that a law of this seat says true for every input: printed rules. It holds of the given program under the conditions that the row prints. -/
import Derived.Test.YticphlljahcmkaaDoorPr11
set_option linter.unusedVariables false
set_option linter.unusedSimpArgs false
set_option maxRecDepth 100000
namespace Go.Ab
open Go.Proofs
variable {glob : Nat → Option (List D)} {p : Nat → Addr} {o : Nat → Obj}

/-- millwrightnum.Long -/
def longL (l : List (List UInt8)) (a b : Nat) : Bool := decide (a < l.length) || l.any fun s => decide (b < s.length)
theorem ev13 (E : Abs) (l : List (List UInt8)) (a b : Nat) (hl : l.length ≤ 9223372036854775807) : fnK (mkCtx tab glob) E kp13 fr13 (l.length + 2) Tryd.f13 [.sl 1 (l.map .s), .v (.int .i64 a), .v (.int .i64 b)] = some [.v (.bool (longL l a b))] := by
  unfold longL
  by_cases h : a < l.length
  · have h' : (a : Int) < l.length := by omega
    simp [Tryd.f13, h, h']
  · have h' : ¬ (a : Int) < l.length := by omega
    rw [decide_eq_false h, Bool.false_or]
    generalize hA : (l.any fun s => decide (b < s.length)) = A
    simp [Tryd.f13, h, h']
    rw [← hA]
    refine loop_rule (R := List D) (σ := Nat) (fun j => ⟨slots 24 [(2, .d (.v (.int .i64 b))), (13, .d (.sl 1 (l.map .s))), (14, .d (.v (.int .i64 l.length))), (15, .d (.v (.int .i64 j)))], []⟩) (fun j => l.length - j) (fun j => j ≤ l.length) (fun j => some [.v (.bool ((l.drop j).any fun s => decide (b < s.length)))]) 0 [2, 13, 14, 15] (by simp [kp13]) (by omega) (by omega) (by simp) ?_
    intro j κ' hj hn he hr
    by_cases hjl : j < l.length
    · have hw : IntKind.i64.wrap (↑j + 1) = ↑j + 1 := wrap_i64 (by omega) (by omega)
      have hd : l.drop j = l[j] :: l.drop (j + 1) := List.drop_eq_getElem_cons hjl
      rw [hd, List.any_cons]
      generalize hP : (l.drop (j + 1)).any (fun s => decide (b < s.length)) = P
      by_cases hb : b < l[j].length
      · have hb' : (b : Int) < (l[j].length : Int) := by omega
        simp [hjl, hb, hb', hr]
      · have hb' : ¬ (b : Int) < (l[j].length : Int) := by omega
        simp [hjl, hb, hb', hw]
        refine (hn (j + 1) _ (by omega) (by omega) (by simp)).trans ?_
        rw [hP]
    · have hd : l.drop j = [] := by simp; omega
      rw [hd]
      simp [hjl, he]
def F13 : List D → Option (List D)
  | [.sl 1 xs, .v (.int .i64 a), .v (.int .i64 b)] => match strsOf xs with
    | some l => if l.length ≤ 9223372036854775807 ∧ 0 ≤ a ∧ 0 ≤ b then some [.v (.bool (longL l a.toNat b.toNat))] else none
    | none => none
  | _ => none
theorem F13_ok : Pure Tryd.prog (mkCtx tab glob) 13 F13 := by
  refine pure_of (T_ok glob) none_ok Tryd.func13 (by kernel_rfl) (kp := kp13) (fr := fr13) (by kernel_rfl) fun ds rs hF => ?_
  unfold F13 at hF
  split at hF
  · rename_i xs a b
    split at hF
    · rename_i l hl
      split at hF
      · rename_i h
        cases hF
        obtain rfl := strsOf_some hl
        have := ev13 (glob := glob) (fun _ _ => none) l a.toNat b.toNat h.1
        rw [Int.toNat_of_nonneg h.2.1, Int.toNat_of_nonneg h.2.2] at this
        exact ⟨_, this⟩
      · simp at hF
    · simp at hF
  · simp at hF
theorem F13_at (l : List (List UInt8)) (a b : Nat) (hl : l.length ≤ 9223372036854775807) : F13 [.sl 1 (l.map .s), .v (.int .i64 a), .v (.int .i64 b)] = some [.v (.bool (longL l a b))] := by
  simp only [F13, strsOf_map]
  rw [if_pos ⟨hl, by omega, by omega⟩]
  simp
/-- The recipe's lines, byte by byte. -/
def rfS : List UInt8 → List UInt8 → List UInt8 → Bool → List UInt8 × Bool
  | [], cur, out, lg => (out, lg)
  | b :: l, cur, out, lg => if b = 10 then rfS l [] (out ++ 9 :: (cur ++ [10])) (lg || decide (400 < cur.length)) else rfS l (cur ++ [b]) out lg
theorem rf_body : ∀ (l cur out : List UInt8) (lg : Bool) (p : List UInt8) (ps : List (List UInt8)), sp10 l = p :: ps →
    rfS (l ++ [10]) cur out lg = (out ++ (((cur ++ p) :: ps).map fun s => 9 :: (s ++ [10])).flatten, lg || ((cur ++ p) :: ps).any fun s => decide (400 < s.length))
  | [], cur, out, lg, p, ps, h => by
    simp only [sp10, List.cons.injEq] at h
    obtain ⟨rfl, rfl⟩ := h
    simp [rfS]
  | b :: l, cur, out, lg, p, ps, h => by
    obtain ⟨q, qs, hq⟩ : ∃ q qs, sp10 l = q :: qs := by
      cases hs : sp10 l with
      | nil => exact absurd hs (sp10_ne l)
      | cons q qs => exact ⟨q, qs, rfl⟩
    simp only [sp10, hq] at h
    by_cases hb : b = 10
    · subst hb
      simp only [if_true, List.cons.injEq] at h
      obtain ⟨rfl, rfl⟩ := h
      have ih := rf_body l [] (out ++ 9 :: (cur ++ [10])) (lg || decide (400 < cur.length)) q qs hq
      simp only [List.cons_append, rfS, if_true]
      rw [ih]
      simp [Bool.or_assoc]
    · simp only [if_neg hb, List.cons.injEq] at h
      obtain ⟨rfl, rfl⟩ := h
      have ih := rf_body l (cur ++ [b]) out lg q qs hq
      simp only [List.cons_append, rfS, if_neg hb]
      rw [ih]
      simp
theorem rf_phys (rc out : List UInt8) (lg : Bool) (h : rc.isEmpty || Lib.hasSuffix rc [10]) : rfS rc [] out lg = (out ++ ((phys rc).map fun s => 9 :: (s ++ [10])).flatten, lg || (phys rc).any fun s => decide (400 < s.length)) := by
  rcases List.eq_nil_or_concat rc with rfl | ⟨l, b, rfl⟩
  · simp [rfS, phys]
  · simp only [List.concat_eq_append] at h ⊢
    rw [suffix_snoc] at h
    have hb : b = 10 := by simpa using h
    subst hb
    have hne : ¬ (l ++ [10] = ([] : List UInt8)) := by simp
    have hts : Lib.trimSuffix (l ++ [10]) [10] = l := by
      unfold Lib.trimSuffix
      rw [suffix_snoc]
      simp
    unfold phys
    rw [if_neg hne, hts, split_sp10 _ _ (Nat.le_refl _)]
    obtain ⟨q, qs, hq⟩ : ∃ q qs, sp10 l = q :: qs := by
      cases hs : sp10 l with
      | nil => exact absurd hs (sp10_ne l)
      | cons q qs => exact ⟨q, qs, rfl⟩
    rw [rf_body l [] out lg q qs hq, hq]
    simp
end Go.Ab
