/- One text of a proof that a law of this seat says true for every input: the lines of a text. It holds of the given program under the conditions that the row prints. -/
import Derived.Test.YtaiklcijiajkaaaGreatDoorLnP
import Derived.Test.YtaiklcijiajkaaaGreatDoorAbAuto
set_option linter.unusedVariables false
set_option linter.unusedSimpArgs false
set_option maxRecDepth 100000
namespace Go.Ab
open Go.Proofs
variable {glob : Nat → Option (List D)}

set_option maxHeartbeats 4000000 in
/-- ref11.End -/
theorem ev73 (E : Abs) (s : List UInt8) (i : Nat) (hl : s.length < 4294967281) (hi : i < 4294967281) : fnK (mkCtx tab glob) E kp29 fr29 (s.length + 2) Tryz.f29 [.s s, .v (.int .i64 i)] = some [.v (.int .i64 (qend s i))] := by
  have hw0 : IntKind.i64.wrap (↑i + 1) = ↑i + 1 := wrap_i64 (by omega) (by omega)
  by_cases h1 : i < s.length
  · by_cases hb : s[i] = 39
    · have h0 : ¬ ((i : Int) < 0) := by omega
      have h2 : ¬ s.length ≤ i := by omega
      simp [Tryz.f29, h0, h1, h2, hb, hw0, qend]
      refine loop_rule (R := List D) (σ := Nat) (fun j => ⟨slots 54 [(0, .d (.s s)), (5, .d (.v (.int .i64 j)))], []⟩) (fun j => s.length - j) (fun j => j ≤ s.length + 1) (fun j => some [.v (.int .i64 (qloop s j))]) (i + 1) [0, 5] (by simp [kp29]) (by omega) (by omega) (by simp) ?_
      intro j κ' hj hn he hr
      have hw : IntKind.i64.wrap (↑j + 1) = ↑j + 1 := wrap_i64 (by omega) (by omega)
      have hw1 : IntKind.i64.wrap (↑s.length - 1) = ↑s.length - 1 := wrap_i64 (by omega) (by omega)
      unfold qloop
      by_cases hjl : j < s.length
      · by_cases hc : s[j] = 39
        · by_cases hj1 : j + 1 < s.length
          · have c1 : ((j : Int) == ↑s.length - 1) = false := by rw [beq_eq_false_iff_ne]; omega
            have c2 : (0 : Int) ≤ (j : Int) + 1 := by omega
            have c3 : ((j : Int) + 1).toNat = j + 1 := by omega
            by_cases hf : s[j + 1] = 39
            · have hw2 : IntKind.i64.wrap (↑j + 1 + 1) = ↑(j + 2) := (wrap_i64 (by omega) (by omega)).trans (by omega)
              simp [hjl, hc, hj1, hw, hw1, c1, c2, c3, hf]
              exact hn (j + 2) _ (by omega) (by omega) (by simp only [hw2]; simp)
            · simp [hjl, hc, hj1, hw, hw1, c1, c2, c3, hf, hr]
          · have c1 : ((j : Int) == ↑s.length - 1) = true := by rw [beq_iff_eq]; omega
            have hd2 : s[j + 1]? = none := by simp; omega
            simp [hjl, hc, hw, hw1, c1, hr, hd2]
        · simp [hjl, hc, hw]
          exact hn (j + 1) _ (by omega) (by omega) (by simp)
      · simp [hjl, he]
    · have h0 : ¬ ((i : Int) < 0) := by omega
      have h2 : ¬ s.length ≤ i := by omega
      simp [Tryz.f29, h0, h1, h2, hb, qend]
  · have h2 : s.length ≤ i := by omega
    have h0 : ¬ ((i : Int) < 0) := by omega
    simp [Tryz.f29, h0, h1, h2, qend]

set_option maxHeartbeats 4000000 in
/-- ref12.Lines -/
theorem ev41 (E : Abs) (s : List UInt8) (hl : s.length < 4294967281) : fnK (mkCtx tab glob) E kp28 fr28 (s.length + 2) Tryz.f28 [.s s] = some [.sl 1 ((phys s).map .s)] := by
  rw [← r12lines_eq]
  simp [Tryz.f28]
  refine loop_rule (R := List D) (σ := Nat × Nat × List (List UInt8)) (fun p => ⟨slots 37 [(0, .d (.s s)), (3, .own (1, 6)), (4, .d (.v (.int .i64 p.2.1))), (5, .d (.v (.int .i64 p.1)))], [((1, 6), .tok 1 (p.2.2.map .s))]⟩) (fun p => s.length - p.1)
    (fun p => p.1 ≤ s.length ∧ p.2.1 ≤ p.1 ∧ p.2.2.length ≤ p.1) (fun p => some [.sl 1 ((r12fin s (r12lines s p.2.2 p.2.1 p.1)).map .s)]) (0, 0, []) [0, 3, 4, 5] (by simp [kp28]) (by simp) (by simp) (by simp) ?_
  rintro ⟨j, f, out⟩ κ' ⟨hj, hf, ho⟩ hn he hr
  simp only at hj hf ho
  have hw : IntKind.i64.wrap (↑j + 1) = ↑j + 1 := wrap_i64 (by omega) (by omega)
  have hlim : out.length + 1 ≤ lim := by unfold lim; omega
  unfold r12lines
  by_cases hjl : j < s.length
  · by_cases hc : s[j] = 10
    · have c1 : (f : Int) ≤ j := by omega
      have c2 : (j : Int) ≤ s.length := by omega
      simp [hjl, hc, hw, hlim, c1, c2, hf, hj]
      exact hn (j + 1, j + 1, out ++ [(s.take j).drop f]) _ ⟨by simp; omega, by simp, by simp; omega⟩ (by simp; omega) (by simp)
    · simp [hjl, hc, hw]
      exact hn (j + 1, f, out) _ ⟨by simp; omega, by simp; omega, by simp; omega⟩ (by simp; omega) (by simp)
  · by_cases hfl : f < s.length
    · have c1 : (f : Int) ≤ s.length := by omega
      simp [hjl, he, hfl, hlim, r12fin, c1, Nat.le_of_lt hfl]
    · simp [hjl, he, hfl, r12fin]

set_option maxHeartbeats 4000000 in
/-- ref12.trim -/
theorem ev74 (E : Abs) (s : List UInt8) (hl : s.length < 4294967281) : fnK (mkCtx tab glob) E kp30 fr30 (s.length + 2) Tryz.f30 [.s s] = some [.s (Lib.trimS s [32, 9])] := by
  rw [trimS_eq]
  simp [Tryz.f30]
  refine loop_rule (R := List D) (σ := List UInt8) (fun l => ⟨slots 43 [(0, .d (.s l))], []⟩) (fun l => l.length) (fun l => l.length ≤ s.length) (fun l => some [.s (trimR (l.dropWhile gapB))]) s [0] (by simp [kp30]) (by omega) (by omega) (by simp) ?_
  intro l κ' hll hn he hr
  by_cases hgap : ∃ b r, l = b :: r ∧ gapB b = true
  · obtain ⟨b, r, rfl, hb⟩ := hgap
    simp only [gapB, decide_eq_true_eq] at hb
    have c1 : (1 : Int) ≤ (r.length : Int) + 1 := by omega
    rcases hb with rfl | rfl
    · simp [c1]
      refine (hn r _ (by simp at hll; omega) (by simp) (by simp)).trans ?_
      simp [gapB]
    · simp [c1]
      refine (hn r _ (by simp at hll; omega) (by simp) (by simp)).trans ?_
      simp [gapB]
  · have key : ∀ s1 : St, s1.keep [0] some = some ⟨slots 43 [(0, .d (.s l))], []⟩ → κ' (.exit 0) s1 = some [.s (trimR l)] := by
      rintro ⟨t1, o1⟩ hs1
      rw [he]
      simp
      refine loop_rule (R := List D) (σ := List UInt8) (fun l => ⟨slots 43 [(0, .d (.s l))], []⟩) (fun l => l.length) (fun l => l.length ≤ s.length) (fun l => some [.s (trimR l)]) l [0] (by simp [kp30]) (by omega) (by omega) hs1 ?_
      intro l κ2 hll hn2 he2 hr2
      have hnc : l = [] ∨ ∃ t b, l = t ++ [b] := by
        rcases List.eq_nil_or_concat l with h | ⟨t, b, h⟩
        · exact .inl h
        · exact .inr ⟨t, b, by rw [h, List.concat_eq_append]⟩
      rcases hnc with rfl | ⟨t, b, rfl⟩
      · simp [he2, trimR]
      · simp only [List.length_append, List.length_cons, List.length_nil] at hll
        have hw1 : IntKind.i64.wrap (t.length : Int) = t.length := wrap_i64 (by omega) (by omega)
        have c0 : (0 : Int) < (t.length : Int) + 1 := by omega
        have c1 : (t.length : Int) ≤ (t.length : Int) + 1 := by omega
        rw [trimR_snoc]
        by_cases h1 : b = 32
        · simp [hw1, c0, c1, h1, gapB]
          exact hn2 t _ (by omega) (by simp) (by simp)
        · by_cases h2 : b = 9
          · simp [hw1, c0, c1, h2, gapB]
            exact hn2 t _ (by omega) (by simp) (by simp)
          · simp [hw1, c0, c1, h1, h2, gapB, he2]
    have hd : l.dropWhile gapB = l := by
      cases l with
      | nil => rfl
      | cons b r =>
        cases hb : gapB b with
        | true => exact absurd ⟨b, r, rfl, hb⟩ hgap
        | false => simp [List.dropWhile, hb]
    rw [hd]
    cases l with
    | nil =>
      simp
      exact key _ (by simp)
    | cons b r =>
      have h1 : ¬ b = 32 := fun h => hgap ⟨b, r, rfl, by simp [gapB, h]⟩
      have h2 : ¬ b = 9 := fun h => hgap ⟨b, r, rfl, by simp [gapB, h]⟩
      simp [h1, h2]
      exact key _ (by simp)
end Go.Ab

set_option linter.unusedVariables false
set_option linter.unusedSimpArgs false
set_option maxRecDepth 100000
namespace Go.Ab
open Go.Proofs
variable {glob : Nat → Option (List D)}

def FQ : List D → Option (List D)
  | [.s s, .v (.int .i64 i)] => if s.length < 4294967281 ∧ 0 ≤ i ∧ i < 4294967281 then some [.v (.int .i64 (qend s i.toNat))] else none
  | _ => none
theorem FQ_at (s : List UInt8) (i : Nat) (hl : s.length < 4294967281) (hi : i < 4294967281) : FQ [.s s, .v (.int .i64 i)] = some [.v (.int .i64 (qend s i))] := by
  have : (i : Int) < 4294967281 := by omega
  simp [FQ, hl, this]
def r12D : List Ln ⊕ (Nat × Nat) → List D
  | .inl ls => [.sl 3 (ls.map encLn), .v (.int .i64 0), .v (.int .i64 0)]
  | .inr (b, n) => [.sl 3 [], .v (.int .i64 b), .v (.int .i64 n)]
theorem r12in_len (s : List UInt8) (last : Bool) (i : Nat) (held : List UInt8) (goes : Bool) (hi : i ≤ s.length) : ∀ t g, r12in s last i held goes = some (t, g) → t.length ≤ held.length + (s.length - i) := by
  induction i, held, goes using r12in.induct (s := s) (last := last) with
  | case1 i held goes h hc h2 =>
    intro t g ht
    unfold r12in at ht
    simp [h, hc, h2] at ht
  | case2 i held goes h hc h2 ih =>
    intro t g ht
    unfold r12in at ht
    rw [dif_pos h, if_pos hc, dif_neg h2] at ht
    have hq := qend_gt s i
    have := ih (by omega) t g ht
    simp at this
    omega
  | case3 i held goes h hc h2 =>
    intro t g ht
    unfold r12in at ht
    rw [dif_pos h, if_neg hc, if_pos h2] at ht
    cases ht
    omega
  | case4 i held goes h hc h2 h3 ih =>
    intro t g ht
    unfold r12in at ht
    rw [dif_pos h, if_neg hc, if_neg h2, if_pos h3] at ht
    have := ih (by omega) t g ht
    simp at this
    omega
  | case5 i held goes h hc h2 h3 ih =>
    intro t g ht
    unfold r12in at ht
    rw [dif_pos h, if_neg hc, if_neg h2, if_neg h3] at ht
    have := ih (by omega) t g ht
    simp at this
    omega
  | case6 i held goes h =>
    intro t g ht
    unfold r12in at ht
    rw [dif_neg h] at ht
    cases ht
    omega
end Go.Ab
