/- One text of a proof that a law of this seat says true for every input: the lines of a text. It holds of the given program under the conditions that the row prints. -/
import Derived.Test.YticphlljahcmkaaDoorLn14
set_option linter.unusedVariables false
set_option linter.unusedSimpArgs false
set_option maxRecDepth 100000
namespace Go.Ab
open Go.Proofs
variable {glob : Nat → Option (List D)}

/-- Where a comment begins. -/
def cmm (s : List UInt8) (i : Nat) : Int :=
  if h : i < s.length then
    if s[i] = 35 then i
    else if s[i] = 39 then (if h2 : qend s i < 0 then -1 else cmm s (qend s i).toNat)
    else cmm s (i + 1)
  else -1
termination_by s.length - i
decreasing_by
  · have := qend_gt s i
    omega
  · omega
def FQ : List D → Option (List D)
  | [.s s, .v (.int .i64 i)] => if s.length < 4294967281 ∧ 0 ≤ i ∧ i < 4294967281 then some [.v (.int .i64 (qend s i.toNat))] else none
  | _ => none
theorem FQ_at (s : List UInt8) (i : Nat) (hl : s.length < 4294967281) (hi : i < 4294967281) : FQ [.s s, .v (.int .i64 i)] = some [.v (.int .i64 (qend s i))] := by
  have : (i : Int) < 4294967281 := by omega
  simp [FQ, hl, this]
set_option maxHeartbeats 4000000 in
/-- lines.Comment -/
theorem ev42 (E : Abs) (h75 : E 75 = FQ) (s : List UInt8) (hl : s.length < 4294967281) : fnK (mkCtx tab glob) E kp42 fr42 (s.length + 2) Tryd.f42 [.s s] = some [.v (.int .i64 (cmm s 0))] := by
  simp [Tryd.f42]
  refine loop_rule (R := List D) (σ := Nat) (fun j => ⟨slots 29 [(0, .d (.s s)), (3, .d (.v (.int .i64 j)))], []⟩) (fun j => s.length - j) (fun j => j ≤ s.length) (fun j => some [.v (.int .i64 (cmm s j))]) 0 [0, 3] (by simp [kp42]) (by omega) (by omega) (by simp) ?_
  intro j κ' hj hn he hr
  have hw : IntKind.i64.wrap (↑j + 1) = ↑j + 1 := wrap_i64 (by omega) (by omega)
  have hq := qend_gt s j
  have hF := FQ_at s j hl (by omega)
  unfold cmm
  by_cases hjl : j < s.length
  · by_cases hc : s[j] = 35
    · simp [hjl, hc, hr]
    · by_cases hc2 : s[j] = 39
      · by_cases hq0 : qend s j < 0
        · simp [hjl, hc, hc2, h75, hF, hq0, hr]
        · have hw1 : IntKind.i64.wrap (qend s j - 1) = qend s j - 1 := wrap_i64 (by omega) (by omega)
          have hw2 : IntKind.i64.wrap (qend s j) = ((qend s j).toNat : Int) := (wrap_i64 (by omega) (by omega)).trans (by omega)
          simp [hjl, hc, hc2, h75, hF, hq0, hw1]
          exact hn (qend s j).toNat _ (by omega) (by omega) (by simp [hw2])
      · simp [hjl, hc, hc2, hw]
        exact hn (j + 1) _ (by omega) (by omega) (by simp)
  · simp [hjl, he]
set_option maxHeartbeats 4000000 in
/-- ref12.Comment -/
theorem ev43 (E : Abs) (h73 : E 73 = FQ) (s : List UInt8) (hl : s.length < 4294967281) : fnK (mkCtx tab glob) E kp43 fr43 (s.length + 2) Tryd.f43 [.s s] = some [.v (.int .i64 (cmm s 0))] := by
  simp [Tryd.f43]
  refine loop_rule (R := List D) (σ := Nat) (fun j => ⟨slots 27 [(0, .d (.s s)), (3, .d (.v (.int .i64 j)))], []⟩) (fun j => s.length - j) (fun j => j ≤ s.length) (fun j => some [.v (.int .i64 (cmm s j))]) 0 [0, 3] (by simp [kp43]) (by omega) (by omega) (by simp) ?_
  intro j κ' hj hn he hr
  have hw : IntKind.i64.wrap (↑j + 1) = ↑j + 1 := wrap_i64 (by omega) (by omega)
  have hq := qend_gt s j
  have hF := FQ_at s j hl (by omega)
  unfold cmm
  by_cases hjl : j < s.length
  · by_cases hc : s[j] = 35
    · simp [hjl, hc, hr]
    · by_cases hc2 : s[j] = 39
      · by_cases hq0 : qend s j < 0
        · simp [hjl, hc, hc2, h73, hF, hq0, hr]
        · have hw1 : IntKind.i64.wrap (qend s j - 1) = qend s j - 1 := wrap_i64 (by omega) (by omega)
          have hw2 : IntKind.i64.wrap (qend s j) = ((qend s j).toNat : Int) := (wrap_i64 (by omega) (by omega)).trans (by omega)
          simp [hjl, hc, hc2, h73, hF, hq0, hw1]
          exact hn (qend s j).toNat _ (by omega) (by omega) (by simp [hw2])
      · simp [hjl, hc, hc2, hw]
        exact hn (j + 1) _ (by omega) (by omega) (by simp)
  · simp [hjl, he]

/-- What ref12.Split gives. -/
def r12D : List Ln ⊕ (Nat × Nat) → List D
  | .inl ls => [.sl 3 (ls.map encLn), .v (.int .i64 0), .v (.int .i64 0)]
  | .inr (b, n) => [.sl 3 [], .v (.int .i64 b), .v (.int .i64 n)]
theorem r12in_len (s : List UInt8) (last : Bool) (i : Nat) (held : List UInt8) (goes : Bool) (hi : i ≤ s.length) : ∀ t g, r12in s last i held goes = some (t, g) → t.length ≤ held.length + (s.length - i) := by
  induction i, held, goes using r12in.induct (s := s) (last := last) with
  | case1 i held goes h hc h2 =>
    intro t g ht
    unfold r12in at ht
    simp [h, hc, h2] at ht
  | case2 i held goes h hc h2 ih =>
    intro t g ht
    unfold r12in at ht
    rw [dif_pos h, if_pos hc, dif_neg h2] at ht
    have hq := qend_gt s i
    have := ih (by omega) t g ht
    simp at this
    omega
  | case3 i held goes h hc h2 =>
    intro t g ht
    unfold r12in at ht
    rw [dif_pos h, if_neg hc, if_pos h2] at ht
    cases ht
    omega
  | case4 i held goes h hc h2 h3 ih =>
    intro t g ht
    unfold r12in at ht
    rw [dif_pos h, if_neg hc, if_neg h2, if_pos h3] at ht
    have := ih (by omega) t g ht
    simp at this
    omega
  | case5 i held goes h hc h2 h3 ih =>
    intro t g ht
    unfold r12in at ht
    rw [dif_pos h, if_neg hc, if_neg h2, if_neg h3] at ht
    have := ih (by omega) t g ht
    simp at this
    omega
  | case6 i held goes h =>
    intro t g ht
    unfold r12in at ht
    rw [dif_neg h] at ht
    cases ht
    omega
end Go.Ab
