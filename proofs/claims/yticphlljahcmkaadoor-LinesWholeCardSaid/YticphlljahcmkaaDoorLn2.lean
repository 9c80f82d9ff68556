/- One text of a proof that a law of this seat says true for every input: the lines of a text. It holds of the given program under the conditions that the row prints. -/
import Derived.Test.YticphlljahcmkaaDoorLn1
set_option linter.unusedVariables false
set_option linter.unusedSimpArgs false
set_option maxRecDepth 100000
namespace Go.Ab
open Go.Proofs
variable {glob : Nat → Option (List D)}

theorem qloop_gt (s : List UInt8) (i : Nat) : qloop s i < 0 ∨ ((i : Int) < qloop s i ∧ qloop s i ≤ s.length) := by
  induction i using qloop.induct (s := s) with
  | case1 i h hc ih =>
    have e : qloop s i = qloop s (i + 1) := by
      conv => lhs; unfold qloop
      simp [h, hc]
    omega
  | case2 i h hc hd ih =>
    have e : qloop s i = qloop s (i + 2) := by
      conv => lhs; unfold qloop
      rw [dif_pos h, if_neg hc, if_pos hd]
    omega
  | case3 i h hc hd =>
    have e : qloop s i = i + 1 := by
      conv => lhs; unfold qloop
      rw [dif_pos h, if_neg hc, if_neg hd]
    omega
  | case4 i h =>
    have e : qloop s i = -1 := by
      conv => lhs; unfold qloop
      simp [h]
    omega
theorem qend_gt (s : List UInt8) (i : Nat) : qend s i < 0 ∨ ((i : Int) + 1 < qend s i ∧ qend s i ≤ s.length) := by
  unfold qend
  split
  · have := qloop_gt s (i + 1)
    omega
  · omega
/-- lines.cut -/
def cutm (s : List UInt8) (last : Bool) (i : Nat) : List UInt8 × Bool × Bool :=
  if h : i < s.length then
    if s[i] = 39 then
      if h2 : qend s i < 0 then ([], false, false) else cutm s last (qend s i).toNat
    else if s[i] = 35 then (s.take i, false, true)
    else if s[i] = 92 ∧ i + 1 = s.length ∧ last = false then (s.take i ++ [32], true, true)
    else cutm s last (i + 1)
  else (s, false, true)
termination_by s.length - i
decreasing_by
  · have := qend_gt s i
    omega
  · omega
def F75 : List D → Option (List D)
  | [.s s, .v (.int .i64 i)] => if s.length < 4294967281 ∧ 0 ≤ i ∧ i < 4294967281 then some [.v (.int .i64 (qend s i.toNat))] else none
  | _ => none
def E2 : Abs := ext (ext (ext EL 71 fun | [.s l] => some [.v (.bool (recp l))] | _ => none) 70 fun | [.s l] => if l.length < 4294967281 then some [.sl 1 ((phys l).map .s)] else none | _ => none) 75 F75
theorem F75_ok {m : Int} (h20 : glob 20 = some [.v (.int .i64 m)]) : Pure Tryd.prog (mkCtx tab glob) 75 F75 := by
  refine pure_of (T_ok glob) (EL_ok h20) Tryd.func75 (by kernel_rfl) (kp := kp75) (fr := fr75) (by kernel_rfl) fun ds rs hF => ?_
  unfold F75 at hF
  split at hF
  · rename_i s i
    split at hF
    · rename_i hc
      cases hF
      obtain ⟨h1, h2, h3⟩ := hc
      refine ⟨s.length + 2, ?_⟩
      have := ev75 (glob := glob) s i.toNat h1 (by omega)
      rw [Int.toNat_of_nonneg h2] at this
      exact this
    · simp at hF
  · simp at hF
theorem E2_ok {m : Int} (h20 : glob 20 = some [.v (.int .i64 m)]) : ∀ f, Pure Tryd.prog (mkCtx tab glob) f (E2 f) := by
  refine ext_ok (ext_ok (ext_ok (EL_ok h20) ?_) ?_) (F75_ok h20)
  · refine pure_of (T_ok glob) (EL_ok h20) Tryd.func71 (by kernel_rfl) (kp := kp71) (fr := fr71) (by kernel_rfl) fun ds rs hF => ?_
    split at hF
    · cases hF
      exact ⟨0, ev71 _⟩
    · simp at hF
  · refine pure_of (T_ok glob) (EL_ok h20) Tryd.func70 (by kernel_rfl) (kp := kp70) (fr := fr70) (by kernel_rfl) fun ds rs hF => ?_
    split at hF
    · split at hF
      · rename_i h
        cases hF
        exact ⟨0, ev70 _ h⟩
      · simp at hF
    · simp at hF

set_option maxHeartbeats 4000000 in
theorem ev97 (s : List UInt8) (last : Bool) (hl : s.length < 4294967000) : fnK (mkCtx tab glob) E2 kp97 fr97 (s.length + 2) Tryd.f97 [.s s, .v (.bool last)] = some [.s (cutm s last 0).1, .v (.bool (cutm s last 0).2.1), .v (.bool (cutm s last 0).2.2)] := by
  simp [Tryd.f97]
  refine loop_rule (R := List D) (σ := Nat) (fun j => ⟨slots 48 [(0, .d (.s s)), (1, .d (.v (.bool last))), (7, .d (.v (.int .i64 j)))], []⟩) (fun j => s.length - j) (fun j => j ≤ s.length) (fun j => some [.s (cutm s last j).1, .v (.bool (cutm s last j).2.1), .v (.bool (cutm s last j).2.2)]) 0 [0, 1, 7] (by simp [kp97]) (by omega) (by omega) (by simp) ?_
  intro j κ' hj hn he hr
  have hw : IntKind.i64.wrap (↑j + 1) = ↑j + 1 := wrap_i64 (by omega) (by omega)
  by_cases hjl : j < s.length
  · by_cases hc : s[j] = 39
    · have hq := qend_gt s j
      have hl' : s.length < 4294967281 := by omega
      have hj' : (j : Int) < 4294967281 := by omega
      by_cases hq0 : qend s j < 0
      · have e : cutm s last j = ([], false, false) := by
          conv => lhs; unfold cutm
          simp [hjl, hc, hq0]
        simp [hjl, hc, E2, F75, hl', hj', hq0, he, hr, e]
      · have e : cutm s last j = cutm s last (qend s j).toNat := by
          conv => lhs; unfold cutm
          simp [hjl, hc, hq0]
        have hw1 : IntKind.i64.wrap (qend s j - 1) = qend s j - 1 := wrap_i64 (by omega) (by omega)
        have hw2 : IntKind.i64.wrap (qend s j) = qend s j := wrap_i64 (by omega) (by omega)
        simp [hjl, hc, E2, F75, hl', hj', hq0, hw1, hw2]
        refine (hn (qend s j).toNat _ (by omega) (by omega) ?_).trans ?_
        · rw [Int.toNat_of_nonneg (by omega)]
          simp
        · rw [e]
    · by_cases hc2 : s[j] = 35
      · have e : cutm s last j = (s.take j, false, true) := by
          conv => lhs; unfold cutm
          simp [hjl, hc, hc2]
        have hjl' : (j : Int) ≤ s.length := by omega
        simp [hjl, hc, hc2, hw, he, hr, hjl', e]
      · by_cases hc3 : s[j] = 92
        · have hw3 : IntKind.i64.wrap (↑s.length - 1) = ↑s.length - 1 := wrap_i64 (by omega) (by omega)
          by_cases hc4 : j + 1 = s.length
          · have hc4' : ((j : Int) == ↑s.length - 1) = true := by rw [beq_iff_eq]; omega
            cases last with
            | true =>
              have e : cutm s true j = cutm s true (j + 1) := by
                conv => lhs; unfold cutm
                simp [hjl, hc, hc2, hc3]
              simp [hjl, hc, hc2, hc3, hw, hw3, hc4']
              refine (hn (j + 1) _ (by omega) (by omega) (by simp)).trans ?_
              rw [e]
            | false =>
              have e : cutm s false j = (s.take j ++ [32], true, true) := by
                conv => lhs; unfold cutm
                simp [hjl, hc, hc2, hc3, hc4]
              have hjl' : (j : Int) ≤ s.length := by omega
              have hll : min j s.length + 1 ≤ lim := by unfold lim; omega
              simp [hjl, hc, hc2, hc3, hw, hw3, hc4', he, hr, hjl', hll, e]
          · have e : cutm s last j = cutm s last (j + 1) := by
              conv => lhs; unfold cutm
              simp [hjl, hc, hc2, hc3, hc4]
            have hc4' : ((j : Int) == ↑s.length - 1) = false := by rw [beq_eq_false_iff_ne]; omega
            simp [hjl, hc, hc2, hc3, hw, hw3, hc4']
            refine (hn (j + 1) _ (by omega) (by omega) (by simp)).trans ?_
            rw [e]
        · have e : cutm s last j = cutm s last (j + 1) := by
            conv => lhs; unfold cutm
            simp [hjl, hc, hc2, hc3]
          simp [hjl, hc, hc2, hc3, hw, he, hr]
          refine (hn (j + 1) _ (by omega) (by omega) (by simp)).trans ?_
          rw [e]
  · have e : cutm s last j = (s, false, true) := by
      conv => lhs; unfold cutm
      simp [hjl]
    simp [hjl, he, hr, e]
end Go.Ab
