/- One text of a proof that a law of this seat says true for every input: words, pieces and statements as the document reads them. It holds of the given program under the conditions that the row prints. -/
import Derived.Test.YtaiklcijiajkaaaGreatDoorLx13
set_option linter.unusedVariables false
set_option linter.unusedSimpArgs false
set_option maxRecDepth 100000
namespace Go.Ab
open Go.Proofs
variable {glob : Nat → Option (List D)}

/-! # The document's words -/
theorem scan_at (q : UInt8 → Bool) (s : List UInt8) (i0 i : Nat) (h0 : i0 ≤ i) (hk : i ≤ i0 + runN q s i0) :
    (i < i0 + runN q s i0 ∧ ∃ h : i < s.length, q s[i] = true) ∨ (i = i0 + runN q s i0 ∧ (s.length ≤ i ∨ ∃ h : i < s.length, q s[i] = false)) := by
  rcases Nat.eq_or_lt_of_le hk with rfl | h
  · right
    refine ⟨rfl, ?_⟩
    rcases Nat.lt_or_ge (i0 + runN q s i0) s.length with h1 | h1
    · exact .inr ⟨h1, runN_stop q s _ i0 rfl h1⟩
    · exact .inl h1
  · exact .inl ⟨h, runN_all q s _ i0 i rfl h0 h⟩
theorem fb39 : FP blkB [.v (.int .u8 39)] = some [.v (.bool false)] := rfl
theorem fb36 : FP blkB [.v (.int .u8 36)] = some [.v (.bool false)] := rfl
theorem fb96 : FP blkB [.v (.int .u8 96)] = some [.v (.bool false)] := rfl
theorem fb61 : FP blkB [.v (.int .u8 61)] = some [.v (.bool false)] := rfl
theorem fb123 : FP blkB [.v (.int .u8 123)] = some [.v (.bool false)] := rfl
theorem fb125 : FP blkB [.v (.int .u8 125)] = some [.v (.bool false)] := rfl
theorem ck_rblk (glob : Nat → Option (List D)) : chkP (mkCtx tab glob) (fun _ _ => none) kp75 fr75 Tryz.f75 blkB = true := by kernel_rfl
theorem ck_rlet (glob : Nat → Option (List D)) : chkP (mkCtx tab glob) (fun _ _ => none) kp77 fr77 Tryz.f77 letB = true := by kernel_rfl
def RQ1 : Abs := ext (ext (fun _ _ => none) 75 (FP blkB)) 77 (FP letB)
theorem RQ1_ok : ∀ f, Pure Tryz.prog (mkCtx tab glob) f (RQ1 f) := by
  refine ext_ok (ext_ok none_ok ?_) ?_
  · exact pure_of (T_ok glob) none_ok Tryz.func75 (by kernel_rfl) (kp := kp75) (fr := fr75) (by kernel_rfl) (chkP_ok (ck_rblk glob))
  · exact pure_of (T_ok glob) none_ok Tryz.func77 (by kernel_rfl) (kp := kp77) (fr := fr77) (by kernel_rfl) (chkP_ok (ck_rlet glob))
set_option maxHeartbeats 4000000 in
/-- ref13.Name -/
theorem evRName (t : List UInt8) (ht : t.length < 4294967281) : fnK (mkCtx tab glob) RQ1 kp45 fr45 (t.length + 2) Tryz.f45 [.s t] = some [.v (.bool (namOk t))] := by
  have hEL : RQ1 77 = FP letB := rfl
  have hra := run_all letB t
  have hsc := scan_at letB t 0
  have hle := runN_le letB t 0
  unfold namOk
  rw [← hra]
  generalize runN letB t 0 = k at *
  simp only [Nat.zero_add] at hsc hle
  simp [Tryz.f45]
  refine loop_rule (R := List D) (σ := Nat) (fun i => ⟨slots 23 [(0, .d (.s t)), (3, .d (.v (.int .i64 i)))], []⟩) (fun i => k - i) (fun i => i ≤ k) (fun _ => some [.v (.bool (!t.isEmpty && decide (t.length ≤ 12) && decide (k = t.length)))]) 0 [0, 3] (by simp [kp45]) (by omega) (by omega) (by simp) ?_
  intro i κ' hi hn he hr
  have hw : IntKind.i64.wrap ((i : Int) + 1) = (i : Int) + 1 := wrap_i64 (by omega) (by omega)
  rcases hsc i (Nat.zero_le _) hi with ⟨h1, h2, h3⟩ | ⟨rfl, h2⟩
  · have h2' : (i : Int) < t.length := by omega
    have hF := FP_at letB t[i]
    rw [h3] at hF
    simp [h2, h2', hEL, hF, hw]
    exact hn (i + 1) _ (by omega) (by omega) (by simp)
  · rcases h2 with h2 | ⟨h2, h3⟩
    · have h2' : ¬ (i : Int) < t.length := by omega
      have e1 : i = t.length := by omega
      subst e1
      cases t with
      | nil => simp [he]
      | cons b r =>
        have c1 : (0 : Int) < (r.length : Int) + 1 := by omega
        by_cases c2 : r.length + 1 ≤ 12
        · have c3 : (r.length : Int) + 1 < 13 := by omega
          simp [he, c1, c2, c3]
        · have c3 : ¬ (r.length : Int) + 1 < 13 := by omega
          simp [he, c1, c2, c3]
    · have h2' : (i : Int) < t.length := by omega
      have hF := FP_at letB t[i]
      rw [h3] at hF
      have hne : ¬ i = t.length := by omega
      simp [h2, h2', hEL, hF, hr, hne]
set_option maxHeartbeats 4000000 in
/-- ref13.pattern -/
theorem evRPat (s : List UInt8) (a : Nat) (hl : s.length < 4294967281) (ha : a ≤ s.length) : fnK (mkCtx tab glob) RQ1 kp115 fr115 (s.length + 2) Tryz.f115 [.s s, .v (.int .i64 a)] = some [.v (.int .i64 (a + runN patB s a : Nat))] := by
  have hEB : RQ1 75 = FP blkB := rfl
  have hsc := scan_at patB s a
  have hle := runIn patB s a ha
  generalize hk : a + runN patB s a = k at *
  have hak : a ≤ k := by omega
  simp [Tryz.f115]
  refine loop_rule (R := List D) (σ := Nat) (fun i => ⟨slots 43 [(0, .d (.s s)), (1, .d (.v (.int .i64 i)))], []⟩) (fun i => k - i) (fun i => a ≤ i ∧ i ≤ k) (fun _ => some [.v (.int .i64 k)]) a [0, 1] (by simp [kp115]) ⟨Nat.le_refl _, hak⟩ (by omega) (by simp) ?_
  rintro i κ' ⟨hai, hi⟩ hn he hr
  have hw : IntKind.i64.wrap ((i : Int) + 1) = (i : Int) + 1 := wrap_i64 (by omega) (by omega)
  rcases hsc i hai hi with ⟨h1, h2, h3⟩ | ⟨rfl, h2⟩
  · have h2' : (i : Int) < s.length := by omega
    have hF := FP_at blkB s[i]
    simp only [patB, plnB, Bool.and_eq_true, Bool.not_eq_true', beq_eq_false_iff_ne] at h3
    obtain ⟨⟨⟨⟨⟨⟨b0, b1⟩, b2⟩, b3⟩, b4⟩, b5⟩, b6⟩ := h3
    rw [b0] at hF
    simp [h2, h2', hEB, hF, hw, b1, b2, b3, b4, b5, b6]
    exact hn (i + 1) _ ⟨by omega, by omega⟩ (by omega) (by simp)
  · rcases h2 with h2 | ⟨h2, h3⟩
    · have h2' : ¬ (i : Int) < s.length := by omega
      simp [h2', he]
    · have h2' : (i : Int) < s.length := by omega
      have hF := FP_at blkB s[i]
      cases hb : blkB s[i] with
      | true =>
        rw [hb] at hF
        simp [h2, h2', hEB, hF, hr]
      | false =>
        rw [hb] at hF
        simp only [patB, plnB, hb, Bool.not_false, Bool.true_and] at h3
        by_cases b1 : s[i] = 39
        · simp [h2, h2', hEB, hF, hr, fb39, fb36, fb96, fb61, fb123, fb125, b1]
        · by_cases b2 : s[i] = 36
          · simp [h2, h2', hEB, hF, hr, fb39, fb36, fb96, fb61, fb123, fb125, b1, b2]
          · by_cases b3 : s[i] = 96
            · simp [h2, h2', hEB, hF, hr, fb39, fb36, fb96, fb61, fb123, fb125, b1, b2, b3]
            · by_cases b4 : s[i] = 61
              · simp [h2, h2', hEB, hF, hr, fb39, fb36, fb96, fb61, fb123, fb125, b1, b2, b3, b4]
              · by_cases b5 : s[i] = 123
                · simp [h2, h2', hEB, hF, hr, fb39, fb36, fb96, fb61, fb123, fb125, b1, b2, b3, b4, b5]
                · by_cases b6 : s[i] = 125
                  · simp [h2, h2', hEB, hF, hr, fb39, fb36, fb96, fb61, fb123, fb125, b1, b2, b3, b4, b5, b6]
                  · exfalso
                    simp [b1, b2, b3, b4, b5, b6] at h3
end Go.Ab

set_option linter.unusedVariables false
set_option linter.unusedSimpArgs false
set_option maxRecDepth 100000
namespace Go.Ab
open Go.Proofs
variable {glob : Nat → Option (List D)}

theorem fl58 : FP letB [.v (.int .u8 58)] = some [.v (.bool false)] := rfl
theorem fl125 : FP letB [.v (.int .u8 125)] = some [.v (.bool false)] := rfl
def FPat : List D → Option (List D)
  | [.s s, .v (.int .i64 i)] => if s.length < 4294967281 ∧ 0 ≤ i ∧ i ≤ s.length then some [.v (.int .i64 (i.toNat + runN patB s i.toNat : Nat))] else none
  | _ => none
theorem FPat_at (s : List UInt8) (a : Nat) (hl : s.length < 4294967281) (ha : a ≤ s.length) : FPat [.s s, .v (.int .i64 a)] = some [.v (.int .i64 (a + runN patB s a : Nat))] := by
  simp only [FPat]
  rw [if_pos ⟨hl, by omega, by omega⟩]
  simp
def RQ2 : Abs := ext (ext (ext RQ1 45 FName) 115 FPat) 29 FQ
theorem RQ2_ok : ∀ f, Pure Tryz.prog (mkCtx tab glob) f (RQ2 f) := by
  refine ext_ok (ext_ok (ext_ok RQ1_ok ?_) ?_) ?_
  · refine pure_of (T_ok glob) RQ1_ok Tryz.func45 (by kernel_rfl) (kp := kp45) (fr := fr45) (by kernel_rfl) fun ds rs hF => ?_
    unfold FName at hF
    split at hF
    · split at hF
      · rename_i h
        cases hF
        exact ⟨_, evRName _ h⟩
      · simp at hF
    · simp at hF
  · refine pure_of (T_ok glob) RQ1_ok Tryz.func115 (by kernel_rfl) (kp := kp115) (fr := fr115) (by kernel_rfl) fun ds rs hF => ?_
    unfold FPat at hF
    split at hF
    · rename_i s i
      split at hF
      · rename_i h
        cases hF
        have := evRPat (glob := glob) s i.toNat h.1 (by omega)
        rw [Int.toNat_of_nonneg h.2.1] at this
        exact ⟨_, this⟩
      · simp at hF
    · simp at hF
  · refine pure_of (T_ok glob) RQ1_ok Tryz.func29 (by kernel_rfl) (kp := kp29) (fr := fr29) (by kernel_rfl) fun ds rs hF => ?_
    unfold FQ at hF
    split at hF
    · rename_i s i
      split at hF
      · rename_i h
        cases hF
        have := ev73 (glob := glob) RQ1 s i.toNat h.1 (by omega)
        rw [Int.toNat_of_nonneg h.2.1] at this
        exact ⟨_, this⟩
      · simp at hF
    · simp at hF
def pcD (x : Pc × Nat × Nat) : List D := [encP x.1, .v (.int .i64 x.2.1), .v (.int .i64 x.2.2)]
theorem at_cases (s : List UInt8) (i : Nat) (b : UInt8) : (∃ h : i < s.length, s[i] = b ∧ s[i]? = some b) ∨ ((s.length ≤ i ∨ ∃ h : i < s.length, s[i] ≠ b) ∧ s[i]? ≠ some b) := by
  rcases Nat.lt_or_ge i s.length with h | h
  · by_cases hb : s[i] = b
    · exact .inl ⟨h, hb, by rw [List.getElem?_eq_getElem h, hb]⟩
    · exact .inr ⟨.inr ⟨h, hb⟩, by rw [List.getElem?_eq_getElem h]; simpa using hb⟩
  · exact .inr ⟨.inl h, by rw [List.getElem?_eq_none h]; simp⟩
set_option maxHeartbeats 16000000 in
/-- ref13.dollar -/
theorem evDol (s : List UInt8) (a : Nat) (hl : s.length < 4294967281) (ha : a < s.length) : fnK (mkCtx tab glob) RQ2 kp98 fr98 (s.length + 2) Tryz.f98 [.s s, .v (.int .i64 a)] = some (pcD (rDol s a)) := by
  have hEL : RQ2 77 = FP letB := rfl
  have hEN : RQ2 45 = FName := rfl
  have hEP : RQ2 115 = FPat := rfl
  have hw1 : IntKind.i64.wrap ((a : Int) + 1) = (a : Int) + 1 := wrap_i64 (by omega) (by omega)
  have t1 : ((a : Int) + 1).toNat = a + 1 := by omega
  have z1 : (0 : Int) ≤ (a : Int) + 1 := by omega
  unfold rDol
  rcases at_cases s (a + 1) 123 with ⟨c1, c2, c3⟩ | ⟨c1, c2⟩
  · have c1' : (a : Int) + 1 < s.length := by omega
    have hw2 : IntKind.i64.wrap ((a : Int) + 1 + 1) = (a : Int) + 2 := (wrap_i64 (by omega) (by omega)).trans (by omega)
    simp only [c3, if_true]
    have hsc := scan_at letB s (a + 2)
    have hle := runIn letB s (a + 2) (by omega)
    have hsub := subs_len s (a + 2) (a + 2 + runN letB s (a + 2)) hle
    generalize hk : a + 2 + runN letB s (a + 2) = k at *
    have hN := FName_at (subs s (a + 2) k) (by omega)
    have hak : a + 2 ≤ k := by omega
    obtain ⟨t, ht⟩ : ∃ t, t = subs s (a + 2) k := ⟨_, rfl⟩
    have hsl : (s.take k).drop (a + 2) = t := ht.symm
    rw [← ht] at hN ⊢
    have z2 : (0 : Int) ≤ (a : Int) + 2 := by omega
    have t2 : ((a : Int) + 2).toNat = a + 2 := by omega
    obtain ⟨RR, hRR⟩ : ∃ RR : Pc × Nat × Nat, (if namOk t = true then
      (if s[k]? = some 58 then
        (if s[k + 1 + runN patB s (k + 1)]? = some 61 then
          (if s[k + 1 + runN patB s (k + 1) + 1 + runN patB s (k + 1 + runN patB s (k + 1) + 1)]? = some 125 then (⟨3, t, subs s (k + 1) (k + 1 + runN patB s (k + 1)), subs s (k + 1 + runN patB s (k + 1) + 1) (k + 1 + runN patB s (k + 1) + 1 + runN patB s (k + 1 + runN patB s (k + 1) + 1))⟩, k + 1 + runN patB s (k + 1) + 1 + runN patB s (k + 1 + runN patB s (k + 1) + 1) + 1, 0) else (Pc.z, 0, 3))
        else (Pc.z, 0, 3))
      else if s[k]? = some 125 then (⟨2, t, [], []⟩, k + 1, 0) else (Pc.z, 0, 3))
    else (Pc.z, 0, 4)) = RR := ⟨_, rfl⟩
    rw [hRR]
    simp [Tryz.f98, hw1, hw2, c1, c1', c2, t1, z1]
    refine loop_rule (R := List D) (σ := Nat) (fun i => ⟨slots 112 [(0, .d (.s s)), (4, .ref (1, 4) 0), (7, .d (.v (.int .i64 ((a : Int) + 2)))), (8, .d (.v (.bool true))), (9, .d (.v (.int .i64 i)))], [((1, 4), .box [.d (.v (.int .i64 0)), .d (.s []), .d (.s []), .d (.s [])])]⟩)
      (fun i => k - i) (fun i => a + 2 ≤ i ∧ i ≤ k) (fun _ => some (pcD RR)) (a + 2) [0, 4, 7, 8, 9] (by simp [kp98]) ⟨Nat.le_refl _, hak⟩ (by omega) (by simp) ?_
    rintro i κ' ⟨hai, hi⟩ hn he hr
    have hw : IntKind.i64.wrap ((i : Int) + 1) = (i : Int) + 1 := wrap_i64 (by omega) (by omega)
    rcases hsc i hai hi with ⟨h1, h2, h3⟩ | ⟨rfl, h2⟩
    · have h2' : (i : Int) < s.length := by omega
      have hF := FP_at letB s[i]
      rw [h3] at hF
      simp [h2, h2', hEL, hF, hw]
      exact hn (i + 1) _ ⟨by omega, by omega⟩ (by omega) (by simp)
    · have k1 : (a : Int) + 2 ≤ i := by omega
      have k2 : (i : Int) ≤ s.length := by omega
      rcases h2 with h2 | ⟨h2, h3⟩
      · have h2' : ¬ (i : Int) < s.length := by omega
        cases hb : namOk t with
        | false =>
          rw [hb] at hN hRR
          simp only [Bool.false_eq_true, if_false] at hRR
          simp [h2', he, k1, k2, z2, t2, hsl, hEN, hN, ← hRR, pcD, encP, Pc.z]
        | true =>
          rw [hb] at hN hRR
          simp only [if_true] at hRR
          rcases at_cases s i 58 with ⟨d1, d2, d3⟩ | ⟨d1, d2⟩
          · exfalso
            omega
          · simp only [d2, if_false] at hRR
            rcases at_cases s i 125 with ⟨g1, g2, g3⟩ | ⟨g1, g2⟩
            · exfalso
              omega
            · simp only [g2, if_false] at hRR
              have g1' : (s.length : Int) ≤ i := by omega
              simp [h2', he, k1, k2, z2, t2, hsl, hEN, hN, g1', h2, ← hRR, pcD, encP, Pc.z]
      · have h2' : (i : Int) < s.length := by omega
        have hF := FP_at letB s[i]
        rw [h3] at hF
        cases hb : namOk t with
        | false =>
          rw [hb] at hN hRR
          simp only [Bool.false_eq_true, if_false] at hRR
          simp [h2, h2', hEL, hF, fl58, fl125, he, k1, k2, z2, t2, hsl, hEN, hN, ← hRR, pcD, encP, Pc.z]
        | true =>
          rw [hb] at hN hRR
          simp only [if_true] at hRR
          rcases at_cases s i 58 with ⟨d1, d2, d3⟩ | ⟨d1, d2⟩
          · have d1' : (i : Int) < s.length := by omega
            simp only [d3, if_true] at hRR
            have hw3 : IntKind.i64.wrap ((i : Int) + 1) = ((i + 1 : Nat) : Int) := (wrap_i64 (by omega) (by omega)).trans (by omega)
            have hP1 := FPat_at s (i + 1) hl (by omega)
            have hcl := runIn patB s (i + 1) (by omega)
            have hic : i + 1 ≤ i + 1 + runN patB s (i + 1) := by omega
            generalize i + 1 + runN patB s (i + 1) = c at *
            rcases at_cases s c 61 with ⟨e1, e2, e3⟩ | ⟨e1, e2⟩
            · have e1' : ¬ (s.length : Int) ≤ c := by omega
              have e1'' : ¬ s.length ≤ c := by omega
              simp only [e3, if_true] at hRR
              have hw4 : IntKind.i64.wrap ((c : Int) + 1) = ((c + 1 : Nat) : Int) := (wrap_i64 (by omega) (by omega)).trans (by omega)
              have hP2 := FPat_at s (c + 1) hl (by omega)
              have hdl := runIn patB s (c + 1) (by omega)
              have hcd : c + 1 ≤ c + 1 + runN patB s (c + 1) := by omega
              generalize c + 1 + runN patB s (c + 1) = d at *
              obtain ⟨u, hu⟩ : ∃ u, u = subs s (i + 1) c := ⟨_, rfl⟩
              have hus : (s.take c).drop (i + 1) = u := hu.symm
              obtain ⟨v, hv⟩ : ∃ v, v = subs s (c + 1) d := ⟨_, rfl⟩
              have hvs : (s.take d).drop (c + 1) = v := hv.symm
              rw [← hu, ← hv] at hRR
              have m1 : ((i + 1 : Nat) : Int) ≤ c := by omega
              have m2 : (c : Int) ≤ s.length := by omega
              have m3 : ((c + 1 : Nat) : Int) ≤ d := by omega
              have m4 : (d : Int) ≤ s.length := by omega
              generalize i + 1 = i1 at *
              generalize c + 1 = c5 at *
              rcases at_cases s d 125 with ⟨g1, g2, g3⟩ | ⟨g1, g2⟩
              · have g1' : ¬ (s.length : Int) ≤ d := by omega
                have g1'' : ¬ s.length ≤ d := by omega
                simp only [g3, if_true] at hRR
                have hw5 : IntKind.i64.wrap ((d : Int) + 1) = (d : Int) + 1 := wrap_i64 (by omega) (by omega)
                simp [h2, h2', hEL, hF, fl58, fl125, he, k1, k2, z2, t2, hsl, hEN, hN, d1, d1', d2, hw3, hEP, hP1, e1, e1', e1'', e2, hw4, hP2, hus, hvs, m1, m2, m3, m4, g1, g1', g1'', g2, hw5, ← hRR, pcD, encP]
              · simp only [g2, if_false] at hRR
                rcases g1 with g1 | ⟨g1, g3⟩
                · have g1' : (s.length : Int) ≤ d := by omega
                  simp [h2, h2', hEL, hF, fl58, fl125, he, k1, k2, z2, t2, hsl, hEN, hN, d1, d1', d2, hw3, hEP, hP1, e1, e1', e1'', e2, hw4, hP2, hus, hvs, m1, m2, m3, m4, g1, g1', ← hRR, pcD, encP, Pc.z]
                · have g1' : ¬ (s.length : Int) ≤ d := by omega
                  have g1'' : ¬ s.length ≤ d := by omega
                  have g4 : (!(s[d] == 125)) = true := by simpa using g3
                  simp [h2, h2', hEL, hF, fl58, fl125, he, k1, k2, z2, t2, hsl, hEN, hN, d1, d1', d2, hw3, hEP, hP1, e1, e1', e1'', e2, hw4, hP2, hus, hvs, m1, m2, m3, m4, g1, g1', g1'', g3, ← hRR, pcD, encP, Pc.z]
            · simp only [e2, if_false] at hRR
              generalize i + 1 = i1 at *
              rcases e1 with e1 | ⟨e1, e3⟩
              · have e1' : (s.length : Int) ≤ c := by omega
                simp [h2, h2', hEL, hF, fl58, fl125, he, k1, k2, z2, t2, hsl, hEN, hN, d1, d1', d2, hw3, hEP, hP1, e1, e1', ← hRR, pcD, encP, Pc.z]
              · have e1' : ¬ (s.length : Int) ≤ c := by omega
                have e1'' : ¬ s.length ≤ c := by omega
                simp [h2, h2', hEL, hF, fl58, fl125, he, k1, k2, z2, t2, hsl, hEN, hN, d1, d1', d2, hw3, hEP, hP1, e1, e1', e1'', e3, ← hRR, pcD, encP, Pc.z]
          · simp only [d2, if_false] at hRR
            rcases at_cases s i 125 with ⟨g1, g2, g3⟩ | ⟨g1, g2⟩
            · have g1' : ¬ (s.length : Int) ≤ i := by omega
              have g1'' : ¬ s.length ≤ i := by omega
              have g5 : (i : Int) < s.length := by omega
              have d3 : s[i] ≠ 58 := by rw [g2]; decide
              simp only [g3, if_true] at hRR
              simp [h2, h2', hEL, hF, fl58, fl125, he, k1, k2, z2, t2, hsl, hEN, hN, g1, g1', g1'', g2, g5, hw, ← hRR, pcD, encP]
            · simp only [g2, if_false] at hRR
              rcases g1 with g1 | ⟨g1, g3⟩
              · exfalso
                omega
              · have g1' : ¬ (s.length : Int) ≤ i := by omega
                have g1'' : ¬ s.length ≤ i := by omega
                have g5 : (i : Int) < s.length := by omega
                have d3 : s[i] ≠ 58 := by
                  rcases d1 with d1 | ⟨_, d1⟩
                  · omega
                  · exact d1
                simp [h2, h2', hEL, hF, fl58, fl125, he, k1, k2, z2, t2, hsl, hEN, hN, g1, g1', g1'', g3, g5, d3, ← hRR, pcD, encP, Pc.z]
  · simp only [c2, if_false]
    have hsc := scan_at letB s (a + 1)
    have hle := runIn letB s (a + 1) (by omega)
    have hsub := subs_len s (a + 1) (a + 1 + runN letB s (a + 1)) hle
    generalize hk : a + 1 + runN letB s (a + 1) = k at *
    have hN := FName_at (subs s (a + 1) k) (by omega)
    have hak : a + 1 ≤ k := by omega
    rcases c1 with c1 | ⟨c1, c3⟩
    · have c1' : ¬ (a : Int) + 1 < s.length := by omega
      obtain ⟨t, ht⟩ : ∃ t, t = subs s (a + 1) k := ⟨_, rfl⟩
      have hsl : (s.take k).drop (a + 1) = t := ht.symm
      rw [← ht] at hN ⊢
      obtain ⟨RR, hRR⟩ : ∃ RR, (if namOk t = true then (⟨2, t, [], []⟩, k, 0) else (Pc.z, 0, 4) : Pc × Nat × Nat) = RR := ⟨_, rfl⟩
      rw [hRR]
      simp [Tryz.f98, hw1, c1']
      refine loop_rule (R := List D) (σ := Nat) (fun i => ⟨slots 112 [(0, .d (.s s)), (4, .ref (1, 4) 0), (7, .d (.v (.int .i64 ((a : Int) + 1)))), (8, .d (.v (.bool false))), (9, .d (.v (.int .i64 i)))], [((1, 4), .box [.d (.v (.int .i64 0)), .d (.s []), .d (.s []), .d (.s [])])]⟩)
        (fun i => k - i) (fun i => a + 1 ≤ i ∧ i ≤ k) (fun _ => some (pcD RR)) (a + 1) [0, 4, 7, 8, 9] (by simp [kp98]) ⟨Nat.le_refl _, hak⟩ (by omega) (by simp) ?_
      rintro i κ' ⟨hai, hi⟩ hn he hr
      have hw : IntKind.i64.wrap ((i : Int) + 1) = (i : Int) + 1 := wrap_i64 (by omega) (by omega)
      have hend : i = k → κ' (.exit 0) = κ' (.exit 0) := fun _ => rfl
      rcases hsc i hai hi with ⟨h1, h2, h3⟩ | ⟨rfl, h2⟩
      · have h2' : (i : Int) < s.length := by omega
        have hF := FP_at letB s[i]
        rw [h3] at hF
        simp [h2, h2', hEL, hF, hw]
        exact hn (i + 1) _ ⟨by omega, by omega⟩ (by omega) (by simp)
      · have k1 : (a : Int) + 1 ≤ i := by omega
        have k2 : (i : Int) ≤ s.length := by omega
        rcases h2 with h2 | ⟨h2, h3⟩
        · have h2' : ¬ (i : Int) < s.length := by omega
          cases hb : namOk t with
          | false =>
            rw [hb] at hN hRR
            simp only [Bool.false_eq_true, if_false] at hRR
            simp [h2', he, k1, k2, z1, t1, hsl, hEN, hN, ← hRR, pcD, encP, Pc.z]
          | true =>
            rw [hb] at hN hRR
            simp only [if_true] at hRR
            simp [h2', he, k1, k2, z1, t1, hsl, hEN, hN, ← hRR, pcD, encP]
        · have h2' : (i : Int) < s.length := by omega
          have hF := FP_at letB s[i]
          rw [h3] at hF
          cases hb : namOk t with
          | false =>
            rw [hb] at hN hRR
            simp only [Bool.false_eq_true, if_false] at hRR
            simp [h2, h2', hEL, hF, fl58, fl125, he, k1, k2, z1, t1, hsl, hEN, hN, ← hRR, pcD, encP, Pc.z]
          | true =>
            rw [hb] at hN hRR
            simp only [if_true] at hRR
            simp [h2, h2', hEL, hF, fl58, fl125, he, k1, k2, z1, t1, hsl, hEN, hN, ← hRR, pcD, encP]
    · have c1' : (a : Int) + 1 < s.length := by omega
      obtain ⟨t, ht⟩ : ∃ t, t = subs s (a + 1) k := ⟨_, rfl⟩
      have hsl : (s.take k).drop (a + 1) = t := ht.symm
      rw [← ht] at hN ⊢
      obtain ⟨RR, hRR⟩ : ∃ RR, (if namOk t = true then (⟨2, t, [], []⟩, k, 0) else (Pc.z, 0, 4) : Pc × Nat × Nat) = RR := ⟨_, rfl⟩
      rw [hRR]
      simp [Tryz.f98, hw1, c1, c1', c3, t1, z1]
      refine loop_rule (R := List D) (σ := Nat) (fun i => ⟨slots 112 [(0, .d (.s s)), (4, .ref (1, 4) 0), (7, .d (.v (.int .i64 ((a : Int) + 1)))), (8, .d (.v (.bool false))), (9, .d (.v (.int .i64 i)))], [((1, 4), .box [.d (.v (.int .i64 0)), .d (.s []), .d (.s []), .d (.s [])])]⟩)
        (fun i => k - i) (fun i => a + 1 ≤ i ∧ i ≤ k) (fun _ => some (pcD RR)) (a + 1) [0, 4, 7, 8, 9] (by simp [kp98]) ⟨Nat.le_refl _, hak⟩ (by omega) (by simp) ?_
      rintro i κ' ⟨hai, hi⟩ hn he hr
      have hw : IntKind.i64.wrap ((i : Int) + 1) = (i : Int) + 1 := wrap_i64 (by omega) (by omega)
      have hend : i = k → κ' (.exit 0) = κ' (.exit 0) := fun _ => rfl
      rcases hsc i hai hi with ⟨h1, h2, h3⟩ | ⟨rfl, h2⟩
      · have h2' : (i : Int) < s.length := by omega
        have hF := FP_at letB s[i]
        rw [h3] at hF
        simp [h2, h2', hEL, hF, hw]
        exact hn (i + 1) _ ⟨by omega, by omega⟩ (by omega) (by simp)
      · have k1 : (a : Int) + 1 ≤ i := by omega
        have k2 : (i : Int) ≤ s.length := by omega
        rcases h2 with h2 | ⟨h2, h3⟩
        · have h2' : ¬ (i : Int) < s.length := by omega
          cases hb : namOk t with
          | false =>
            rw [hb] at hN hRR
            simp only [Bool.false_eq_true, if_false] at hRR
            simp [h2', he, k1, k2, z1, t1, hsl, hEN, hN, ← hRR, pcD, encP, Pc.z]
          | true =>
            rw [hb] at hN hRR
            simp only [if_true] at hRR
            simp [h2', he, k1, k2, z1, t1, hsl, hEN, hN, ← hRR, pcD, encP]
        · have h2' : (i : Int) < s.length := by omega
          have hF := FP_at letB s[i]
          rw [h3] at hF
          cases hb : namOk t with
          | false =>
            rw [hb] at hN hRR
            simp only [Bool.false_eq_true, if_false] at hRR
            simp [h2, h2', hEL, hF, fl58, fl125, he, k1, k2, z1, t1, hsl, hEN, hN, ← hRR, pcD, encP, Pc.z]
          | true =>
            rw [hb] at hN hRR
            simp only [if_true] at hRR
            simp [h2, h2', hEL, hF, fl58, fl125, he, k1, k2, z1, t1, hsl, hEN, hN, ← hRR, pcD, encP]
end Go.Ab
