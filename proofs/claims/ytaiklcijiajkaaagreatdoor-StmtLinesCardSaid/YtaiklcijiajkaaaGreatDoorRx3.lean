/- One text of a proof that a law of this seat says true for every input: words, pieces and statements as the document reads them. It holds of the given program under the conditions that the row prints. -/
import Derived.Test.YtaiklcijiajkaaaGreatDoorRxA
set_option linter.unusedVariables false
set_option linter.unusedSimpArgs false
set_option maxRecDepth 100000
namespace Go.Ab
open Go.Proofs
variable {glob : Nat → Option (List D)}

def FDol : List D → Option (List D)
  | [.s s, .v (.int .i64 i)] => if s.length < 4294967281 ∧ 0 ≤ i ∧ i < s.length then some (pcD (rDol s i.toNat)) else none
  | _ => none
theorem FDol_at (s : List UInt8) (a : Nat) (hl : s.length < 4294967281) (ha : a < s.length) : FDol [.s s, .v (.int .i64 a)] = some (pcD (rDol s a)) := by
  simp only [FDol]
  rw [if_pos ⟨hl, by omega, by omega⟩]
  simp
def RQ3 : Abs := ext RQ2 98 FDol
theorem RQ3_ok : ∀ f, Pure Tryz.prog (mkCtx tab glob) f (RQ3 f) := by
  refine ext_ok RQ2_ok ?_
  refine pure_of (T_ok glob) RQ2_ok Tryz.func98 (by kernel_rfl) (kp := kp98) (fr := fr98) (by kernel_rfl) fun ds rs hF => ?_
  unfold FDol at hF
  split at hF
  · rename_i s i
    split at hF
    · rename_i h
      cases hF
      have := evDol (glob := glob) s i.toNat h.1 (by omega)
      rw [Int.toNat_of_nonneg h.2.1] at this
      exact ⟨_, this⟩
    · simp at hF
  · simp at hF
theorem unq_step (s : List UInt8) (i e : Nat) (hi : i < e) (hl : i < s.length) : unq (subs s i e) = s[i] :: unq (subs s (if s[i] = 39 then i + 2 else i + 1) e) := by
  rw [subs_cons s i e hi hl]
  by_cases h : s[i] = 39
  · rw [if_pos h]
    rcases Nat.lt_or_ge (i + 1) e with h1 | h1
    · by_cases h2 : i + 1 < s.length
      · rw [subs_cons s (i + 1) e h1 h2]
        simp only [unq, if_pos h]
      · have e1 : subs s (i + 1) e = [] := by
          unfold subs
          exact List.drop_eq_nil_of_le (by simp; omega)
        have e2 : subs s (i + 2) e = [] := by
          unfold subs
          exact List.drop_eq_nil_of_le (by simp; omega)
        rw [e1, e2]
        rfl
    · rw [subs_nil s (i + 1) e h1, subs_nil s (i + 2) e (by omega)]
      rfl
  · rw [if_neg h]
    cases hx : subs s (i + 1) e with
    | nil => rfl
    | cons b r => simp only [unq, if_neg h]
theorem unq_len : ∀ l : List UInt8, (unq l).length ≤ l.length
  | [] => Nat.le_refl _
  | [b] => Nat.le_refl _
  | b :: c :: r => by
    have h1 := unq_len r
    have h2 := unq_len (c :: r)
    unfold unq
    split
    · simp only [List.length_cons]
      omega
    · simp only [List.length_cons] at h2 ⊢
      omega
set_option maxHeartbeats 16000000 in
/-- ref13.One -/
theorem evROne (s : List UInt8) (a : Nat) (hl : s.length < 4294967281) (ha : a < s.length) : fnK (mkCtx tab glob) RQ3 kp76 fr76 (s.length + 4) Tryz.f76 [.s s, .v (.int .i64 a)] = some (pcD (rOne s a)) := by
  have hEB : RQ3 75 = FP blkB := rfl
  have hED : RQ3 98 = FDol := rfl
  have hEQ : RQ3 29 = FQ := rfl
  have hga : s[a]? = some s[a] := List.getElem?_eq_getElem ha
  unfold rOne
  simp only [hga, Option.some.injEq]
  by_cases c1 : s[a] = 39
  · rw [if_pos c1]
    have hQ := FQ_at s a hl (by omega)
    have hqe : qend s a = qlp s (a + 1) := by
      unfold qend
      rw [if_pos (by rw [hga, c1]), qlp_eq]
    rw [hqe] at hQ
    have hpair := qlp_pair s (a + 1)
    unfold rQuo
    generalize qlp s (a + 1) = q at hQ hpair ⊢
    by_cases hq0 : q < 0
    · rw [if_pos hq0]
      simp [Tryz.f76, ha, c1, hEQ, hQ, hq0, pcD, encP, Pc.z]
    · obtain ⟨g1, g2, g3, g4⟩ := hpair.resolve_left hq0
      obtain ⟨n, rfl⟩ : ∃ n : Nat, q = n := ⟨q.toNat, by omega⟩
      have tn : ((n : Int)).toNat = n := by omega
      have hq' : ¬ (n : Int) < 0 := by omega
      rw [if_neg hq', tn]
      have hw1 : IntKind.i64.wrap ((a : Int) + 1) = ((a + 1 : Nat) : Int) := (wrap_i64 (by omega) (by omega)).trans (by omega)
      have hwn : IntKind.i64.wrap ((n : Int) - 1) = (n : Int) - 1 := wrap_i64 (by omega) (by omega)
      obtain ⟨w, hw⟩ : ∃ w, unq (subs s (a + 1) (n - 1)) = w := ⟨_, rfl⟩
      rw [hw]
      have hwl : w.length ≤ s.length := by
        rw [← hw]
        refine Nat.le_trans (unq_len _) ?_
        rw [subs_len _ _ _ (by omega)]
        omega
      generalize ha1 : a + 1 = a1 at *
      simp [Tryz.f76, ha, c1, hEQ, hQ, hq', hw1]
      refine loop_rule (R := List D) (σ := Nat × List UInt8) (fun x => ⟨slots 149 [(0, .d (.s s)), (4, .ref (1, 4) 0), (8, .d (.v (.int .i64 n))), (9, .d (.s x.2)), (10, .d (.v (.int .i64 x.1)))], [((1, 4), .box [.d (.v (.int .i64 0)), .d (.s []), .d (.s []), .d (.s [])])]⟩)
        (fun x => n - x.1) (fun x => a1 ≤ x.1 ∧ x.1 ≤ n ∧ x.2 ++ unq (subs s x.1 (n - 1)) = w) (fun _ => some (pcD (⟨1, w, [], []⟩, n, 0))) (a1, []) [0, 4, 8, 9, 10] (by simp [kp76]) ⟨Nat.le_refl _, by omega, by simpa using hw⟩ (by simp only; omega) (by simp) ?_
      rintro ⟨i, t⟩ κ' ⟨hai, hin, hwt⟩ hn he hr
      simp only at hai hin hwt
      have hwi : IntKind.i64.wrap ((i : Int) + 1) = (i : Int) + 1 := wrap_i64 (by omega) (by omega)
      have hwi2 : IntKind.i64.wrap ((i : Int) + 1 + 1) = (i : Int) + 2 := (wrap_i64 (by omega) (by omega)).trans (by omega)
      by_cases hil : i < n - 1
      · have hil' : (i : Int) < (n : Int) - 1 := by omega
        have hs : i < s.length := by omega
        have hs' : (i : Int) < s.length := by omega
        have h0 : (0 : Int) ≤ (i : Int) + 1 := by omega
        have h2 : (i : Int) ≤ (i : Int) + 1 := by omega
        have h3 : (i : Int) + 1 ≤ s.length := by omega
        have t1 : ((i : Int) + 1).toNat = i + 1 := by omega
        have htk : (s.take (i + 1)).drop i = [s[i]] := by
          rw [List.take_succ_eq_append_getElem hs, List.drop_append_of_le_length (by simp; omega)]
          simp
        have hus := unq_step s i (n - 1) hil hs
        rw [hus] at hwt
        have hlim : t.length + 1 ≤ lim := by
          unfold lim
          have := congrArg List.length hwt
          simp only [List.length_append, List.length_cons] at this
          omega
        by_cases c2 : s[i] = 39
        · rw [if_pos c2] at hwt
          simp [hil', hwn, hs, hs', hwi, hwi2, h0, h2, h3, t1, htk, hlim, c2]
          exact hn (i + 2, t ++ [39]) _ ⟨by simp only; omega, by simp only; omega, by simp only [List.append_assoc, List.cons_append, List.nil_append]; rw [← c2]; exact hwt⟩ (by simp only; omega) (by simp)
        · rw [if_neg c2] at hwt
          simp [hil', hwn, hs, hs', hwi, h0, h2, h3, t1, htk, hlim, c2]
          exact hn (i + 1, t ++ [s[i]]) _ ⟨by simp only; omega, by simp only; omega, by simp only [List.append_assoc, List.cons_append, List.nil_append]; exact hwt⟩ (by simp only; omega) (by simp)
      · have hil' : ¬ (i : Int) < (n : Int) - 1 := by omega
        rw [subs_nil s i (n - 1) (by omega)] at hwt
        simp only [unq, List.append_nil] at hwt
        subst hwt
        simp [hil', hwn, he, pcD, encP]
  · rw [if_neg c1]
    by_cases c3 : s[a] = 96
    · rw [if_pos c3]
      have hsc := scan_at insB s (a + 2)
      have hle := runN_le insB s (a + 2)
      unfold rCmd
      simp only
      have hw1 : IntKind.i64.wrap ((a : Int) + 1) = (a : Int) + 1 := wrap_i64 (by omega) (by omega)
      have hw2 : IntKind.i64.wrap ((a : Int) + 2) = (a : Int) + 2 := wrap_i64 (by omega) (by omega)
      have hak : a + 2 ≤ a + 2 + runN insB s (a + 2) := by omega
      generalize a + 2 + runN insB s (a + 2) = k at *
      obtain ⟨RR, hRR⟩ : ∃ RR : Pc × Nat × Nat, (if s[a + 1]? = some 123 ∧ s[k]? = some 125 then (⟨4, subs s (a + 2) k, [], []⟩, k + 1, 0) else (Pc.z, 0, 3)) = RR := ⟨_, rfl⟩
      rw [hRR]
      simp [Tryz.f76, ha, c1, c3, hw2]
      refine loop_rule (R := List D) (σ := Nat) (fun i => ⟨slots 149 [(0, .d (.s s)), (1, .d (.v (.int .i64 a))), (4, .ref (1, 4) 0), (11, .d (.v (.int .i64 i)))], [((1, 4), .box [.d (.v (.int .i64 0)), .d (.s []), .d (.s []), .d (.s [])])]⟩)
        (fun i => k - i) (fun i => a + 2 ≤ i ∧ i ≤ k) (fun _ => some (pcD RR)) (a + 2) [0, 1, 4, 11] (by simp [kp76]) ⟨Nat.le_refl _, hak⟩ (by omega) (by simp) ?_
      rintro i κ' ⟨hai, hi⟩ hn he hr
      have hw : IntKind.i64.wrap ((i : Int) + 1) = (i : Int) + 1 := wrap_i64 (by omega) (by omega)
      have t2 : ((a : Int) + 2).toNat = a + 2 := by omega
      have t1 : ((a : Int) + 1).toNat = a + 1 := by omega
      have z1 : (0 : Int) ≤ (a : Int) + 1 := by omega
      have z2 : (0 : Int) ≤ (a : Int) + 2 := by omega
      rcases hsc i hai hi with ⟨h1, h2, h3⟩ | ⟨rfl, h2⟩
      · have h2' : (i : Int) < s.length := by omega
        simp only [insB, Bool.and_eq_true, Bool.not_eq_true', beq_eq_false_iff_ne] at h3
        simp [h2, h2', h3.1, h3.2, hw]
        exact hn (i + 1) _ ⟨by omega, by omega⟩ (by omega) (by simp)
      · have hstop : s.length ≤ i ∨ ∃ h : i < s.length, s[i] = 123 ∨ s[i] = 125 := by
          rcases h2 with h2 | ⟨h2, h3⟩
          · exact .inl h2
          · refine .inr ⟨h2, ?_⟩
            by_cases b1 : s[i] = 123
            · exact .inl b1
            · by_cases b2 : s[i] = 125
              · exact .inr b2
              · exfalso
                simp [insB, b1, b2] at h3
        rcases at_cases s (a + 1) 123 with ⟨d1, d2, d3⟩ | ⟨d1, d2⟩
        · have d1' : ¬ (s.length : Int) ≤ (a : Int) + 1 := by omega
          have d1'' : ¬ s.length ≤ a + 1 := by omega
          rcases hstop with e1 | ⟨e1, e2 | e2⟩
          · have e1' : ¬ (i : Int) < s.length := by omega
            have e1'' : (s.length : Int) ≤ i := by omega
            have e3 : s[i]? = none := List.getElem?_eq_none e1
            rw [e3] at hRR
            simp only [reduceCtorEq, and_false, if_false] at hRR
            simp [e1', e1'', e1, he, hw1, d1, d1', d1'', d2, t1, z1, ← hRR, pcD, encP, Pc.z]
          · have e1' : (i : Int) < s.length := by omega
            have e1'' : ¬ (s.length : Int) ≤ i := by omega
            have e4 : ¬ s.length ≤ i := by omega
            have e3 : s[i]? ≠ some 125 := by rw [List.getElem?_eq_getElem e1, e2]; decide
            simp only [e3, and_false, if_false] at hRR
            simp [e1', e1'', e4, e1, e2, he, hw1, d1, d1', d1'', d2, t1, z1, ← hRR, pcD, encP, Pc.z]
          · have e1' : (i : Int) < s.length := by omega
            have e1'' : ¬ (s.length : Int) ≤ i := by omega
            have e4 : ¬ s.length ≤ i := by omega
            have e3 : s[i]? = some 125 := by rw [List.getElem?_eq_getElem e1, e2]
            simp only [e3, d3, and_self, if_true] at hRR
            have m1 : (a : Int) + 2 ≤ i := by omega
            have m2 : (i : Int) ≤ s.length := by omega
            obtain ⟨t, ht⟩ : ∃ t, t = subs s (a + 2) i := ⟨_, rfl⟩
            have hsl : (s.take i).drop (a + 2) = t := ht.symm
            rw [← ht] at hRR
            simp [e1', e1'', e4, e1, e2, he, hw1, hw2, d1, d1', d1'', d2, t1, z1, t2, z2, m1, m2, hsl, hw, ← hRR, pcD, encP]
        · simp only [d2, false_and, if_false] at hRR
          rcases d1 with d1 | ⟨d1, d3⟩
          · have d1' : (s.length : Int) ≤ (a : Int) + 1 := by omega
            have e1' : ¬ (i : Int) < s.length := by omega
            simp [e1', he, hw1, d1, d1', ← hRR, pcD, encP, Pc.z]
          · have d1' : ¬ (s.length : Int) ≤ (a : Int) + 1 := by omega
            have d1'' : ¬ s.length ≤ a + 1 := by omega
            rcases hstop with e1 | ⟨e1, e2 | e2⟩
            · have e1' : ¬ (i : Int) < s.length := by omega
              simp [e1', e1, he, hw1, d1, d1', d1'', d3, t1, z1, ← hRR, pcD, encP, Pc.z]
            · have e1' : (i : Int) < s.length := by omega
              simp [e1', e1, e2, he, hw1, d1, d1', d1'', d3, t1, z1, ← hRR, pcD, encP, Pc.z]
            · have e1' : (i : Int) < s.length := by omega
              simp [e1', e1, e2, he, hw1, d1, d1', d1'', d3, t1, z1, ← hRR, pcD, encP, Pc.z]
    · rw [if_neg c3]
      by_cases c4 : s[a] = 36
      · rw [if_pos c4]
        have hD := FDol_at s a hl ha
        generalize rDol s a = x at *
        obtain ⟨⟨k, t, f, u⟩, x2, x3⟩ := x
        simp only [pcD, encP] at hD ⊢
        simp [Tryz.f76, ha, c1, c3, c4, hED, hD]
      · rw [if_neg c4]
        have hsc := scan_at plnB s a
        have hle := runIn plnB s a (by omega)
        have hak : a ≤ a + runN plnB s a := by omega
        unfold pPln
        generalize a + runN plnB s a = k at *
        obtain ⟨t, ht⟩ : ∃ t, t = subs s a k := ⟨_, rfl⟩
        have hsl : (s.take k).drop a = t := ht.symm
        rw [← ht]
        simp [Tryz.f76, ha, c1, c3, c4]
        refine loop_rule (R := List D) (σ := Nat) (fun i => ⟨slots 149 [(0, .d (.s s)), (1, .d (.v (.int .i64 a))), (4, .ref (1, 4) 0), (12, .d (.v (.int .i64 i)))], [((1, 4), .box [.d (.v (.int .i64 0)), .d (.s []), .d (.s []), .d (.s [])])]⟩)
          (fun i => k - i) (fun i => a ≤ i ∧ i ≤ k) (fun _ => some (pcD (⟨0, t, [], []⟩, k, 0))) a [0, 1, 4, 12] (by simp [kp76]) ⟨Nat.le_refl _, hak⟩ (by omega) (by simp) ?_
        rintro i κ' ⟨hai, hi⟩ hn he hr
        have hw : IntKind.i64.wrap ((i : Int) + 1) = (i : Int) + 1 := wrap_i64 (by omega) (by omega)
        rcases hsc i hai hi with ⟨h1, h2, h3⟩ | ⟨rfl, h2⟩
        · have h2' : (i : Int) < s.length := by omega
          have hF := FP_at blkB s[i]
          simp only [plnB, Bool.and_eq_true, Bool.not_eq_true', beq_eq_false_iff_ne] at h3
          obtain ⟨⟨⟨b0, b1⟩, b2⟩, b3⟩ := h3
          rw [b0] at hF
          simp [h2, h2', hEB, hF, hw, b1, b2, b3]
          exact hn (i + 1) _ ⟨by omega, by omega⟩ (by omega) (by simp)
        · have m1 : (a : Int) ≤ i := by omega
          have m2 : (i : Int) ≤ s.length := by omega
          have m3 : a ≤ i := by omega
          have m4 : i ≤ s.length := by omega
          rcases h2 with h2 | ⟨h2, h3⟩
          · have h2' : ¬ (i : Int) < s.length := by omega
            simp [h2', he, m1, m2, m3, m4, hsl, pcD, encP]
          · have h2' : (i : Int) < s.length := by omega
            have hF := FP_at blkB s[i]
            cases hb : blkB s[i] with
            | true =>
              rw [hb] at hF
              simp [h2, h2', hEB, hF, he, m1, m2, m3, m4, hsl, pcD, encP]
            | false =>
              rw [hb] at hF
              simp only [plnB, hb, Bool.not_false, Bool.true_and] at h3
              by_cases b1 : s[i] = 39
              · simp [h2, h2', hEB, hF, fb39, fb36, fb96, he, b1, m1, m2, m3, m4, hsl, pcD, encP]
              · by_cases b3 : s[i] = 96
                · simp [h2, h2', hEB, hF, fb39, fb36, fb96, he, b1, b3, m1, m2, m3, m4, hsl, pcD, encP]
                · by_cases b2 : s[i] = 36
                  · simp [h2, h2', hEB, hF, fb39, fb36, fb96, he, b1, b2, b3, m1, m2, m3, m4, hsl, pcD, encP]
                  · exfalso
                    simp [b1, b2, b3] at h3
end Go.Ab
