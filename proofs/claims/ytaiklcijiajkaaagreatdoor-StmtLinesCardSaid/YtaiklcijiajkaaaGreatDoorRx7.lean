/- One text of a proof that a law of this seat says true for every input: words, pieces and statements as the document reads them. It holds of the given program under the conditions that the row prints. -/
import Derived.Test.YtaiklcijiajkaaaGreatDoorRxB
import Derived.Test.YtaiklcijiajkaaaGreatDoorLx15
set_option linter.unusedVariables false
set_option linter.unusedSimpArgs false
set_option maxRecDepth 100000
namespace Go.Ab
open Go.Proofs
variable {glob : Nat → Option (List D)}

def FRTrim : List D → Option (List D)
  | [.s s] => if s.length < 4294967281 then some [.s (trimG s)] else none
  | _ => none
theorem FRTrim_at (s : List UInt8) (h : s.length < 4294967281) : FRTrim [.s s] = some [.s (trimG s)] := by
  simp only [FRTrim]
  rw [if_pos h]
def FRWords : List D → Option (List D)
  | [.s s] => if s.length < 4294967281 then some (rwD (rWords s)) else none
  | _ => none
theorem FRWords_at (s : List UInt8) (h : s.length < 4294967281) : FRWords [.s s] = some (rwD (rWords s)) := by
  simp only [FRWords]
  rw [if_pos h]
def FRFind : List D → Option (List D)
  | [.s s, .s sg] => if s.length < 4294967281 ∧ sg.length < 4294967281 then some [.v (.int .i64 (rFind s sg 0))] else none
  | _ => none
theorem FRFind_at (s sg : List UInt8) (h : s.length < 4294967281) (h2 : sg.length < 4294967281) : FRFind [.s s, .s sg] = some [.v (.int .i64 (rFind s sg 0))] := by
  simp only [FRFind]
  rw [if_pos ⟨h, h2⟩]
def FRAttr : List D → Option (List D)
  | [.s s] => if s.length < 4294967281 then some (raD (rAttr s 0)) else none
  | _ => none
theorem FRAttr_at (s : List UInt8) (h : s.length < 4294967281) : FRAttr [.s s] = some (raD (rAttr s 0)) := by
  simp only [FRAttr]
  rw [if_pos h]
def RQ6 : Abs := ext (ext (ext (ext RQ5 21 FRTrim) 43 FRWords) 44 FRFind) 46 FRAttr
theorem RQ4_5 : ∀ f, Pure Tryz.prog (mkCtx tab glob) f (RQ4 f) := RQ4_ok
theorem RQ6_ok : ∀ f, Pure Tryz.prog (mkCtx tab glob) f (RQ6 f) := by
  refine ext_ok (ext_ok (ext_ok (ext_ok RQ5_ok ?_) ?_) ?_) ?_
  · refine pure_of (T_ok glob) RQ5_ok Tryz.func21 (by kernel_rfl) (kp := kp21) (fr := fr21) (by kernel_rfl) fun ds rs hF => ?_
    unfold FRTrim at hF
    split at hF
    · split at hF
      · rename_i h
        cases hF
        exact ⟨_, evRTrim _ h⟩
      · simp at hF
    · simp at hF
  · refine pure_of (T_ok glob) RQ4_ok Tryz.func43 (by kernel_rfl) (kp := kp43) (fr := fr43) (by kernel_rfl) fun ds rs hF => ?_
    unfold FRWords at hF
    split at hF
    · split at hF
      · rename_i h
        cases hF
        exact ⟨_, evRWords _ h⟩
      · simp at hF
    · simp at hF
  · refine pure_of (T_ok glob) RQ4_ok Tryz.func44 (by kernel_rfl) (kp := kp44) (fr := fr44) (by kernel_rfl) fun ds rs hF => ?_
    unfold FRFind at hF
    split at hF
    · split at hF
      · rename_i h
        cases hF
        exact ⟨_, evRFind _ _ h.1 h.2⟩
      · simp at hF
    · simp at hF
  · refine pure_of (T_ok glob) RQ5_ok Tryz.func46 (by kernel_rfl) (kp := kp46) (fr := fr46) (by kernel_rfl) fun ds rs hF => ?_
    unfold FRAttr at hF
    split at hF
    · split at hF
      · rename_i h
        cases hF
        exact ⟨_, evRAttr _ h⟩
      · simp at hF
    · simp at hF
def roD : Sm ⊕ Nat → List D
  | .inl s => [encS s, .v (.int .i64 0)]
  | .inr e => [encS Sm.z, .v (.int .i64 e)]
theorem rWords_err (s : List UInt8) (e : Nat) (h : rWords s = .inr e) : e ≠ 0 := pWords_err s e (by rw [words_law]; exact h)
theorem rAttr_err (s : List UInt8) (e : Nat) (h : rAttr s 0 = .inr e) : e ≠ 0 := by
  have := attr_law s s.length 0 0 (by omega) (by omega)
  rw [List.drop_zero] at this
  exact pAttr_err _ _ _ _ _ (Nat.le_refl _) (this.trans h)
theorem colon_le (s : List UInt8) : colon s ≤ s.length := (List.takeWhile_prefix (l := s) (fun b => !(b == 58))).length_le
theorem colon_lt : ∀ (s : List UInt8) (i : Nat) (h : i < s.length), i < colon s → s[i] ≠ 58
  | [], i, h, _ => by simp at h
  | b :: r, i, h, h2 => by
    unfold colon at h2
    rw [List.takeWhile_cons] at h2
    by_cases hb : b = 58
    · subst hb
      simp at h2
    · have hb' : (b == 58) = false := by simpa using hb
      rw [hb', if_pos (by simp)] at h2
      cases i with
      | zero => simpa using hb
      | succ i =>
        simp only [List.getElem_cons_succ]
        exact colon_lt r i _ (by unfold colon; simp at h2; omega)
theorem colon_at : ∀ (s : List UInt8) (h : colon s < s.length), s[colon s] = 58
  | [], h => by simp at h
  | b :: r, h => by
    unfold colon at h ⊢
    by_cases hb : b = 58
    · subst hb
      simp
    · have hb' : (b == 58) = false := by simpa using hb
      simp only [List.takeWhile_cons, hb', Bool.not_false, if_true, List.length_cons] at h ⊢
      simp only [List.getElem_cons_succ]
      exact colon_at r (by unfold colon; omega)
set_option maxHeartbeats 32000000 in
/-- ref19.One -/
theorem evROneS (s : List UInt8) (hl : s.length < 4294967281) (hne : s ≠ []) : fnK (mkCtx tab glob) RQ6 kp22 fr22 (s.length + 2) Tryz.f22 [.s s] = some (roD (rOneS s)) := by
  have hET : RQ6 21 = FRTrim := rfl
  have hEW : RQ6 43 = FRWords := rfl
  have hEF : RQ6 44 = FRFind := rfl
  have hEA : RQ6 46 = FRAttr := rfl
  have hEN : RQ6 45 = FName := rfl
  have hEG : RQ6 42 = FP gapC := rfl
  obtain ⟨b0, r0, rfl⟩ : ∃ b r, s = b :: r := by
    cases s with
    | nil => exact absurd rfl hne
    | cons b r => exact ⟨b, r, rfl⟩
  have hl' := hl
  simp only [List.length_cons] at hl'
  have hp : (0 : Int) < (r0.length : Int) + 1 := by omega
  have c1 : (1 : Int) ≤ (r0.length : Int) + 1 := by omega
  by_cases h60 : b0 = 60
  · subst h60
    unfold rOneS
    rw [if_pos (show ((60 : UInt8) :: r0)[0]? = some 60 from rfl)]
    have hT := FRTrim_at (r0.drop 1) (by simp; omega)
    have hW := FRWords_at r0 (by omega)
    by_cases h124 : r0[0]? = some 124
    · have h124' : (60 :: r0)[1]? = some 124 := by simpa using h124
      rw [if_pos h124']
      cases r0 with
      | nil => simp at h124
      | cons c r =>
        simp only [List.getElem?_cons_zero, Option.some.injEq] at h124
        subst h124
        simp only [List.drop_succ_cons, List.drop_zero] at hT ⊢
        have c2 : (2 : Int) ≤ (r.length : Int) + 1 + 1 := by omega
        have c3 : (1 : Int) < (r.length : Int) + 1 + 1 := by omega
        have c4 : (0 : Int) < (r.length : Int) + 1 + 1 := by omega
        have t1 : ((r.length : Int) + 1 + 1).toNat = r.length + 2 := by omega
        generalize trimG r = t at *
        cases t with
        | nil => simp [Tryz.f22, hET, hT, c2, c3, c4, t1, roD, encS, smC, Sm.z]
        | cons b t =>
          have hz : ((t.length : Int) + 1 == 0) = false := by rw [beq_eq_false_iff_ne]; omega
          simp [Tryz.f22, hz, hET, hT, c2, c3, c4, t1, roD, encS, smC, Sm.z]
    · have h124' : ¬ (60 :: r0)[1]? = some 124 := by simpa using h124
      rw [if_neg h124']
      simp only [List.drop_succ_cons, List.drop_zero]
      have hc : ∀ (Q : Option (List D)), (match r0 with | [] => Q | c :: r => Q) = Q := by intro Q; cases r0 <;> rfl
      cases r0 with
      | nil =>
        cases hx : rWords [] with
        | inr e =>
          have he := rWords_err _ _ hx
          have he' : ((e : Int) == 0) = false := by rw [beq_eq_false_iff_ne]; omega
          have he2 : ((e : Int) != 0) = true := by rw [bne_iff_ne]; omega
          rw [hx] at hW
          simp only [rwD] at hW
          simp [Tryz.f22, hEW, hW, he', he2, roD, encS, smC, Sm.z]
        | inl ws =>
          rw [hx] at hW
          simp only [rwD] at hW
          cases ws with
          | nil => simp [Tryz.f22, hEW, hW, roD, encS, smC, Sm.z]
          | cons w ws =>
            have hz : ((ws.length : Int) + 1 == 0) = false := by rw [beq_eq_false_iff_ne]; omega
            simp [Tryz.f22, hEW, hW, hz, roD, encS, smC, Sm.z]
      | cons c r =>
        have hcn : ¬ c = 124 := by simpa using h124
        have c2 : (1 : Int) ≤ (r.length : Int) + 1 + 1 := by omega
        have c3 : (1 : Int) < (r.length : Int) + 1 + 1 := by omega
        have c4 : (0 : Int) < (r.length : Int) + 1 + 1 := by omega
        have t1 : ((r.length : Int) + 1 + 1).toNat = r.length + 2 := by omega
        cases hx : rWords (c :: r) with
        | inr e =>
          have he := rWords_err _ _ hx
          have he' : ((e : Int) == 0) = false := by rw [beq_eq_false_iff_ne]; omega
          have he2 : ((e : Int) != 0) = true := by rw [bne_iff_ne]; omega
          rw [hx] at hW
          simp only [rwD] at hW
          simp [Tryz.f22, hcn, c2, c3, c4, t1, hEW, hW, he', he2, roD, encS, smC, Sm.z]
        | inl ws =>
          rw [hx] at hW
          simp only [rwD] at hW
          cases ws with
          | nil => simp [Tryz.f22, hcn, c2, c3, c4, t1, hEW, hW, roD, encS, smC, Sm.z]
          | cons w ws =>
            have hz : ((ws.length : Int) + 1 == 0) = false := by rw [beq_eq_false_iff_ne]; omega
            simp [Tryz.f22, hcn, c2, c3, c4, t1, hEW, hW, hz, roD, encS, smC, Sm.z]
  · have h60' : ¬ (b0 :: r0)[0]? = some 60 := by simpa using h60
    unfold rOneS
    rw [if_neg h60']
    have hF := FRFind_at (b0 :: r0) [58, 61] hl (by simp)
    have hW := FRWords_at (b0 :: r0) hl
    have hfl := rFind_lt (b0 :: r0) [58, 61] (b0 :: r0).length 0 (by omega)
    simp only
    generalize rFind (b0 :: r0) [58, 61] 0 = k at *
    by_cases hk : k < 0
    · rw [if_pos hk]
      cases hx : rWords (b0 :: r0) with
      | inr e =>
        have he := rWords_err _ _ hx
        have he' : ((e : Int) == 0) = false := by rw [beq_eq_false_iff_ne]; omega
        rw [hx] at hW
        simp only [rwD] at hW
        simp [Tryz.f22, h60, hp, hEF, hF, hk, hEW, hW, he', roD, encS, smC, Sm.z]
      | inl ws =>
        rw [hx] at hW
        simp only [rwD] at hW
        simp [Tryz.f22, h60, hp, hEF, hF, hk, hEW, hW, roD, encS, smC, Sm.z]
    · rw [if_neg hk]
      obtain ⟨h1, h2, b1, hb1, hb2⟩ := hfl.resolve_left hk
      obtain ⟨n, rfl⟩ : ∃ n : Nat, k = n := ⟨k.toNat, by omega⟩
      have t0 : (n : Int).toNat = n := by omega
      rw [t0] at hb2
      simp only [t0]
      have hsf := Tryz.f22
      -- the text whole again
      obtain ⟨s, hs⟩ : ∃ s, s = b0 :: r0 := ⟨_, rfl⟩
      have hs0 : s[0]? = some b0 := by rw [hs]; rfl
      have hspos : 0 < s.length := by rw [hs]; simp
      have hs0' : s[0]'hspos = b0 := by simp [hs]
      rw [← hs] at h2 hb2 hF hl hW ⊢
      clear hs hW
      have hn : n < s.length := by omega
      have hk' : ¬ (n : Int) < 0 := by omega
      have d1 : (0 : Int) < s.length := by omega
      have d2 : (n : Int) + 1 ≤ s.length := by omega
      have d3 : (0 : Int) ≤ (n : Int) + 1 := by omega
      have d4 : ((n : Int) + 1).toNat = n + 1 := by omega
      have d5 : (n : Int) ≤ s.length := by omega
      have hw : IntKind.i64.wrap ((n : Int) + 1) = (n : Int) + 1 := wrap_i64 (by omega) (by omega)
      have hT1 := FRTrim_at (s.take n) (by simp; omega)
      have hN := FName_at (trimG (s.take n)) (by have := trimG_le (s.take n); simp at this; omega)
      have hW1 := FRWords_at (s.take n) (by simp; omega)
      have hrl : (s.drop (n + 1)).length < 4294967281 := by simp; omega
      have hrs : (s.drop (n + 1)).length ≤ s.length := by simp
      have hsn : s[n]? = some s[n] := List.getElem?_eq_getElem hn
      generalize hrest : s.drop (n + 1) = rest at *
      generalize hhd : s.take n = hd at *
      by_cases h61 : s[n] = 61
      · rw [if_pos (by rw [hsn, h61])]
        cases hnm : namOk (trimG hd) with
        | false =>
          rw [hnm] at hN
          simp only [Bool.false_eq_true, if_false]
          simp [Tryz.f22, hs0', hspos, h60, d1, d2, d3, d4, d5, t0, hw, hk', hn, h61, hEF, hF, hhd, hrest, hET, hT1, hEN, hN, roD, encS, smC, Sm.z]
        | true =>
          rw [hnm] at hN
          simp only [if_true]
          have hF2 := FRFind_at rest [61] hrl (by simp)
          have hfl2 := rFind_lt rest [61] rest.length 0 (by omega)
          generalize rFind rest [61] 0 = j at *
          generalize trimG hd = nm at *
          by_cases hj : j < 0
          · have hj' : ¬ 0 ≤ j := by omega
            simp only [decide_eq_false hj', Bool.false_and, Bool.false_eq_true, if_false]
            have hW := FRWords_at rest hrl
            cases hx : rWords rest with
            | inr e =>
              have he := rWords_err _ _ hx
              have he2 : ((e : Int) != 0) = true := by rw [bne_iff_ne]; omega
              rw [hx] at hW
              simp only [rwD] at hW
              simp [Tryz.f22, hs0', hspos, h60, d1, d2, d3, d4, d5, t0, hw, hk', hn, h61, hEF, hF, hhd, hrest, hET, hT1, hEN, hN, hF2, hj', hEW, hW, he2, roD, encS, smC, Sm.z]
            | inl ws =>
              rw [hx] at hW
              simp only [rwD] at hW
              simp [Tryz.f22, hs0', hspos, h60, d1, d2, d3, d4, d5, t0, hw, hk', hn, h61, hEF, hF, hhd, hrest, hET, hT1, hEN, hN, hF2, hj', hEW, hW, roD, encS, smC, Sm.z]
          · obtain ⟨g1, g2, _⟩ := hfl2.resolve_left hj
            obtain ⟨m, rfl⟩ : ∃ m : Nat, j = m := ⟨j.toNat, by omega⟩
            have u0 : (m : Int).toNat = m := by omega
            have hj' : (0 : Int) ≤ m := by omega
            simp only [u0, decide_eq_true hj', Bool.true_and]
            have e1 : (m : Int) ≤ rest.length := by omega
            have e2 : (m : Int) + 1 ≤ rest.length := by omega
            have e3 : (0 : Int) ≤ (m : Int) + 1 := by omega
            have e4 : ((m : Int) + 1).toNat = m + 1 := by omega
            have hw2 : IntKind.i64.wrap ((m : Int) + 1) = (m : Int) + 1 := wrap_i64 (by omega) (by omega)
            have hT2 := FRTrim_at (rest.take m) (by simp; omega)
            have htl := trimG_le (rest.take m)
            rw [List.length_take] at htl
            have hW2 := FRWords_at (rest.drop (m + 1)) (by simp; omega)
            have hW := FRWords_at rest hrl
            generalize hd2 : rest.drop (m + 1) = rest2 at *
            generalize trimG (rest.take m) = t at *
            have hte : decide (t ≠ []) = decide (0 < t.length) := by
              rw [Bool.eq_iff_iff]
              simp [List.length_pos_iff]
            rw [hte]
            obtain ⟨RR, hRR⟩ : ∃ RR : Sm ⊕ Nat, (match rWords (if (decide (0 < t.length) && t.all (· == 85)) = true then rest2 else rest) with
              | .inr e => .inr e
              | .inl ws => .inl { Sm.z with kind := 1, name := nm, hidden := (decide (0 < t.length) && t.all (· == 85)), words := ws } : Sm ⊕ Nat) = RR := ⟨_, rfl⟩
            refine (?_ : _ = some (roD RR)).trans (congrArg (fun x => some (roD x)) hRR.symm)
            simp [Tryz.f22, hs0', hspos, h60, d1, d2, d3, d4, d5, t0, hw, hk', hn, h61, hEF, hF, hhd, hrest, hET, hT1, hEN, hN, hF2, hj', e1, e2, u0, hT2]
            refine loop_rule (R := List D) (σ := Nat × Bool) (fun x => ⟨slots 194 [(2, .ref (1, 2) 0), (10, .ref (1, 10) 0), (12, .d (.s rest)), (13, .d (.v (.int .i64 m))), (14, .d (.s t)), (15, .d (.v (.bool x.2))), (16, .d (.v (.int .i64 x.1)))], [((1, 10), .box [.d (.v (.int .i64 1)), .d (.v (.int .i64 0)), .d (.s nm), .d (.sl 1 []), .d (.sl 1 []), .d (.v (.int .i64 0)), .d (.s []), .d (.s []), .d (.v (.bool false)), .d (.v (.bool false))]), ((1, 2), .box [.d (.v (.int .i64 0)), .d (.v (.int .i64 0)), .d (.s []), .d (.sl 1 []), .d (.sl 1 []), .d (.v (.int .i64 0)), .d (.s []), .d (.s []), .d (.v (.bool false)), .d (.v (.bool false))])]⟩)
              (fun x => t.length - x.1) (fun x => x.1 ≤ t.length ∧ x.2 = (decide (0 < t.length) && (t.take x.1).all (· == 85))) (fun _ => some (roD RR)) (0, decide (0 < t.length)) [2, 10, 12, 13, 14, 15, 16] (by simp [kp22]) ⟨Nat.zero_le _, by simp⟩ (by simp only; omega) (by simp) ?_
            rintro ⟨i, b⟩ κ' ⟨hi, hb⟩ hn2 he hr
            simp only at hi hb
            have hwi : IntKind.i64.wrap ((i : Int) + 1) = (i : Int) + 1 := wrap_i64 (by omega) (by omega)
            by_cases hit : i < t.length
            · have hit' : (i : Int) < t.length := by omega
              have hpos : 0 < t.length := by omega
              have hstep : (decide (0 < t.length) && (t.take (i + 1)).all (· == 85)) = (b && (t[i] == 85)) := by
                rw [hb, List.take_succ_eq_append_getElem hit, List.all_append, decide_eq_true hpos]
                simp
              cases hbb : b with
              | false =>
                rw [hbb] at hstep
                simp [hit, hit', hwi]
                exact hn2 (i + 1, false) _ ⟨by simp only; omega, by simp only; rw [hstep]; rfl⟩ (by simp only; omega) (by simp)
              | true =>
                rw [hbb, Bool.true_and] at hstep
                by_cases h85 : t[i] = 85
                · simp [hit, hit', hwi, h85]
                  exact hn2 (i + 1, true) _ ⟨by simp only; omega, by simp only; rw [hstep, h85]; rfl⟩ (by simp only; omega) (by simp)
                · simp [hit, hit', hwi, h85]
                  exact hn2 (i + 1, false) _ ⟨by simp only; omega, by simp only; rw [hstep]; simpa using h85⟩ (by simp only; omega) (by simp)
            · have hit' : ¬ (i : Int) < t.length := by omega
              obtain rfl : i = t.length := by omega
              rw [List.take_length] at hb
              rw [← hb] at hRR
              cases hbb : b with
              | false =>
                rw [hbb, if_neg (by simp)] at hRR
                cases hx : rWords rest with
                | inr e =>
                  have hee := rWords_err _ _ hx
                  have he2 : ((e : Int) != 0) = true := by rw [bne_iff_ne]; omega
                  rw [hx] at hW hRR
                  simp only [rwD] at hW hRR
                  simp [he, hEW, hW, he2, ← hRR, roD, encS, smC, Sm.z]
                | inl ws =>
                  rw [hx] at hW hRR
                  simp only [rwD] at hW hRR
                  simp [he, hEW, hW, ← hRR, roD, encS, smC, Sm.z]
              | true =>
                rw [hbb, if_pos rfl] at hRR
                cases hx : rWords rest2 with
                | inr e =>
                  have hee := rWords_err _ _ hx
                  have he2 : ((e : Int) != 0) = true := by rw [bne_iff_ne]; omega
                  rw [hx] at hW2 hRR
                  simp only [rwD] at hW2 hRR
                  simp [he, e2, e3, e4, hw2, hd2, hEW, hW2, he2, ← hRR, roD, encS, smC, Sm.z]
                | inl ws =>
                  rw [hx] at hW2 hRR
                  simp only [rwD] at hW2 hRR
                  simp [he, e2, e3, e4, hw2, hd2, hEW, hW2, ← hRR, roD, encS, smC, Sm.z]
      · rw [if_neg (by rw [hsn]; simpa using h61)]
        have h61' : (s[n] == 61) = false := by simpa using h61
        cases hx : rWords hd with
        | inr e =>
          have hee := rWords_err _ _ hx
          have he' : ((e : Int) == 0) = false := by rw [beq_eq_false_iff_ne]; omega
          have he2 : ((e : Int) != 0) = true := by rw [bne_iff_ne]; omega
          rw [hx] at hW1
          simp only [rwD] at hW1
          simp [Tryz.f22, hs0', hspos, h60, d1, d2, d3, d4, d5, t0, hw, hk', hn, h61, hEF, hF, hhd, hrest, h61', hEW, hW1, he', he2, roD, encS, smC, Sm.z]
        | inl wl =>
          rw [hx] at hW1
          simp only [rwD] at hW1
          cases wl with
          | nil => simp [Tryz.f22, hs0', hspos, h60, d1, d2, d3, d4, d5, t0, hw, hk', hn, h61, hEF, hF, hhd, hrest, h61', hEW, hW1, roD, encS, smC, Sm.z]
          | cons w wl =>
            have hz : ((wl.length : Int) + 1 == 0) = false := by rw [beq_eq_false_iff_ne]; omega
            simp only
            cases rest with
            | nil =>
              have hW := FRWords_at [] (by simp)
              simp only [rTail]
              cases hx : rWords [] with
              | inr e =>
                have hee := rWords_err _ _ hx
                have he2 : ((e : Int) != 0) = true := by rw [bne_iff_ne]; omega
                rw [hx] at hW
                simp only [rwD] at hW
                simp [Tryz.f22, hs0', hspos, h60, d1, d2, d3, d4, d5, t0, hw, hk', hn, h61, hEF, hF, hhd, hrest, h61', hEW, hW1, hz, hW, he2, roD, encS, smC, Sm.z]
              | inl ws =>
                rw [hx] at hW
                simp only [rwD] at hW
                simp [Tryz.f22, hs0', hspos, h60, d1, d2, d3, d4, d5, t0, hw, hk', hn, h61, hEF, hF, hhd, hrest, h61', hEW, hW1, hz, hW, roD, encS, smC, Sm.z]
            | cons b r =>
              simp only [List.length_cons] at hrl
              have hG := FP_at gapC b
              have f1 : (0 : Int) < (r.length : Int) + 1 := by omega
              simp only
              cases hgb : gaps.contains b with
              | true =>
                have hgc : gapC b = true := hgb
                rw [hgc] at hG
                simp only [if_true, rTail]
                have hW := FRWords_at (b :: r) (by simpa using hrl)
                cases hx : rWords (b :: r) with
                | inr e =>
                  have hee := rWords_err _ _ hx
                  have he2 : ((e : Int) != 0) = true := by rw [bne_iff_ne]; omega
                  rw [hx] at hW
                  simp only [rwD] at hW
                  simp [Tryz.f22, hs0', hspos, h60, d1, d2, d3, d4, d5, t0, hw, hk', hn, h61, hEF, hF, hhd, hrest, h61', hEW, hW1, hz, f1, hEG, hG, hW, he2, roD, encS, smC, Sm.z]
                | inl ws =>
                  rw [hx] at hW
                  simp only [rwD] at hW
                  simp [Tryz.f22, hs0', hspos, h60, d1, d2, d3, d4, d5, t0, hw, hk', hn, h61, hEF, hF, hhd, hrest, h61', hEW, hW1, hz, f1, hEG, hG, hW, roD, encS, smC, Sm.z]
              | false =>
                have hgc : gapC b = false := hgb
                rw [hgc] at hG
                simp only [Bool.false_eq_true, if_false]
                obtain ⟨RR, hRR⟩ : ∃ RR : Sm ⊕ Nat, (if colon (b :: r) = (b :: r).length then .inr 7
                  else match rAttr ((b :: r).take (colon (b :: r))) 0 with
                    | .inr e => .inr e
                    | .inl (f, q) => rTail (w :: wl) f q ((b :: r).drop (colon (b :: r) + 1)) : Sm ⊕ Nat) = RR := ⟨_, rfl⟩
                refine (?_ : _ = some (roD RR)).trans (congrArg (fun x => some (roD x)) hRR.symm)
                simp [Tryz.f22, hs0', hspos, h60, d1, d2, d3, d4, d5, t0, hw, hk', hn, h61, hEF, hF, hhd, hrest, h61', hEW, hW1, hz, f1, hEG, hG]
                have hcl := colon_le (b :: r)
                have hclt := colon_lt (b :: r)
                have hcat := colon_at (b :: r)
                have hlen : (r.length : Int) + 1 = ((b :: r).length : Int) := by simp
                obtain ⟨v, hv⟩ : ∃ v, v = b :: r := ⟨_, rfl⟩
                rw [← hv] at hRR hcl hclt hcat hlen ⊢
                have hvl : v.length < 4294967281 := by rw [hv]; simpa using hrl
                have hvs : v.length ≤ s.length := by rw [hv]; exact hrs
                clear hv
                refine loop_rule (R := List D) (σ := Nat) (fun i => ⟨slots 194 [(2, .ref (1, 2) 0), (10, .ref (1, 10) 0), (12, .d (.s v)), (17, .d (.v (.int .i64 i)))], [((1, 10), .box [.d (.v (.int .i64 2)), .d (.v (.int .i64 0)), .d (.s []), .d (.sl 1 (encW w :: wl.map encW)), .d (.sl 1 []), .d (.v (.int .i64 0)), .d (.s []), .d (.s []), .d (.v (.bool false)), .d (.v (.bool false))]), ((1, 2), .box [.d (.v (.int .i64 0)), .d (.v (.int .i64 0)), .d (.s []), .d (.sl 1 []), .d (.sl 1 []), .d (.v (.int .i64 0)), .d (.s []), .d (.s []), .d (.v (.bool false)), .d (.v (.bool false))])]⟩)
                  (fun i => v.length - i) (fun i => i ≤ colon v) (fun _ => some (roD RR)) 0 [2, 10, 12, 17] (by simp [kp22]) (Nat.zero_le _) (by omega) (by simp) ?_
                intro i κ' hi hn2 he hr
                have hwi : IntKind.i64.wrap ((i : Int) + 1) = (i : Int) + 1 := wrap_i64 (by omega) (by omega)
                by_cases hic : i < colon v
                · have hil : i < v.length := by omega
                  have hil' : (i : Int) < v.length := by omega
                  have h58 := hclt i hil hic
                  have h58' : (v[i] != 58) = true := by simpa using h58
                  simp [hil, hil', h58, h58', hwi]
                  exact hn2 (i + 1) _ (by omega) (by omega) (by simp)
                · obtain rfl : i = colon v := by omega
                  by_cases hce : colon v = v.length
                  · rw [if_pos hce] at hRR
                    simp [hce, he, ← hRR, roD, encS, smC, Sm.z]
                  · rw [if_neg hce] at hRR
                    have hcv : colon v < v.length := by omega
                    have hcv' : (colon v : Int) < v.length := by omega
                    have hne' : ((colon v : Int) == (v.length : Int)) = false := by rw [beq_eq_false_iff_ne]; omega
                    have hA := FRAttr_at (v.take (colon v)) (by simp; omega)
                    have q1 : (colon v : Int) ≤ v.length := by omega
                    have q2 : (colon v : Int) + 1 ≤ v.length := by omega
                    have q3 : (0 : Int) ≤ (colon v : Int) + 1 := by omega
                    have q4 : ((colon v : Int) + 1).toNat = colon v + 1 := by omega
                    have h58 := hcat hcv
                    cases hxa : rAttr (v.take (colon v)) 0 with
                    | inr e =>
                      have hee := rAttr_err _ _ hxa
                      have he2 : ((e : Int) != 0) = true := by rw [bne_iff_ne]; omega
                      rw [hxa] at hA hRR
                      simp only [raD] at hA hRR
                      simp [hcv, hcv', h58, he, hne', q1, hEA, hA, he2, ← hRR, roD, encS, smC, Sm.z]
                    | inl y =>
                      obtain ⟨f, q⟩ := y
                      rw [hxa] at hA hRR
                      simp only [raD, rTail] at hA hRR
                      have hW := FRWords_at (v.drop (colon v + 1)) (by simp; omega)
                      cases hx : rWords (v.drop (colon v + 1)) with
                      | inr e =>
                        have hee := rWords_err _ _ hx
                        have he2 : ((e : Int) != 0) = true := by rw [bne_iff_ne]; omega
                        rw [hx] at hW hRR
                        simp only [rwD] at hW hRR
                        simp [hcv, hcv', h58, he, hne', q1, q2, q3, q4, hwi, hEA, hA, hEW, hW, he2, ← hRR, roD, encS, smC, Sm.z]
                      | inl ws =>
                        rw [hx] at hW hRR
                        simp only [rwD] at hW hRR
                        simp [hcv, hcv', h58, he, hne', q1, q2, q3, q4, hwi, hEA, hA, hEW, hW, ← hRR, roD, encS, smC, Sm.z]
end Go.Ab
