/- One text of a proof that a law of this seat says true for every input: printed rules. It holds of the given program under the conditions that the row prints. -/
import Derived.Test.YticphlljahcmkaaDoorPr13
set_option linter.unusedVariables false
set_option linter.unusedSimpArgs false
set_option maxRecDepth 100000
namespace Go.Ab
open Go.Proofs
variable {glob : Nat → Option (List D)} {p : Nat → Addr} {o : Nat → Obj}

/-- The error's number. -/
def numC : Nat → Int
  | 0 => 0
  | 1 => 10
  | 2 => 2
  | 3 => 3
  | _ => -1
noncomputable def F32 : List D → Option (List D) := liftR fun r => some [.v (.bool (toldS r))]
def F59 : List D → Option (List D) := F83
def F60 : List D → Option (List D)
  | [.st [.v (.int .i64 f), .s q]] => if rightA f q = true then some [.s (attrT f q)] else none
  | _ => none
noncomputable def ER2 : Abs := ext (ext (ext (ext (fun _ _ => none) 13 F13) 32 F32) 59 F59) 60 F60
theorem ER2_ok : ∀ f, Pure Tryd.prog (mkCtx tab glob) f (ER2 f) := by
  refine ext_ok (ext_ok (ext_ok (ext_ok none_ok F13_ok) ?_) ?_) ?_
  · refine pure_of (T_ok glob) ER1_ok Tryd.func32 (by kernel_rfl) (kp := kp32) (fr := fr32) (by kernel_rfl) fun ds rs hF => ?_
    obtain ⟨r, hr, rfl, h⟩ := liftR_some hF
    cases h
    exact ⟨_, ev32 r hr⟩
  · refine pure_of (T_ok glob) EX2_ok Tryd.func59 (by kernel_rfl) (kp := kp59) (fr := fr59) (by kernel_rfl) fun ds rs hF => ?_
    unfold F59 F83 at hF
    split at hF
    · split at hF
      · rename_i ls hls
        split at hF
        · rename_i h
          cases hF
          obtain rfl := strsOf_some hls
          exact ⟨_, ev59 ls h.1 h.2⟩
        · simp at hF
      · simp at hF
    · simp at hF
  · refine pure_of (T_ok glob) EX3_ok Tryd.func60 (by kernel_rfl) (kp := kp60) (fr := fr60) (by kernel_rfl) fun ds rs hF => ?_
    unfold F60 at hF
    split at hF
    · split at hF
      · rename_i h
        cases hF
        exact ⟨_, ev60 _ _ h⟩
      · simp at hF
    · simp at hF
theorem told_parts (r : Rl) (h : toldS r = true) : rightA r.fl r.pg = true ∧ (r.rc.isEmpty || Lib.hasSuffix r.rc [10]) = true := by
  simp only [toldS, Bool.and_eq_true] at h
  exact ⟨h.2, h.1.1.2⟩
def outR (x : List UInt8 × Bool) : List D := match x.2 with
  | true => [.s [], .v (.int .i64 2)]
  | false => [.s x.1, .v (.int .i64 0)]
set_option maxHeartbeats 16000000 in
/-- ref40.Rule -/
theorem ev29 (r : Rl) (h : r.good) : fnK (mkCtx tab glob) ER2 kp29 fr29 1300 Tryd.f29 [r.enc] = some (if checkS r = 0 then [.s (ruleS r), .v (.int .i64 0)] else [.s [], .v (.int .i64 (numC (checkS r)))]) := by
  have a1 : F32 [r.enc] = some [.v (.bool (toldS r))] := liftR_enc r h
  have hh := headS_le r h
  obtain ⟨h1, h2, h3, h4, h5, h6⟩ := h
  have b1 := joinQ_le r.tg h1 h2
  have b2 := joinQ_le r.pr h3 h4
  have b3 := attrT_le r.fl r.pg
  have a2 : F59 [.sl 1 (r.tg.map .s)] = some [.s (joinQ r.tg)] := F83_at r.tg h1 h2
  have a3 : F59 [.sl 1 (r.pr.map .s)] = some [.s (joinQ r.pr)] := F83_at r.pr h3 h4
  have a4 := F13_at r.tg 40 120 (by omega)
  have a5 := F13_at r.pr 40 120 (by omega)
  have c6 : ((40 : Nat) : Int) = 40 := rfl
  have c7 : ((120 : Nat) : Int) = 120 := rfl
  rw [c6, c7] at a4 a5
  have d1 : decide ((40 : Int) < (r.tg.length : Int)) = decide (40 < r.tg.length) := decl_lt 40 _
  have d2 : decide ((40 : Int) < (r.pr.length : Int)) = decide (40 < r.pr.length) := decl_lt 40 _
  have ht := told_parts r
  have hrf := rf_phys r.rc
  have hhd : headS r = joinQ r.tg ++ [58] ++ (if attrT r.fl r.pg = [] then [] else attrT r.fl r.pg ++ [58]) ++ (if r.pr = [] then [] else [32] ++ joinQ r.pr) := rfl
  have hc : checkS r = if toldS r = false then 3 else if (decide (40 < r.tg.length) || decide (40 < r.pr.length)) = true then 1
    else if (r.tg.any (fun l => decide (120 < l.length)) || r.pr.any (fun l => decide (120 < l.length))) = true then 2
    else if (decide (400 < (headS r).length) || (phys r.rc).any (fun l => decide (400 < l.length))) = true then 2 else 0 := rfl
  have hru : ruleS r = headS r ++ [10] ++ ((phys r.rc).map fun s => 9 :: (s ++ [10])).flatten := rfl
  obtain ⟨tg, pr, fl, pg, rc, fi, ln⟩ := r
  simp only [Rl.enc] at *
  rw [hc, hru]
  clear hc hru
  generalize toldS _ = t at *
  cases t with
  | false => simp [Tryd.f29, ER2, a1, numC]
  | true =>
    obtain ⟨hra, hrc⟩ := ht rfl
    have a6 : F60 [.st [.v (.int .i64 fl), .s pg]] = some [.s (attrT fl pg)] := by
      simp only [F60]
      rw [if_pos hra]
    have hrf := fun out lg => hrf out lg hrc
    clear hra hrc
    simp only [longL] at a4 a5
    generalize List.any tg (fun l => decide (120 < l.length)) = w1 at *
    generalize List.any pr (fun l => decide (120 < l.length)) = w2 at *
    cases e1 : decide (40 < tg.length) with
    | true =>
      rw [e1] at d1
      simp [Tryd.f29, ER2, a1, d1, numC]
    | false =>
      rw [e1] at d1 a4
      cases e2 : decide (40 < pr.length) with
      | true =>
        rw [e2] at d2
        simp [Tryd.f29, ER2, a1, d1, d2, numC]
      | false =>
        rw [e2] at d2 a5
        cases w1 with
        | true =>
          simp only [Bool.false_or] at a4
          simp [Tryd.f29, ER2, a1, d1, d2, a4, numC]
        | false =>
          cases w2 with
          | true =>
            simp only [Bool.false_or] at a4 a5
            simp [Tryd.f29, ER2, a1, d1, d2, a4, a5, numC]
          | false =>
            simp only [Bool.false_or] at a4 a5
            generalize hH : headS _ = hd at *
            generalize joinQ tg = t1 at *
            generalize joinQ pr = t2 at *
            generalize attrT fl pg = t3 at *
            have f1 : t1.length + 1 ≤ lim := by unfold lim; omega
            have f2 : t3.length + 1 ≤ lim := by unfold lim; omega
            have f4 : 1 + t2.length ≤ lim := by unfold lim; omega
            have g1 : t1.length + (t3.length + 1 + 1) ≤ lim := by unfold lim; omega
            have g2 : t1.length + 1 + (t2.length + 1) ≤ lim := by unfold lim; omega
            have g3 : t1.length + (t3.length + 1 + 1) + (t2.length + 1) ≤ lim := by unfold lim; omega
            have g4 : t1.length + 1 + (t3.length + 1) ≤ lim := by unfold lim; omega
            have k1 : t1.length + 1 + 1 ≤ lim := by unfold lim; omega
            have k2 : t1.length + (t3.length + 1 + 1) + 1 ≤ lim := by unfold lim; omega
            have k3 : t1.length + (t2.length + 1 + 1) + 1 ≤ lim := by unfold lim; omega
            have k4 : t1.length + (t3.length + (t2.length + 1 + 1) + 1) + 1 ≤ lim := by unfold lim; omega
            have k5 : t1.length + (t3.length + (t2.length + 1 + 1)) + 1 ≤ lim := by unfold lim; omega
            have hres : (if (if (decide (400 < hd.length) || (phys rc).any fun l => decide (400 < l.length)) = true then 2 else 0) = 0 then [D.s (hd ++ [10] ++ ((phys rc).map fun s => 9 :: (s ++ [10])).flatten), .v (.int .i64 0)] else [.s [], .v (.int .i64 (numC (if (decide (400 < hd.length) || (phys rc).any fun l => decide (400 < l.length)) = true then 2 else 0)))]) =
                outR (rfS rc [] (hd ++ [10]) (decide ((400 : Int) < (hd.length : Int)))) := by
              rw [hrf, show decide ((400 : Int) < (hd.length : Int)) = decide (400 < hd.length) from decl_lt 400 _]
              cases (decide (400 < hd.length) || (phys rc).any fun l => decide (400 < l.length)) <;> simp [numC, outR]
            simp only [Bool.false_eq_true, Bool.true_eq_false, if_false, Bool.or_false]
            rw [hres]
            clear hres hrf
            generalize hX : outR (rfS rc [] (hd ++ [10]) (decide ((400 : Int) < (hd.length : Int)))) = X
            cases t3 with
            | nil =>
              cases pr with
              | nil =>
                simp only [List.map_nil] at *
                simp [Tryd.f29, ER2, a1, a2, a3, a4, a5, a6, d1, d2, f1, f2, f4, g1, g2, g3, g4, k1, k2, k3, k4, k5, iceMark]
                rw [← hX]
                refine loop_rule (R := List D) (σ := Nat × Nat × List UInt8 × Bool) (fun x => ⟨slots 91 [(1, .ref (1, 1) 0), (4, .d (.s x.2.2.1)), (6, .d (.v (.bool x.2.2.2))), (7, .d (.v (.int .i64 x.2.1))), (8, .d (.v (.int .i64 x.1)))], [((1, 1), .box [.d (.sl 1 (tg.map .s)), .d (.sl 1 ([])), .d (.v (.int .i64 fl)), .d (.s pg), .d (.s rc), .d (.s fi), .d (.v (.int .i64 ln))])]⟩) (fun x => rc.length - x.1) (fun x => x.1 ≤ rc.length ∧ x.2.1 ≤ x.1 ∧ x.2.2.1.length + (x.1 - x.2.1) ≤ 30001 + 2 * x.1)
                  (fun x => some (outR (rfS (rc.drop x.1) ((rc.take x.1).drop x.2.1) x.2.2.1 x.2.2.2))) (0, 0, hd ++ [10], decide ((400 : Int) < (hd.length : Int))) [1, 4, 6, 7, 8] (by simp [kp29]) (by simp; omega) (by simp; omega) (by simp [hhd]) ?_
                rintro ⟨j, frm, out, lg⟩ κ' ⟨hj, hfj, hol⟩ hn he hr
                simp only at hj hfj hol hn he hr ⊢
                have hw : IntKind.i64.wrap (↑j + 1) = ↑j + 1 := wrap_i64 (by omega) (by omega)
                have hws : IntKind.i64.wrap ((j : Int) - (frm : Int)) = (j : Int) - (frm : Int) := wrap_i64 (by omega) (by omega)
                by_cases hjl : j < rc.length
                · have hdr : rc.drop j = rc[j] :: rc.drop (j + 1) := List.drop_eq_getElem_cons hjl
                  have htk : rc.take (j + 1) = rc.take j ++ [rc[j]] := List.take_succ_eq_append_getElem hjl
                  have hcur : (rc.take (j + 1)).drop frm = (rc.take j).drop frm ++ [rc[j]] := by
                    rw [htk, List.drop_append_of_le_length (by simp; omega)]
                  have hcl : ((rc.take j).drop frm).length = j - frm := by simp; omega
                  have hnil : (rc.take (j + 1)).drop (j + 1) = [] := by rw [List.drop_eq_nil_iff]; simp; omega
                  have hrs : rfS (rc.drop j) ((rc.take j).drop frm) out lg = if rc[j] = 10 then rfS (rc.drop (j + 1)) [] (out ++ 9 :: ((rc.take j).drop frm ++ [10])) (lg || decide (400 < ((rc.take j).drop frm).length)) else rfS (rc.drop (j + 1)) ((rc.take j).drop frm ++ [rc[j]]) out lg := by rw [hdr, rfS]
                  rw [hrs]
                  clear hrs
                  by_cases hb : rc[j] = 10
                  · rw [hb] at hcur
                    rw [if_pos hb]
                    generalize hcu : (rc.take j).drop frm = cur at *
                    have q1 : (frm : Int) ≤ (j : Int) + 1 := by omega
                    have q2 : (j : Int) + 1 ≤ (rc.length : Int) := by omega
                    have q3 : ((j : Int) + 1).toNat = j + 1 := by omega
                    have q4 : (0 : Int) ≤ (j : Int) + 1 := by omega
                    have q5 : cur.length + 1 + 1 ≤ lim := by unfold lim; omega
                    have q6 : out.length + (cur.length + 1 + 1) ≤ lim := by unfold lim; omega
                    have q7 : 1 + (cur.length + 1) ≤ lim := by unfold lim; omega
                    have q8 : decide ((400 : Int) < (j : Int) - (frm : Int)) = decide (400 < cur.length) := by
                      rw [hcl]
                      by_cases hz : 400 < j - frm
                      · rw [decide_eq_true hz, decide_eq_true (by omega)]
                      · rw [decide_eq_false hz, decide_eq_false (by omega)]
                    have step := hn (j + 1, j + 1, out ++ 9 :: (cur ++ [10]), lg || decide (400 < cur.length)) 
                    simp only [hnil] at step
                    cases lg with
                    | true =>
                      simp [hjl, hb, hw, hcur, q1, q2, q3, q4, q5, q6, q7, cutK]
                      exact step _ ⟨by omega, by omega, by simp; omega⟩ (by omega) (by simp)
                    | false =>
                      generalize hz : decide (400 < cur.length) = z at *
                      simp [hjl, hb, hw, hws, hcur, q1, q2, q3, q4, q5, q6, q7, q8, cutK]
                      exact step _ ⟨by omega, by omega, by simp; omega⟩ (by omega) (by simp)
                  · rw [if_neg hb, ← hcur]
                    simp [hjl, hb, hw]
                    exact hn (j + 1, frm, out, lg) _ ⟨by omega, by simp; omega, by simp; omega⟩ (by simp; omega) (by simp)
                · have hj2 : j = rc.length := by omega
                  subst hj2
                  rw [List.drop_length, rfS]
                  cases lg <;> simp [he, outR]
              | cons y pr =>
                simp only [List.map_cons] at *
                have hp : (0 : Int) < (pr.length : Int) + 1 := by omega
                have d2' : ¬ ((40 : Int) < (pr.length : Int) + 1) := by simpa using d2
                simp [Tryd.f29, ER2, a1, a2, a3, a4, a5, a6, d1, d2, f1, f2, f4, g1, g2, g3, g4, k1, k2, k3, k4, k5, iceMark, hp, d2']
                rw [← hX]
                refine loop_rule (R := List D) (σ := Nat × Nat × List UInt8 × Bool) (fun x => ⟨slots 91 [(1, .ref (1, 1) 0), (4, .d (.s x.2.2.1)), (6, .d (.v (.bool x.2.2.2))), (7, .d (.v (.int .i64 x.2.1))), (8, .d (.v (.int .i64 x.1)))], [((1, 1), .box [.d (.sl 1 (tg.map .s)), .d (.sl 1 ((y :: pr).map .s)), .d (.v (.int .i64 fl)), .d (.s pg), .d (.s rc), .d (.s fi), .d (.v (.int .i64 ln))])]⟩) (fun x => rc.length - x.1) (fun x => x.1 ≤ rc.length ∧ x.2.1 ≤ x.1 ∧ x.2.2.1.length + (x.1 - x.2.1) ≤ 30001 + 2 * x.1)
                  (fun x => some (outR (rfS (rc.drop x.1) ((rc.take x.1).drop x.2.1) x.2.2.1 x.2.2.2))) (0, 0, hd ++ [10], decide ((400 : Int) < (hd.length : Int))) [1, 4, 6, 7, 8] (by simp [kp29]) (by simp; omega) (by simp; omega) (by simp [hhd]) ?_
                rintro ⟨j, frm, out, lg⟩ κ' ⟨hj, hfj, hol⟩ hn he hr
                simp only at hj hfj hol hn he hr ⊢
                have hw : IntKind.i64.wrap (↑j + 1) = ↑j + 1 := wrap_i64 (by omega) (by omega)
                have hws : IntKind.i64.wrap ((j : Int) - (frm : Int)) = (j : Int) - (frm : Int) := wrap_i64 (by omega) (by omega)
                by_cases hjl : j < rc.length
                · have hdr : rc.drop j = rc[j] :: rc.drop (j + 1) := List.drop_eq_getElem_cons hjl
                  have htk : rc.take (j + 1) = rc.take j ++ [rc[j]] := List.take_succ_eq_append_getElem hjl
                  have hcur : (rc.take (j + 1)).drop frm = (rc.take j).drop frm ++ [rc[j]] := by
                    rw [htk, List.drop_append_of_le_length (by simp; omega)]
                  have hcl : ((rc.take j).drop frm).length = j - frm := by simp; omega
                  have hnil : (rc.take (j + 1)).drop (j + 1) = [] := by rw [List.drop_eq_nil_iff]; simp; omega
                  have hrs : rfS (rc.drop j) ((rc.take j).drop frm) out lg = if rc[j] = 10 then rfS (rc.drop (j + 1)) [] (out ++ 9 :: ((rc.take j).drop frm ++ [10])) (lg || decide (400 < ((rc.take j).drop frm).length)) else rfS (rc.drop (j + 1)) ((rc.take j).drop frm ++ [rc[j]]) out lg := by rw [hdr, rfS]
                  rw [hrs]
                  clear hrs
                  by_cases hb : rc[j] = 10
                  · rw [hb] at hcur
                    rw [if_pos hb]
                    generalize hcu : (rc.take j).drop frm = cur at *
                    have q1 : (frm : Int) ≤ (j : Int) + 1 := by omega
                    have q2 : (j : Int) + 1 ≤ (rc.length : Int) := by omega
                    have q3 : ((j : Int) + 1).toNat = j + 1 := by omega
                    have q4 : (0 : Int) ≤ (j : Int) + 1 := by omega
                    have q5 : cur.length + 1 + 1 ≤ lim := by unfold lim; omega
                    have q6 : out.length + (cur.length + 1 + 1) ≤ lim := by unfold lim; omega
                    have q7 : 1 + (cur.length + 1) ≤ lim := by unfold lim; omega
                    have q8 : decide ((400 : Int) < (j : Int) - (frm : Int)) = decide (400 < cur.length) := by
                      rw [hcl]
                      by_cases hz : 400 < j - frm
                      · rw [decide_eq_true hz, decide_eq_true (by omega)]
                      · rw [decide_eq_false hz, decide_eq_false (by omega)]
                    have step := hn (j + 1, j + 1, out ++ 9 :: (cur ++ [10]), lg || decide (400 < cur.length)) 
                    simp only [hnil] at step
                    cases lg with
                    | true =>
                      simp [hjl, hb, hw, hcur, q1, q2, q3, q4, q5, q6, q7, cutK]
                      exact step _ ⟨by omega, by omega, by simp; omega⟩ (by omega) (by simp)
                    | false =>
                      generalize hz : decide (400 < cur.length) = z at *
                      simp [hjl, hb, hw, hws, hcur, q1, q2, q3, q4, q5, q6, q7, q8, cutK]
                      exact step _ ⟨by omega, by omega, by simp; omega⟩ (by omega) (by simp)
                  · rw [if_neg hb, ← hcur]
                    simp [hjl, hb, hw]
                    exact hn (j + 1, frm, out, lg) _ ⟨by omega, by simp; omega, by simp; omega⟩ (by simp; omega) (by simp)
                · have hj2 : j = rc.length := by omega
                  subst hj2
                  rw [List.drop_length, rfS]
                  cases lg <;> simp [he, outR]
            | cons b t3 =>
              simp only [List.length_cons] at *
              have ht3 : (0 : Int) < (t3.length : Int) + 1 := by omega
              have k6 : t1.length + (t3.length + (t2.length + 1 + 1) + 1 + 1) + 1 ≤ lim := by omega
              cases pr with
              | nil =>
                simp only [List.map_nil] at *
                simp [Tryd.f29, ER2, a1, a2, a3, a4, a5, a6, d1, d2, f1, f2, f4, g1, g2, g3, g4, k1, k2, k3, k4, k5, iceMark, ht3, k6]
                rw [← hX]
                refine loop_rule (R := List D) (σ := Nat × Nat × List UInt8 × Bool) (fun x => ⟨slots 91 [(1, .ref (1, 1) 0), (4, .d (.s x.2.2.1)), (6, .d (.v (.bool x.2.2.2))), (7, .d (.v (.int .i64 x.2.1))), (8, .d (.v (.int .i64 x.1)))], [((1, 1), .box [.d (.sl 1 (tg.map .s)), .d (.sl 1 ([])), .d (.v (.int .i64 fl)), .d (.s pg), .d (.s rc), .d (.s fi), .d (.v (.int .i64 ln))])]⟩) (fun x => rc.length - x.1) (fun x => x.1 ≤ rc.length ∧ x.2.1 ≤ x.1 ∧ x.2.2.1.length + (x.1 - x.2.1) ≤ 30001 + 2 * x.1)
                  (fun x => some (outR (rfS (rc.drop x.1) ((rc.take x.1).drop x.2.1) x.2.2.1 x.2.2.2))) (0, 0, hd ++ [10], decide ((400 : Int) < (hd.length : Int))) [1, 4, 6, 7, 8] (by simp [kp29]) (by simp; omega) (by simp; omega) (by simp [hhd]) ?_
                rintro ⟨j, frm, out, lg⟩ κ' ⟨hj, hfj, hol⟩ hn he hr
                simp only at hj hfj hol hn he hr ⊢
                have hw : IntKind.i64.wrap (↑j + 1) = ↑j + 1 := wrap_i64 (by omega) (by omega)
                have hws : IntKind.i64.wrap ((j : Int) - (frm : Int)) = (j : Int) - (frm : Int) := wrap_i64 (by omega) (by omega)
                by_cases hjl : j < rc.length
                · have hdr : rc.drop j = rc[j] :: rc.drop (j + 1) := List.drop_eq_getElem_cons hjl
                  have htk : rc.take (j + 1) = rc.take j ++ [rc[j]] := List.take_succ_eq_append_getElem hjl
                  have hcur : (rc.take (j + 1)).drop frm = (rc.take j).drop frm ++ [rc[j]] := by
                    rw [htk, List.drop_append_of_le_length (by simp; omega)]
                  have hcl : ((rc.take j).drop frm).length = j - frm := by simp; omega
                  have hnil : (rc.take (j + 1)).drop (j + 1) = [] := by rw [List.drop_eq_nil_iff]; simp; omega
                  have hrs : rfS (rc.drop j) ((rc.take j).drop frm) out lg = if rc[j] = 10 then rfS (rc.drop (j + 1)) [] (out ++ 9 :: ((rc.take j).drop frm ++ [10])) (lg || decide (400 < ((rc.take j).drop frm).length)) else rfS (rc.drop (j + 1)) ((rc.take j).drop frm ++ [rc[j]]) out lg := by rw [hdr, rfS]
                  rw [hrs]
                  clear hrs
                  by_cases hb : rc[j] = 10
                  · rw [hb] at hcur
                    rw [if_pos hb]
                    generalize hcu : (rc.take j).drop frm = cur at *
                    have q1 : (frm : Int) ≤ (j : Int) + 1 := by omega
                    have q2 : (j : Int) + 1 ≤ (rc.length : Int) := by omega
                    have q3 : ((j : Int) + 1).toNat = j + 1 := by omega
                    have q4 : (0 : Int) ≤ (j : Int) + 1 := by omega
                    have q5 : cur.length + 1 + 1 ≤ lim := by unfold lim; omega
                    have q6 : out.length + (cur.length + 1 + 1) ≤ lim := by unfold lim; omega
                    have q7 : 1 + (cur.length + 1) ≤ lim := by unfold lim; omega
                    have q8 : decide ((400 : Int) < (j : Int) - (frm : Int)) = decide (400 < cur.length) := by
                      rw [hcl]
                      by_cases hz : 400 < j - frm
                      · rw [decide_eq_true hz, decide_eq_true (by omega)]
                      · rw [decide_eq_false hz, decide_eq_false (by omega)]
                    have step := hn (j + 1, j + 1, out ++ 9 :: (cur ++ [10]), lg || decide (400 < cur.length)) 
                    simp only [hnil] at step
                    cases lg with
                    | true =>
                      simp [hjl, hb, hw, hcur, q1, q2, q3, q4, q5, q6, q7, cutK]
                      exact step _ ⟨by omega, by omega, by simp; omega⟩ (by omega) (by simp)
                    | false =>
                      generalize hz : decide (400 < cur.length) = z at *
                      simp [hjl, hb, hw, hws, hcur, q1, q2, q3, q4, q5, q6, q7, q8, cutK]
                      exact step _ ⟨by omega, by omega, by simp; omega⟩ (by omega) (by simp)
                  · rw [if_neg hb, ← hcur]
                    simp [hjl, hb, hw]
                    exact hn (j + 1, frm, out, lg) _ ⟨by omega, by simp; omega, by simp; omega⟩ (by simp; omega) (by simp)
                · have hj2 : j = rc.length := by omega
                  subst hj2
                  rw [List.drop_length, rfS]
                  cases lg <;> simp [he, outR]
              | cons y pr =>
                simp only [List.map_cons] at *
                have hp : (0 : Int) < (pr.length : Int) + 1 := by omega
                have d2' : ¬ ((40 : Int) < (pr.length : Int) + 1) := by simpa using d2
                simp [Tryd.f29, ER2, a1, a2, a3, a4, a5, a6, d1, d2, f1, f2, f4, g1, g2, g3, g4, k1, k2, k3, k4, k5, iceMark, hp, d2', ht3, k6]
                rw [← hX]
                refine loop_rule (R := List D) (σ := Nat × Nat × List UInt8 × Bool) (fun x => ⟨slots 91 [(1, .ref (1, 1) 0), (4, .d (.s x.2.2.1)), (6, .d (.v (.bool x.2.2.2))), (7, .d (.v (.int .i64 x.2.1))), (8, .d (.v (.int .i64 x.1)))], [((1, 1), .box [.d (.sl 1 (tg.map .s)), .d (.sl 1 ((y :: pr).map .s)), .d (.v (.int .i64 fl)), .d (.s pg), .d (.s rc), .d (.s fi), .d (.v (.int .i64 ln))])]⟩) (fun x => rc.length - x.1) (fun x => x.1 ≤ rc.length ∧ x.2.1 ≤ x.1 ∧ x.2.2.1.length + (x.1 - x.2.1) ≤ 30001 + 2 * x.1)
                  (fun x => some (outR (rfS (rc.drop x.1) ((rc.take x.1).drop x.2.1) x.2.2.1 x.2.2.2))) (0, 0, hd ++ [10], decide ((400 : Int) < (hd.length : Int))) [1, 4, 6, 7, 8] (by simp [kp29]) (by simp; omega) (by simp; omega) (by simp [hhd]) ?_
                rintro ⟨j, frm, out, lg⟩ κ' ⟨hj, hfj, hol⟩ hn he hr
                simp only at hj hfj hol hn he hr ⊢
                have hw : IntKind.i64.wrap (↑j + 1) = ↑j + 1 := wrap_i64 (by omega) (by omega)
                have hws : IntKind.i64.wrap ((j : Int) - (frm : Int)) = (j : Int) - (frm : Int) := wrap_i64 (by omega) (by omega)
                by_cases hjl : j < rc.length
                · have hdr : rc.drop j = rc[j] :: rc.drop (j + 1) := List.drop_eq_getElem_cons hjl
                  have htk : rc.take (j + 1) = rc.take j ++ [rc[j]] := List.take_succ_eq_append_getElem hjl
                  have hcur : (rc.take (j + 1)).drop frm = (rc.take j).drop frm ++ [rc[j]] := by
                    rw [htk, List.drop_append_of_le_length (by simp; omega)]
                  have hcl : ((rc.take j).drop frm).length = j - frm := by simp; omega
                  have hnil : (rc.take (j + 1)).drop (j + 1) = [] := by rw [List.drop_eq_nil_iff]; simp; omega
                  have hrs : rfS (rc.drop j) ((rc.take j).drop frm) out lg = if rc[j] = 10 then rfS (rc.drop (j + 1)) [] (out ++ 9 :: ((rc.take j).drop frm ++ [10])) (lg || decide (400 < ((rc.take j).drop frm).length)) else rfS (rc.drop (j + 1)) ((rc.take j).drop frm ++ [rc[j]]) out lg := by rw [hdr, rfS]
                  rw [hrs]
                  clear hrs
                  by_cases hb : rc[j] = 10
                  · rw [hb] at hcur
                    rw [if_pos hb]
                    generalize hcu : (rc.take j).drop frm = cur at *
                    have q1 : (frm : Int) ≤ (j : Int) + 1 := by omega
                    have q2 : (j : Int) + 1 ≤ (rc.length : Int) := by omega
                    have q3 : ((j : Int) + 1).toNat = j + 1 := by omega
                    have q4 : (0 : Int) ≤ (j : Int) + 1 := by omega
                    have q5 : cur.length + 1 + 1 ≤ lim := by unfold lim; omega
                    have q6 : out.length + (cur.length + 1 + 1) ≤ lim := by unfold lim; omega
                    have q7 : 1 + (cur.length + 1) ≤ lim := by unfold lim; omega
                    have q8 : decide ((400 : Int) < (j : Int) - (frm : Int)) = decide (400 < cur.length) := by
                      rw [hcl]
                      by_cases hz : 400 < j - frm
                      · rw [decide_eq_true hz, decide_eq_true (by omega)]
                      · rw [decide_eq_false hz, decide_eq_false (by omega)]
                    have step := hn (j + 1, j + 1, out ++ 9 :: (cur ++ [10]), lg || decide (400 < cur.length)) 
                    simp only [hnil] at step
                    cases lg with
                    | true =>
                      simp [hjl, hb, hw, hcur, q1, q2, q3, q4, q5, q6, q7, cutK]
                      exact step _ ⟨by omega, by omega, by simp; omega⟩ (by omega) (by simp)
                    | false =>
                      generalize hz : decide (400 < cur.length) = z at *
                      simp [hjl, hb, hw, hws, hcur, q1, q2, q3, q4, q5, q6, q7, q8, cutK]
                      exact step _ ⟨by omega, by omega, by simp; omega⟩ (by omega) (by simp)
                  · rw [if_neg hb, ← hcur]
                    simp [hjl, hb, hw]
                    exact hn (j + 1, frm, out, lg) _ ⟨by omega, by simp; omega, by simp; omega⟩ (by simp; omega) (by simp)
                · have hj2 : j = rc.length := by omega
                  subst hj2
                  rw [List.drop_length, rfS]
                  cases lg <;> simp [he, outR]
end Go.Ab
