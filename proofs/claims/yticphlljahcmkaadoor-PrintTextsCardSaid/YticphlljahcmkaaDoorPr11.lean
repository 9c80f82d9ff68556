/- One text of a proof that a law of this seat says true for every input: printed rules. It holds of the given program under the conditions that the row prints. -/
import Derived.Test.YticphlljahcmkaaDoorPr10
set_option linter.unusedVariables false
set_option linter.unusedSimpArgs false
set_option maxRecDepth 100000
namespace Go.Ab
open Go.Proofs
variable {glob : Nat → Option (List D)} {p : Nat → Addr} {o : Nat → Obj}

def ER1 : Abs := ext EX1 68 F66
theorem ER1_ok : ∀ f, Pure Tryd.prog (mkCtx tab glob) f (ER1 f) := by
  refine ext_ok EX1_ok ?_
  refine pure_of (T_ok glob) none_ok Tryd.func68 (by kernel_rfl) (kp := kp68) (fr := fr68) (by kernel_rfl) fun ds rs hF => ?_
  unfold F66 at hF
  split at hF
  · split at hF
    · rename_i h
      cases hF
      exact ⟨_, ev68 _ _ h⟩
    · simp at hF
  · simp at hF
def q10 (l : List UInt8) : Bool := Lib.contains l [10]
theorem suffix_snoc (l : List UInt8) (b : UInt8) : Lib.hasSuffix (l ++ [b]) [10] = decide (b = 10) := by
  unfold Lib.hasSuffix List.isSuffixOf
  simp [List.isPrefixOf, Bool.beq_eq_decide_eq, eq_comm]
set_option maxHeartbeats 8000000 in
/-- ref40.Told behind its loops -/
theorem told_eq (r : Rl) : toldS r = (!(([r.tg, r.pr].drop 0).any fun l => l.any q10) && (decide (0 < r.tg.length) && (r.rc.isEmpty || Lib.hasSuffix r.rc [10]) && rightA r.fl r.pg && (r.pg.isEmpty || plainS r.pg))) := by
  have h1 : (r.tg.any fun l => Lib.contains l [10]) = r.tg.any q10 := rfl
  have h2 : (r.pr.any fun l => Lib.contains l [10]) = r.pr.any q10 := rfl
  simp only [toldS, h1, h2, List.drop_zero, List.any_cons, List.any_nil, Bool.or_false]
  generalize r.tg.any q10 = a
  generalize r.pr.any q10 = b
  generalize decide (0 < r.tg.length) = c
  generalize (r.rc.isEmpty || Lib.hasSuffix r.rc [10]) = d
  generalize rightA r.fl r.pg = e
  generalize (r.pg.isEmpty || plainS r.pg) = f
  revert a b c d e f
  decide
set_option maxHeartbeats 16000000 in
theorem ev32 (r : Rl) (h : r.good) : fnK (mkCtx tab glob) ER1 kp32 fr32 60 Tryd.f32 [r.enc] = some [.v (.bool (toldS r))] := by
  obtain ⟨h1, h2, h3, h4, h5, h6⟩ := h
  rw [told_eq]
  obtain ⟨tg, pr, fl, pg, rc, fi, ln⟩ := r
  simp only at *
  generalize hR : (decide (0 < tg.length) && (rc.isEmpty || Lib.hasSuffix rc [10]) && rightA fl pg && (pg.isEmpty || plainS pg)) = R
  generalize hA : (([tg, pr].drop 0).any fun l => l.any q10) = A
  simp [Tryd.f32, ER1, EX1, Rl.enc, iceMark]
  refine ⟨by decide, ?_⟩
  rw [← hA]
  refine loop_rule (R := List D) (σ := Nat) (fun j => ⟨slots 75 [(1, .ref (1, 1) 0), (11, .tight 1 [.sl 1 (tg.map .s), .sl 1 (pr.map .s)]), (12, .d (.v (.int .i64 2))), (13, .d (.v (.int .i64 j)))], [((1, 1), .box [.d (.sl 1 (tg.map .s)), .d (.sl 1 (pr.map .s)), .d (.v (.int .i64 fl)), .d (.s pg), .d (.s rc), .d (.s fi), .d (.v (.int .i64 ln))])]⟩) (fun j => 2 - j) (fun j => j ≤ 2) (fun j => some [.v (.bool (!(([tg, pr].drop j).any fun l => l.any q10) && R))]) 0 [1, 11, 12, 13] (by simp [kp32]) (by omega) (by omega) (by simp) ?_
  clear hA
  intro j κ' hjl hn he hr
  have hw : IntKind.i64.wrap (↑j + 1) = ↑j + 1 := wrap_i64 (by omega) (by omega)
  by_cases hj : j < 2
  · have hj' : (j : Int) < 2 := by omega
    obtain ⟨l, hl1, hl2, hl3⟩ : ∃ l : List (List UInt8), ([.sl 1 (tg.map .s), .sl 1 (pr.map .s)] : List D)[j]? = some (.sl 1 (l.map .s)) ∧ [tg, pr].drop j = l :: [tg, pr].drop (j + 1) ∧ (l.length ≤ 50 ∧ shortL 141 l = true) := by
      match j, hj with
      | 0, _ => exact ⟨tg, rfl, rfl, h1, h2⟩
      | 1, _ => exact ⟨pr, rfl, rfl, h3, h4⟩
    have hlx : ([.sl 1 (tg.map .s), .sl 1 (pr.map .s)] : List D)[j]'(by simpa using hj) = .sl 1 (l.map .s) := by
      have := List.getElem?_eq_getElem (l := ([.sl 1 (tg.map .s), .sl 1 (pr.map .s)] : List D)) (i := j) (by simpa using hj)
      rw [hl1] at this
      exact (Option.some.inj this).symm
    rw [hl2, List.any_cons]
    generalize hN : (([tg, pr].drop (j + 1)).any fun l => l.any q10) = N
    generalize hQ : l.any q10 = Q
    simp [hj, hj', hl1, hlx]
    rw [← hQ]
    refine loop_rule (R := List D) (σ := Nat) (fun k => ⟨slots 75 [(1, .ref (1, 1) 0), (11, .tight 1 [.sl 1 (tg.map .s), .sl 1 (pr.map .s)]), (12, .d (.v (.int .i64 2))), (13, .d (.v (.int .i64 j))), (17, .d (.sl 1 (l.map .s))), (18, .d (.v (.int .i64 l.length))), (19, .d (.v (.int .i64 k)))], [((1, 1), .box [.d (.sl 1 (tg.map .s)), .d (.sl 1 (pr.map .s)), .d (.v (.int .i64 fl)), .d (.s pg), .d (.s rc), .d (.s fi), .d (.v (.int .i64 ln))])]⟩) (fun k => l.length - k) (fun k => k ≤ l.length) (fun k => some [.v (.bool (!(l.drop k).any q10 && !N && R))]) 0 [1, 11, 12, 13, 17, 18, 19] (by simp [kp32]) (by omega) (by omega) (by simp) ?_
    intro k κ2 hk hn2 he2 hr2
    have hw2 : IntKind.i64.wrap (↑k + 1) = ↑k + 1 := wrap_i64 (by omega) (by omega)
    by_cases hkl : k < l.length
    · have hd2 : l.drop k = l[k] :: l.drop (k + 1) := List.drop_eq_getElem_cons hkl
      have hsh := short_at hl3.2 (s := l[k]) (List.getElem_mem hkl)
      have hF : F66 [.s l[k]] = some [.v (.bool (q10 l[k]))] := by simp only [F66]; rw [if_pos (by omega)]; rfl
      rw [hd2, List.any_cons]
      generalize hP2 : (l.drop (k + 1)).any q10 = P2
      cases hb : q10 l[k] with
      | true =>
        rw [hb] at hF
        simp [hkl, hF, hr2, hr]
      | false =>
        rw [hb] at hF
        simp [hkl, hF, hw2]
        refine (hn2 (k + 1) _ (by omega) (by omega) (by simp)).trans ?_
        rw [hP2]
    · have hd2 : l.drop k = [] := by rw [List.drop_eq_nil_iff]; omega
      rw [hd2]
      simp [hkl, he2, hw]
      refine (hn (j + 1) _ (by omega) (by omega) (by simp)).trans ?_
      rw [hN]
  · have hj2 : j = 2 := by omega
    subst hj2
    have hpl : F69 [.s pg] = some [.v (.bool (plainS pg))] := by simp only [F69, F63]; rw [if_pos (by omega)]
    have hd0 : ([tg, pr].drop 2).any (fun l => l.any q10) = false := rfl
    rw [hd0, ← hR]
    clear hR
    cases tg with
    | nil => simp [he]
    | cons x tg =>
      have hx0 : ((tg.length : Int) + 1 == 0) = false := by rw [beq_eq_false_iff_ne]; omega
      have hfin : ∀ b : Bool, rightA fl pg = b → (b = true → 0 ≤ fl ∧ fl ≤ 255 ∧ pg.length ≤ 120) := by
        rintro b rfl hb
        simp only [rightA, Bool.and_eq_true, decide_eq_true_eq] at hb
        exact ⟨hb.1.1, hb.1.2, hb.2⟩
      have hra : rightA fl pg = (decide (0 ≤ fl) && decide (fl ≤ 255) && decide (pg.length ≤ 120)) := rfl
      rw [hra]
      by_cases f1 : fl < 0
      · have f1' : ¬ 0 ≤ fl := by omega
        rcases List.eq_nil_or_concat rc with rfl | ⟨l, b, rfl⟩
        · simp [he, hx0, f1, f1']
        · have hl1 : (0 : Int) < (l.length : Int) + 1 := by omega
          have hw3 : IntKind.i64.wrap (l.length : Int) = l.length := wrap_i64 (by omega) (by simp at h5; omega)
          by_cases hb : b = 10
          · simp [he, hx0, f1, f1', hl1, hw3, suffix_snoc, hb]
          · simp [he, hx0, f1, f1', hl1, hw3, suffix_snoc, hb]
      · have f1' : 0 ≤ fl := by omega
        by_cases f2 : 255 < fl
        · have f2' : ¬ fl ≤ 255 := by omega
          rcases List.eq_nil_or_concat rc with rfl | ⟨l, b, rfl⟩
          · simp [he, hx0, f1, f1', f2, f2']
          · have hl1 : (0 : Int) < (l.length : Int) + 1 := by omega
            have hw3 : IntKind.i64.wrap (l.length : Int) = l.length := wrap_i64 (by omega) (by simp at h5; omega)
            by_cases hb : b = 10
            · simp [he, hx0, f1, f1', f2, f2', hl1, hw3, suffix_snoc, hb]
            · simp [he, hx0, f1, f1', f2, f2', hl1, hw3, suffix_snoc, hb]
        · have f2' : fl ≤ 255 := by omega
          by_cases f3 : 120 < pg.length
          · have f3' : ¬ pg.length ≤ 120 := by omega
            have f3i : (120 : Int) < pg.length := by omega
            rcases List.eq_nil_or_concat rc with rfl | ⟨l, b, rfl⟩
            · simp [he, hx0, f1, f1', f2, f2', f3, f3', f3i]
            · have hl1 : (0 : Int) < (l.length : Int) + 1 := by omega
              have hw3 : IntKind.i64.wrap (l.length : Int) = l.length := wrap_i64 (by omega) (by simp at h5; omega)
              by_cases hb : b = 10
              · simp [he, hx0, f1, f1', f2, f2', f3, f3', f3i, hl1, hw3, suffix_snoc, hb]
              · simp [he, hx0, f1, f1', f2, f2', f3, f3', f3i, hl1, hw3, suffix_snoc, hb]
          · have f3' : pg.length ≤ 120 := by omega
            have f3i : ¬ (120 : Int) < pg.length := by omega
            cases pg with
            | nil =>
              rcases List.eq_nil_or_concat rc with rfl | ⟨l, b, rfl⟩
              · simp [he, hx0, f1, f1', f2, f2']
              · have hl1 : (0 : Int) < (l.length : Int) + 1 := by omega
                have hw3 : IntKind.i64.wrap (l.length : Int) = l.length := wrap_i64 (by omega) (by simp at h5; omega)
                by_cases hb : b = 10
                · simp [he, hx0, f1, f1', f2, f2', hl1, hw3, suffix_snoc, hb]
                · simp [he, hx0, f1, f1', f2, f2', hl1, hw3, suffix_snoc, hb]
            | cons y pg =>
              have hy0 : ((pg.length : Int) + 1 == 0) = false := by rw [beq_eq_false_iff_ne]; omega
              simp only [List.length_cons] at f3 f3'
              have f3k : ¬ (120 : Int) < (pg.length : Int) + 1 := by omega
              generalize plainS (y :: pg) = pv at *
              rcases List.eq_nil_or_concat rc with rfl | ⟨l, b, rfl⟩
              · simp [he, hx0, hy0, f1, f1', f2, f2', f3, f3', f3k, hpl]
              · have hl1 : (0 : Int) < (l.length : Int) + 1 := by omega
                have hw3 : IntKind.i64.wrap (l.length : Int) = l.length := wrap_i64 (by omega) (by simp at h5; omega)
                by_cases hb : b = 10
                · simp [he, hx0, hy0, f1, f1', f2, f2', f3, f3', f3k, hl1, hw3, suffix_snoc, hb, hpl]
                · simp [he, hx0, hy0, f1, f1', f2, f2', f3, f3', f3k, hl1, hw3, suffix_snoc, hb, hpl]
end Go.Ab
