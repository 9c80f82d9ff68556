/- One text of a proof that a law of this seat says true for every input: words, pieces and statements as the document reads them. It holds of the given program under the conditions that the row prints. -/
import Derived.Test.YtaiklcijiajkaaaGreatDoorRx7
import Derived.Test.YtaiklcijiajkaaaGreatDoorLx16
set_option linter.unusedVariables false
set_option linter.unusedSimpArgs false
set_option maxRecDepth 100000
namespace Go.Ab
open Go.Proofs
variable {glob : Nat → Option (List D)}

def FROneS : List D → Option (List D)
  | [.s s] => if s.length < 4294967281 ∧ s ≠ [] then some (roD (rOneS s)) else none
  | _ => none
theorem FROneS_at (s : List UInt8) (h : s.length < 4294967281) (h2 : s ≠ []) : FROneS [.s s] = some (roD (rOneS s)) := by
  simp only [FROneS]
  rw [if_pos ⟨h, h2⟩]
def RQ7 : Abs := ext RQ6 22 FROneS
theorem RQ7_ok : ∀ f, Pure Tryz.prog (mkCtx tab glob) f (RQ7 f) := by
  refine ext_ok RQ6_ok ?_
  refine pure_of (T_ok glob) RQ6_ok Tryz.func22 (by kernel_rfl) (kp := kp22) (fr := fr22) (by kernel_rfl) fun ds rs hF => ?_
  unfold FROneS at hF
  split at hF
  · split at hF
    · rename_i h
      cases hF
      exact ⟨_, evROneS _ h.1 h.2⟩
    · simp at hF
  · simp at hF
def rpD : List Sm ⊕ (Nat × Int) → List D
  | .inl out => [.sl 10 (out.map encS), .v (.int .i64 0), .v (.int .i64 0)]
  | .inr (e, n) => [.sl 10 [], .v (.int .i64 e), .v (.int .i64 n)]
theorem rOneS_fresh (t : List UInt8) (s : Sm) (h : rOneS t = .inl s) : s.recipe = [] ∧ s.line = 0 := pOneS_fresh t s (by rw [oneS_law]; exact h)
theorem rOneS_err (t : List UInt8) (e : Nat) (h : rOneS t = .inr e) : e ≠ 0 := pOneS_err t e (by rw [oneS_law]; exact h)
set_option maxHeartbeats 16000000 in
/-- ref19.Parse -/
theorem evRParse (ls : List Li) (hlen : ls.length ≤ 4294967000) (hsum : bulk ls ≤ 4294967000) :
    fnK (mkCtx tab glob) RQ7 kp10 fr10 (ls.length + 2) Tryz.f10 [.sl 3 (ls.map encLi)] = some (rpD (rParse ls [])) := by
  have hET : RQ7 21 = FRTrim := rfl
  have hEO : RQ7 22 = FROneS := rfl
  have hL : ∀ i (h : i < ls.length), (ls.map encLi)[i]? = some (encLi ls[i]) := fun i h => by simp [h]
  have hLl : (ls.map encLi).length = ls.length := by simp
  generalize ls.map encLi = L at *
  simp [Tryz.f10]
  refine loop_rule (R := List D) (σ := Nat × List Sm) (fun x => ⟨slots 83 [(0, .d (.sl 3 L)), (5, .own (1, 10)), (6, .d (.v (.int .i64 x.1)))], [((1, 10), .tok 10 (x.2.map encS))]⟩)
    (fun x => ls.length - x.1) (fun x => x.1 ≤ ls.length ∧ x.2.length ≤ x.1) (fun x => some (rpD (rParse (ls.drop x.1) x.2))) (0, []) [0, 5, 6] (by simp [kp10]) ⟨by simp, by simp⟩ (by simp) (by simp) ?_
  rintro ⟨i, out⟩ κ' ⟨hi, ho⟩ hn he hr
  simp only at hi ho
  have hw : IntKind.i64.wrap ((i : Int) + 1) = (i : Int) + 1 := wrap_i64 (by omega) (by omega)
  have hlim : out.length + 1 ≤ lim := by unfold lim; omega
  by_cases hil : i < ls.length
  · have hil' : (i : Int) < ls.length := by omega
    have hg := hL i hil
    have hd : ls.drop i = ls[i] :: ls.drop (i + 1) := List.drop_eq_getElem_cons hil
    have hbk : bulk (ls.drop i) = ls[i].text.length + 1 + bulk (ls.drop (i + 1)) := by rw [hd]; simp only [bulk, List.map_cons, List.sum_cons]
    have hbi : bulk (ls.drop i) ≤ 4294967000 := by
      have : bulk ls = bulk (ls.take i) + bulk (ls.drop i) := by
        conv => lhs; rw [← List.take_append_drop i ls]
        simp only [bulk, List.map_append, List.sum_append]
      omega
    rw [hd]
    rw [hbk] at hbi
    generalize ls[i] = l at *
    obtain ⟨tx, nm, cl⟩ := l
    simp only [encLi] at hg hbi
    have hT := FRTrim_at tx (by omega)
    have hg6 := (List.getElem?_eq_some_iff.1 hg).2
    unfold rParse
    simp only
    cases cl with
    | true =>
      simp only [if_true]
      generalize trimG tx = t at *
      cases t with
      | nil =>
        simp only [ne_eq, not_true_eq_false, if_false]
        simp [hLl, fr10, hil, hil', hg, hg6, hET, hT, hw]
        exact hn (i + 1, out) _ ⟨by simp only; omega, by simp only; omega⟩ (by simp only; omega) (by simp)
      | cons b t =>
        have f1 : (0 : Int) < (t.length : Int) + 1 := by omega
        simp only [ne_eq, reduceCtorEq, not_false_eq_true, if_true]
        simp [hLl, fr10, hil, hil', hg, hg6, hET, hT, f1, hr, rpD]
    | false =>
      simp only [Bool.false_eq_true, if_false]
      cases tx with
      | nil =>
        simp only [if_true]
        simp [hLl, fr10, hil, hil', hg, hg6, hw]
        exact hn (i + 1, out) _ ⟨by simp only; omega, by simp only; omega⟩ (by simp only; omega) (by simp)
      | cons b tx =>
        have hO := FROneS_at (b :: tx) (by omega) (by simp)
        have hz : ((tx.length : Int) + 1 == 0) = false := by rw [beq_eq_false_iff_ne]; omega
        simp only [reduceCtorEq, if_false]
        cases hx : rOneS (b :: tx) with
        | inr e =>
          have he0 := rOneS_err _ _ hx
          have he2 : ((e : Int) != 0) = true := by rw [bne_iff_ne]; omega
          rw [hx] at hO
          simp only [roD, encS, smC, Sm.z] at hO
          simp [hLl, fr10, hil, hil', hg, hg6, hz, hEO, hO, he2, hr, rpD]
        | inl s =>
          obtain ⟨hr0, hl0⟩ := rOneS_fresh _ _ hx
          rw [hx] at hO
          simp only [roD, encS, smC] at hO
          have hk2 : ((s.kind : Int) == 2) = decide (s.kind = 2) := by
            rw [Bool.eq_iff_iff]
            simp
            omega
          simp only
          obtain ⟨RR, hRR⟩ : ∃ RR, (if s.kind = 2 then rParse (recs (ls.drop (i + 1))).2 (out ++ [{ s with line := nm, recipe := s.recipe ++ (recs (ls.drop (i + 1))).1 }]) else rParse (ls.drop (i + 1)) (out ++ [{ s with line := nm }])) = RR := ⟨_, rfl⟩
          refine (?_ : _ = some (rpD RR)).trans (congrArg (fun x => some (rpD x)) hRR.symm)
          simp [hLl, fr10, hil, hil', hg, hg6, hz, hEO, hO]
          refine loop_rule (R := List D) (σ := Nat × List UInt8) (fun x => ⟨slots 83 [(0, .d (.sl 3 L)), (5, .own (1, 10)), (6, .d (.v (.int .i64 x.1))), (8, .ref (1, 8) 0)], [((1, 8), .box [.d (.v (.int .i64 s.kind)), .d (.v (.int .i64 nm)), .d (.s s.name), .d (.sl 1 (s.heads.map encW)), .d (.sl 1 (s.words.map encW)), .d (.v (.int .i64 s.flags)), .d (.s s.prog), .d (.s (s.recipe ++ x.2)), .d (.v (.bool s.hidden)), .d (.v (.bool s.command))]), ((1, 10), .tok 10 (out.map encS))]⟩)
            (fun x => ls.length - x.1) (fun x => i ≤ x.1 ∧ x.1 < ls.length ∧ x.2.length + bulk (ls.drop (x.1 + 1)) ≤ 4294967000 ∧ (s.kind ≠ 2 → x = (i, [])) ∧ (recs (ls.drop (i + 1))).1 = x.2 ++ (recs (ls.drop (x.1 + 1))).1 ∧ (recs (ls.drop (i + 1))).2 = (recs (ls.drop (x.1 + 1))).2) (fun _ => some (rpD RR)) (i, []) [0, 5, 6, 8] (by simp [kp10]) ⟨Nat.le_refl _, hil, by simp only [List.length_nil]; omega, fun _ => rfl, rfl, rfl⟩ (by simp only; omega) (by simp) ?_
          rintro ⟨j, rec⟩ κ2 ⟨hij, hj, hrb, hk, hr1, hr2⟩ hn2 he2 hr2'
          simp only at hij hj hrb hk hr1 hr2
          have hwj : IntKind.i64.wrap ((j : Int) + 1) = (j : Int) + 1 := wrap_i64 (by omega) (by omega)
          have hwl : IntKind.i64.wrap ((ls.length : Int) - 1) = (ls.length : Int) - 1 := wrap_i64 (by omega) (by omega)
          by_cases hkk : s.kind = 2
          · rw [if_pos hkk] at hRR
            rw [decide_eq_true hkk] at hk2
            rw [hr1, hr2] at hRR
            by_cases hjl : j + 1 < ls.length
            · have hjl' : (j : Int) < (ls.length : Int) - 1 := by omega
              have hjl2 : (j : Int) + 1 < ls.length := by omega
              have hg2 := hL (j + 1) hjl
              have hd2 : ls.drop (j + 1) = ls[j + 1] :: ls.drop (j + 1 + 1) := List.drop_eq_getElem_cons hjl
              have hbk2 : bulk (ls.drop (j + 1)) = ls[j + 1].text.length + 1 + bulk (ls.drop (j + 1 + 1)) := by rw [hd2]; simp only [bulk, List.map_cons, List.sum_cons]
              have k1 : (0 : Int) ≤ (j : Int) + 1 := by omega
              have k2 : ((j : Int) + 1).toNat = j + 1 := by omega
              rw [hbk2] at hrb
              rw [hd2] at hRR hr1 hr2
              generalize ls[j + 1] = l2 at *
              obtain ⟨tx2, nm2, cl2⟩ := l2
              simp only [encLi] at hg2 hrb
              have hg26 := (List.getElem?_eq_some_iff.1 hg2).2
              have l1 : tx2.length + 1 ≤ lim := by unfold lim; omega
              have l2 : s.recipe.length + rec.length + (tx2.length + 1) ≤ lim := by rw [hr0]; simp only [List.length_nil]; unfold lim; omega
              cases cl2 with
              | true =>
                simp [hLl, fr10, hk2, hwl, hjl, hjl', hjl2, hwj, k1, k2, hg2, hg26, l1, l2]
                refine hn2 (j + 1, rec ++ tx2 ++ [10]) _ ⟨by simp only; omega, by simp only; omega, ?_, fun h => absurd hkk h, ?_, ?_⟩ (by simp only; omega) (by simp)
                · simp only [List.length_append, List.length_cons, List.length_nil]
                  omega
                · simp only
                  rw [hr1]
                  conv => lhs; unfold recs
                  simp
                · simp only
                  rw [hr2]
                  conv => lhs; unfold recs
                  simp
              | false =>
                have hrc : recs (⟨tx2, nm2, false⟩ :: ls.drop (j + 1 + 1)) = ([], ⟨tx2, nm2, false⟩ :: ls.drop (j + 1 + 1)) := by simp [recs]
                rw [hrc] at hRR
                simp only [List.append_nil] at hRR
                rw [← hRR, ← hd2]
                simp [hLl, fr10, hk2, hwl, hjl, hjl', hjl2, hwj, k1, k2, hg2, hg26, he2, hlim]
                refine hn (j + 1, out ++ [{ s with line := nm, recipe := s.recipe ++ rec }]) _ ⟨?_, ?_⟩ ?_ ?_
                · simp only; omega
                · simp only [List.length_append, List.length_cons, List.length_nil]; omega
                · simp only; omega
                · simp [encS, smC]
            · have hjl' : ¬ (j : Int) < (ls.length : Int) - 1 := by omega
              have hd2 : ls.drop (j + 1) = [] := List.drop_eq_nil_of_le (by omega)
              have hrc : recs [] = ([], []) := rfl
              rw [hd2, hrc] at hRR
              simp only [List.append_nil] at hRR
              rw [← hRR, ← hd2]
              simp [hLl, fr10, hk2, hwl, hjl', hwj, he2, hlim]
              refine hn (j + 1, out ++ [{ s with line := nm, recipe := s.recipe ++ rec }]) _ ⟨?_, ?_⟩ ?_ ?_
              · simp only; omega
              · simp only [List.length_append, List.length_cons, List.length_nil]; omega
              · simp only; omega
              · simp [encS, smC]
          · rw [if_neg hkk] at hRR
            rw [decide_eq_false hkk] at hk2
            have hjr := hk hkk
            injection hjr with hj1 hj2
            subst hj1 hj2
            rw [← hRR]
            simp [hLl, fr10, hk2, hwl, hwj, he2, hlim]
            refine hn (j + 1, out ++ [{ s with line := nm }]) _ ⟨?_, ?_⟩ ?_ ?_
            · simp only; omega
            · simp only [List.length_append, List.length_cons, List.length_nil]; omega
            · simp only; omega
            · simp [encS, smC]
  · have hil' : ¬ (i : Int) < ls.length := by omega
    obtain rfl : i = ls.length := by omega
    simp [hLl, he, rParse, rpD]
end Go.Ab
