/- One text of a proof that a law of this seat says true for every input: the lines of a text. It holds of the given program under the conditions that the row prints. -/
import Derived.Test.YtaiklcijiajkaaaGreatDoorLnQ
import Derived.Test.YtaiklcijiajkaaaGreatDoorLnP
set_option linter.unusedVariables false
set_option linter.unusedSimpArgs false
set_option maxRecDepth 100000
namespace Go.Ab
open Go.Proofs
variable {glob : Nat → Option (List D)}

def FT : List D → Option (List D)
  | [.s s] => if s.length < 4294967281 then some [.s (Lib.trimS s [32, 9])] else none
  | _ => none
def FL : List D → Option (List D)
  | [.s s] => if s.length < 4294967281 then some [.sl 1 ((phys s).map .s)] else none
  | _ => none
theorem FT_at (s : List UInt8) (h : s.length < 4294967281) : FT [.s s] = some [.s (Lib.trimS s [32, 9])] := by simp [FT, h]
theorem FL_at (s : List UInt8) (h : s.length < 4294967281) : FL [.s s] = some [.sl 1 ((phys s).map .s)] := by simp [FL, h]

theorem recp_get (s : List UInt8) (h : 0 < s.length) (hr : ¬ recp s = true) : ¬ s[0] = 32 ∧ ¬ s[0] = 9 := by
  cases s with
  | nil => simp at h
  | cons b r => simpa [recp] using hr
set_option maxHeartbeats 8000000 in
/-- ref12.Split -/
theorem ev39 (E : Abs) (h73 : E 29 = FQ) (h74 : E 30 = FT) (h41 : E 28 = FL) (l : List UInt8) (hl : l.length < 4294966000) :
    fnK (mkCtx tab glob) E kp15 fr15 (l.length + 5) Tryz.f15 [.s l] = some (r12D (if 4000 < l.length then .inr (2, 0) else r12sp (phys l) 0 0 [] [])) := by
  by_cases h4 : 4000 < l.length
  · have h4' : (4000 : Int) < l.length := by omega
    simp [Tryz.f15, h4, h4', r12D]
  have h4' : ¬ (4000 : Int) < l.length := by omega
  have hFL := FL_at l (by omega)
  have hb := phys_bounds l
  simp [Tryz.f15, h4, h4', h41, hFL]
  generalize hxs : phys l = xs at hb
  refine loop_rule (R := List D) (σ := Nat × Nat × List UInt8 × List Ln) (fun p => ⟨slots 136 [(5, .d (.sl 1 (xs.map .s))), (6, .own (1, 20)), (7, .d (.v (.int .i64 p.2.1))), (8, .d (.s p.2.2.1)), (21, .d (.sl 1 (xs.map .s))), (22, .d (.v (.int .i64 xs.length))), (23, .d (.v (.int .i64 p.1)))],
      [((1, 20), .tok 3 (p.2.2.2.map encLn))]⟩) (fun p => xs.length - p.1)
    (fun p => p.1 ≤ xs.length ∧ p.2.2.2.length ≤ p.1 ∧ p.2.1 ≤ p.1 ∧ p.2.2.1.length + ((xs.drop p.1).map List.length).sum < 4294966000) (fun p => some (r12D (r12sp xs p.1 p.2.1 p.2.2.1 p.2.2.2))) (0, 0, [], []) [5, 6, 7, 8, 21, 22, 23] (by simp [kp15]) (by simp; omega) (by simp; omega) (by simp) ?_
  rintro ⟨k, op, held, out⟩ κ' ⟨hk, ho, hop, hsum⟩ hn he hr
  simp only at hk ho hop hsum
  have hw : IntKind.i64.wrap (↑k + 1) = ↑k + 1 := wrap_i64 (by omega) (by omega)
  have hlim : out.length + 1 ≤ lim := by unfold lim; omega
  unfold r12sp
  by_cases hkl : k < xs.length
  · have hd : xs.drop k = xs[k] :: xs.drop (k + 1) := List.drop_eq_getElem_cons hkl
    rw [hd, List.map_cons, List.sum_cons] at hsum
    by_cases hrec : op = 0 ∧ recp xs[k] = true
    · obtain ⟨rfl, hrec⟩ := hrec
      obtain ⟨b, r, hbr, hb9⟩ : ∃ b r, xs[k] = b :: r ∧ (b = 32 ∨ b = 9) := by
        cases hx : xs[k] with
        | nil => rw [hx] at hrec; simp [recp] at hrec
        | cons b r => rw [hx] at hrec; exact ⟨b, r, rfl, by simpa [recp] using hrec⟩
      have c0 : (0 : Int) < (r.length : Int) + 1 := by omega
      have c1 : (1 : Int) ≤ (r.length : Int) + 1 := by omega
      have hw1 : IntKind.i64.wrap (r.length : Int) = r.length := wrap_i64 (by omega) (by rw [hbr] at hsum; simp at hsum; omega)
      rw [dif_pos hkl, if_pos ⟨rfl, hrec⟩]
      by_cases hlong : 400 < r.length
      · have hl1 : (400 : Int) < (r.length : Int) := by omega
        rcases hb9 with rfl | rfl <;> simp [hkl, hbr, hw, c0, c1, hw1, hlong, hl1, hr, r12D]
      · have hl1 : ¬ (400 : Int) < (r.length : Int) := by omega
        have hgo := fun s (hs : s.keep [5, 6, 7, 8, 21, 22, 23] some = _) => hn (k + 1, 0, held, out ++ [⟨r, k + 1, true⟩]) s ⟨by simp; omega, by simp; omega, by simp, by simp only; omega⟩ (by simp; omega) hs
        rcases hb9 with rfl | rfl
        · simp [hkl, hbr, hw, c0, c1, hw1, hlong, hl1, hlim]
          exact hgo _ (by simp [encLn])
        · simp [hkl, hbr, hw, c0, c1, hw1, hlong, hl1, hlim]
          exact hgo _ (by simp [encLn])
    · rw [dif_pos hkl, if_neg hrec]
      generalize hop' : (if op = 0 then k + 1 else op) = op'
      generalize hh0 : (if op = 0 then [] else held) = h0
      have hb1 : ((k : Int) < (xs.length : Int) - 1) = ((k + 1 == xs.length) = false) := by
        rw [beq_eq_false_iff_ne]
        exact propext ⟨fun h => by omega, fun h => by omega⟩
      have hwx : IntKind.i64.wrap ((xs.length : Int) - 1) = (xs.length : Int) - 1 := wrap_i64 (by omega) (by omega)
      have hwl : IntKind.i64.wrap ((xs[k].length : Int) - 1) = (xs[k].length : Int) - 1 := wrap_i64 (by omega) (by omega)
      have hcase : (op = 0 ∧ ¬ 0 < xs[k].length) ∨ (op = 0 ∧ ∃ h : 0 < xs[k].length, ¬ xs[k][0] = 32 ∧ ¬ xs[k][0] = 9) ∨ op ≠ 0 := by
        by_cases h0 : op = 0
        · by_cases hx : 0 < xs[k].length
          · exact .inr (.inl ⟨h0, hx, recp_get _ hx fun h => hrec ⟨h0, h⟩⟩)
          · exact .inl ⟨h0, hx⟩
        · exact .inr (.inr h0)
      have hop1 : op' ≠ 0 ∧ op' ≤ k + 1 := by
        rw [← hop']
        split <;> omega
      have hs2 : h0.length + (xs[k].length + ((xs.drop (k + 1)).map List.length).sum) < 4294966000 := by
        rw [← hh0]
        split
        · simp only [List.length_nil, Nat.zero_add]
          omega
        · exact hsum
      have hopc : op = 0 → (op' : Int) = (k : Int) + 1 := fun h => by rw [← hop', if_pos h]; omega
      have hxl : xs[k].length < 4294966000 := by omega
      have hxk : xs[k].length ≤ l.length := by
        have := sum_drop xs k
        rw [hd, List.map_cons, List.sum_cons] at this
        omega
      rcases hcase with ⟨rfl, hx⟩ | ⟨rfl, hx, hb1', hb2'⟩ | hop0
      · have hopc := hopc rfl
        simp only [if_true] at hh0
        subst hh0
        have hx' : ¬ (0 : Int) < (xs[k].length : Int) := by omega
        simp [hkl, hw, hx, hx']
        refine loop_rule (R := List D) (σ := Nat × List UInt8 × Bool) (fun p => ⟨slots 136 [(5, .d (.sl 1 (xs.map .s))), (6, .own (1, 20)), (7, .d (.v (.int .i64 op'))), (8, .d (.s p.2.1)), (9, .d (.v (.int .i64 k))), (10, .d (.s xs[k])), (11, .d (.v (.bool p.2.2))), (12, .d (.v (.int .i64 p.1))), (21, .d (.sl 1 (xs.map .s))), (22, .d (.v (.int .i64 xs.length))), (23, .d (.v (.int .i64 k)))],
            [((1, 20), .tok 3 (out.map encLn))]⟩) (fun p => xs[k].length + 1 - p.1)
          (fun p => p.1 ≤ xs[k].length + 1 ∧ p.2.1.length + (xs[k].length - p.1) + ((xs.drop (k + 1)).map List.length).sum < 4294966000) (fun p => some (r12D (match r12in xs[k] (k + 1 == xs.length) p.1 p.2.1 p.2.2 with
      | none => .inr (5, k + 1)
      | some (t, true) => r12sp xs (k + 1) op' t out
      | some (t, false) => if 400 < (Lib.trimS t [32, 9]).length then .inr (2, op') else r12sp xs (k + 1) 0 t (out ++ [⟨Lib.trimS t [32, 9], op', false⟩])))) (0, [], false) [5, 6, 7, 8, 9, 10, 11, 12, 21, 22, 23] (by simp [kp15]) (by simp only [List.length_nil] at hs2 ⊢; omega) (by simp only; omega) (by simp [hopc]) ?_
        rintro ⟨i, h, g⟩ κ2 ⟨hi, hh⟩ hn2 he2 hr2
        simp only at hi hh
        have hwi : IntKind.i64.wrap (↑i + 1) = ↑i + 1 := wrap_i64 (by omega) (by omega)
        have hq := qend_gt xs[k] i
        unfold r12in
        by_cases hil : i < xs[k].length
        · by_cases c1 : xs[k][i] = 39
          · have hF := FQ_at xs[k] i (by omega) (by omega)
            by_cases hq0 : qend xs[k] i < 0
            · simp [hil, c1, h73, hF, hq0, hw, hr2, hr, r12D]
            · obtain ⟨q, hqq⟩ : ∃ q : Nat, qend xs[k] i = q := ⟨(qend xs[k] i).toNat, by omega⟩
              rw [hqq] at hq hF hq0
              have hwq : IntKind.i64.wrap ((q : Int) - 1) = (q : Int) - 1 := wrap_i64 (by omega) (by omega)
              have hwq2 : IntKind.i64.wrap (q : Int) = (q : Int) := wrap_i64 (by omega) (by omega)
              have l1 : h.length + (min q xs[k].length - i) ≤ lim := by unfold lim; omega
              have l1' : h.length + (q - i) ≤ lim := by unfold lim; omega
              have q1 : (i : Int) ≤ q := by omega
              have q2 : (q : Int) ≤ xs[k].length := by omega
              have q3 : i ≤ q := by omega
              have q4 : q ≤ xs[k].length := by omega
              simp [hil, c1, h73, hF, hqq, hq0, hwq, l1, l1', q1, q2, q3, q4]
              refine (hn2 (q, h ++ (xs[k].take q).drop i, g) _ ?_ ?_ ?_).trans ?_
              · exact ⟨by simp only; omega, by simp only [List.length_append, List.length_drop, List.length_take]; omega⟩
              · simp only; omega
              · simp [hwq2]
              · simp
          · by_cases c2 : xs[k][i] = 35
            · have hwl1 : IntKind.i64.wrap ((xs[k].length : Int) + 1) = (xs[k].length : Int) + 1 := wrap_i64 (by omega) (by omega)
              simp [hil, c1, c2, hwl1]
              refine (hn2 (xs[k].length + 1, h, g) _ ⟨by simp only; omega, by simp only; omega⟩ (by simp only; omega) (by simp)).trans ?_
              have hz : r12in xs[k] (k + 1 == xs.length) (xs[k].length + 1) h g = some (h, g) := by
                unfold r12in
                rw [dif_neg (by omega)]
              simp only [hz]
            · have l2 : h.length + 1 ≤ lim := by unfold lim; omega
              have i1 : (i : Int) ≤ (i : Int) + 1 := by omega
              have i2 : (i : Int) + 1 ≤ xs[k].length := by omega
              have i3 : ((i : Int) + 1).toNat = i + 1 := by omega
              have i4 : i + 1 ≤ xs[k].length := by omega
              have l3 : h.length + (min (i + 1) xs[k].length - i) ≤ lim := by unfold lim; omega
              have tk : (xs[k].take (i + 1)).drop i = [xs[k][i]] := by
                rw [List.take_succ_eq_append_getElem hil, List.drop_append_of_le_length (by simp; omega)]
                simp
              have hnx := fun s (hs : s.keep [5, 6, 7, 8, 9, 10, 11, 12, 21, 22, 23] some = _) => hn2 (i + 1, h ++ [xs[k][i]], g) s ⟨by simp only; omega, by simp only [List.length_append, List.length_cons, List.length_nil]; omega⟩ (by simp only; omega) hs
              by_cases c3 : xs[k][i] = 92
              · by_cases c4 : i + 1 = xs[k].length
                · have c4' : ((i : Int) == (xs[k].length : Int) - 1) = true := by rw [beq_iff_eq]; omega
                  cases c5 : (k + 1 == xs.length) with
                  | false =>
                    have c5' : (k : Int) < (xs.length : Int) - 1 := by rw [hb1]; exact c5
                    simp [hil, c1, c2, c3, c4', hwl, hwx, c5', hwi, l2]
                    rw [c5] at hn2
                    rw [if_pos c4]
                    exact hn2 (i + 1, h ++ [32], true) _ ⟨by simp only; omega, by simp only [List.length_append, List.length_cons, List.length_nil]; omega⟩ (by simp only; omega) (by simp)
                  | true =>
                    have c5' : ¬ (k : Int) < (xs.length : Int) - 1 := by rw [hb1, c5]; simp
                    rw [c5] at hnx
                    rw [c3] at hnx tk
                    simp [hil, c1, c2, c3, c4', hwl, hwx, c5', hwi, i1, i2, i3, i4, l2, l3, tk]
                    exact hnx _ (by simp)
                · have c4' : ((i : Int) == (xs[k].length : Int) - 1) = false := by rw [beq_eq_false_iff_ne]; omega
                  rw [c3] at hnx tk
                  simp [hil, c1, c2, c3, c4, c4', hwl, hwi, i1, i2, i3, i4, l2, l3, tk]
                  exact hnx _ (by simp)
              · simp [hil, c1, c2, c3, hwi, i1, i2, i3, i4, l2, l3, tk]
                exact hnx _ (by simp)
        · rw [dif_neg hil]
          cases g with
          | true =>
            simp [hil, he2, hw]
            exact hn (k + 1, op', h, out) _ ⟨by simp only; omega, by simp only; omega, by simp only; omega, by simp only; omega⟩ (by simp only; omega) (by simp [hopc])
          | false =>
            have hT := FT_at h (by omega)
            by_cases hlong : 400 < (Lib.trimS h [32, 9]).length
            · have hl1 : (400 : Int) < ((Lib.trimS h [32, 9]).length : Int) := by omega
              simp [hil, he2, h74, hT, hlong, hl1, hr, r12D]
            · have hl1 : ¬ (400 : Int) < ((Lib.trimS h [32, 9]).length : Int) := by omega
              simp [hil, he2, h74, hT, hlong, hl1, hlim, hw]
              refine (hn (k + 1, 0, h, out ++ [⟨Lib.trimS h [32, 9], op', false⟩]) _ ?_ ?_ ?_).trans ?_
              · exact ⟨by simp only; omega, by simp; omega, by simp, by simp only; omega⟩
              · simp only; omega
              · simp [encLn]
              · rfl
      · have hopc := hopc rfl
        simp only [if_true] at hh0
        subst hh0
        have hx' : (0 : Int) < (xs[k].length : Int) := by omega
        simp [hkl, hw, hx, hx', hb1', hb2']
        refine loop_rule (R := List D) (σ := Nat × List UInt8 × Bool) (fun p => ⟨slots 136 [(5, .d (.sl 1 (xs.map .s))), (6, .own (1, 20)), (7, .d (.v (.int .i64 op'))), (8, .d (.s p.2.1)), (9, .d (.v (.int .i64 k))), (10, .d (.s xs[k])), (11, .d (.v (.bool p.2.2))), (12, .d (.v (.int .i64 p.1))), (21, .d (.sl 1 (xs.map .s))), (22, .d (.v (.int .i64 xs.length))), (23, .d (.v (.int .i64 k)))],
            [((1, 20), .tok 3 (out.map encLn))]⟩) (fun p => xs[k].length + 1 - p.1)
          (fun p => p.1 ≤ xs[k].length + 1 ∧ p.2.1.length + (xs[k].length - p.1) + ((xs.drop (k + 1)).map List.length).sum < 4294966000) (fun p => some (r12D (match r12in xs[k] (k + 1 == xs.length) p.1 p.2.1 p.2.2 with
      | none => .inr (5, k + 1)
      | some (t, true) => r12sp xs (k + 1) op' t out
      | some (t, false) => if 400 < (Lib.trimS t [32, 9]).length then .inr (2, op') else r12sp xs (k + 1) 0 t (out ++ [⟨Lib.trimS t [32, 9], op', false⟩])))) (0, [], false) [5, 6, 7, 8, 9, 10, 11, 12, 21, 22, 23] (by simp [kp15]) (by simp only [List.length_nil] at hs2 ⊢; omega) (by simp only; omega) (by simp [hopc]) ?_
        rintro ⟨i, h, g⟩ κ2 ⟨hi, hh⟩ hn2 he2 hr2
        simp only at hi hh
        have hwi : IntKind.i64.wrap (↑i + 1) = ↑i + 1 := wrap_i64 (by omega) (by omega)
        have hq := qend_gt xs[k] i
        unfold r12in
        by_cases hil : i < xs[k].length
        · by_cases c1 : xs[k][i] = 39
          · have hF := FQ_at xs[k] i (by omega) (by omega)
            by_cases hq0 : qend xs[k] i < 0
            · simp [hil, c1, h73, hF, hq0, hw, hr2, hr, r12D]
            · obtain ⟨q, hqq⟩ : ∃ q : Nat, qend xs[k] i = q := ⟨(qend xs[k] i).toNat, by omega⟩
              rw [hqq] at hq hF hq0
              have hwq : IntKind.i64.wrap ((q : Int) - 1) = (q : Int) - 1 := wrap_i64 (by omega) (by omega)
              have hwq2 : IntKind.i64.wrap (q : Int) = (q : Int) := wrap_i64 (by omega) (by omega)
              have l1 : h.length + (min q xs[k].length - i) ≤ lim := by unfold lim; omega
              have l1' : h.length + (q - i) ≤ lim := by unfold lim; omega
              have q1 : (i : Int) ≤ q := by omega
              have q2 : (q : Int) ≤ xs[k].length := by omega
              have q3 : i ≤ q := by omega
              have q4 : q ≤ xs[k].length := by omega
              simp [hil, c1, h73, hF, hqq, hq0, hwq, l1, l1', q1, q2, q3, q4]
              refine (hn2 (q, h ++ (xs[k].take q).drop i, g) _ ?_ ?_ ?_).trans ?_
              · exact ⟨by simp only; omega, by simp only [List.length_append, List.length_drop, List.length_take]; omega⟩
              · simp only; omega
              · simp [hwq2]
              · simp
          · by_cases c2 : xs[k][i] = 35
            · have hwl1 : IntKind.i64.wrap ((xs[k].length : Int) + 1) = (xs[k].length : Int) + 1 := wrap_i64 (by omega) (by omega)
              simp [hil, c1, c2, hwl1]
              refine (hn2 (xs[k].length + 1, h, g) _ ⟨by simp only; omega, by simp only; omega⟩ (by simp only; omega) (by simp)).trans ?_
              have hz : r12in xs[k] (k + 1 == xs.length) (xs[k].length + 1) h g = some (h, g) := by
                unfold r12in
                rw [dif_neg (by omega)]
              simp only [hz]
            · have l2 : h.length + 1 ≤ lim := by unfold lim; omega
              have i1 : (i : Int) ≤ (i : Int) + 1 := by omega
              have i2 : (i : Int) + 1 ≤ xs[k].length := by omega
              have i3 : ((i : Int) + 1).toNat = i + 1 := by omega
              have i4 : i + 1 ≤ xs[k].length := by omega
              have l3 : h.length + (min (i + 1) xs[k].length - i) ≤ lim := by unfold lim; omega
              have tk : (xs[k].take (i + 1)).drop i = [xs[k][i]] := by
                rw [List.take_succ_eq_append_getElem hil, List.drop_append_of_le_length (by simp; omega)]
                simp
              have hnx := fun s (hs : s.keep [5, 6, 7, 8, 9, 10, 11, 12, 21, 22, 23] some = _) => hn2 (i + 1, h ++ [xs[k][i]], g) s ⟨by simp only; omega, by simp only [List.length_append, List.length_cons, List.length_nil]; omega⟩ (by simp only; omega) hs
              by_cases c3 : xs[k][i] = 92
              · by_cases c4 : i + 1 = xs[k].length
                · have c4' : ((i : Int) == (xs[k].length : Int) - 1) = true := by rw [beq_iff_eq]; omega
                  cases c5 : (k + 1 == xs.length) with
                  | false =>
                    have c5' : (k : Int) < (xs.length : Int) - 1 := by rw [hb1]; exact c5
                    simp [hil, c1, c2, c3, c4', hwl, hwx, c5', hwi, l2]
                    rw [c5] at hn2
                    rw [if_pos c4]
                    exact hn2 (i + 1, h ++ [32], true) _ ⟨by simp only; omega, by simp only [List.length_append, List.length_cons, List.length_nil]; omega⟩ (by simp only; omega) (by simp)
                  | true =>
                    have c5' : ¬ (k : Int) < (xs.length : Int) - 1 := by rw [hb1, c5]; simp
                    rw [c5] at hnx
                    rw [c3] at hnx tk
                    simp [hil, c1, c2, c3, c4', hwl, hwx, c5', hwi, i1, i2, i3, i4, l2, l3, tk]
                    exact hnx _ (by simp)
                · have c4' : ((i : Int) == (xs[k].length : Int) - 1) = false := by rw [beq_eq_false_iff_ne]; omega
                  rw [c3] at hnx tk
                  simp [hil, c1, c2, c3, c4, c4', hwl, hwi, i1, i2, i3, i4, l2, l3, tk]
                  exact hnx _ (by simp)
              · simp [hil, c1, c2, c3, hwi, i1, i2, i3, i4, l2, l3, tk]
                exact hnx _ (by simp)
        · rw [dif_neg hil]
          cases g with
          | true =>
            simp [hil, he2, hw]
            exact hn (k + 1, op', h, out) _ ⟨by simp only; omega, by simp only; omega, by simp only; omega, by simp only; omega⟩ (by simp only; omega) (by simp [hopc])
          | false =>
            have hT := FT_at h (by omega)
            by_cases hlong : 400 < (Lib.trimS h [32, 9]).length
            · have hl1 : (400 : Int) < ((Lib.trimS h [32, 9]).length : Int) := by omega
              simp [hil, he2, h74, hT, hlong, hl1, hr, r12D]
            · have hl1 : ¬ (400 : Int) < ((Lib.trimS h [32, 9]).length : Int) := by omega
              simp [hil, he2, h74, hT, hlong, hl1, hlim, hw]
              refine (hn (k + 1, 0, h, out ++ [⟨Lib.trimS h [32, 9], op', false⟩]) _ ?_ ?_ ?_).trans ?_
              · exact ⟨by simp only; omega, by simp; omega, by simp, by simp only; omega⟩
              · simp only; omega
              · simp [encLn]
              · rfl
      · simp only [if_neg hop0] at hh0 hop'
        subst hh0 hop'
        have hop3 : ((op : Int) == 0) = false := by rw [beq_eq_false_iff_ne]; omega
        simp [hkl, hw, hop3]
        refine loop_rule (R := List D) (σ := Nat × List UInt8 × Bool) (fun p => ⟨slots 136 [(5, .d (.sl 1 (xs.map .s))), (6, .own (1, 20)), (7, .d (.v (.int .i64 op))), (8, .d (.s p.2.1)), (9, .d (.v (.int .i64 k))), (10, .d (.s xs[k])), (11, .d (.v (.bool p.2.2))), (12, .d (.v (.int .i64 p.1))), (21, .d (.sl 1 (xs.map .s))), (22, .d (.v (.int .i64 xs.length))), (23, .d (.v (.int .i64 k)))],
            [((1, 20), .tok 3 (out.map encLn))]⟩) (fun p => xs[k].length + 1 - p.1)
          (fun p => p.1 ≤ xs[k].length + 1 ∧ p.2.1.length + (xs[k].length - p.1) + ((xs.drop (k + 1)).map List.length).sum < 4294966000) (fun p => some (r12D (match r12in xs[k] (k + 1 == xs.length) p.1 p.2.1 p.2.2 with
      | none => .inr (5, k + 1)
      | some (t, true) => r12sp xs (k + 1) op t out
      | some (t, false) => if 400 < (Lib.trimS t [32, 9]).length then .inr (2, op) else r12sp xs (k + 1) 0 t (out ++ [⟨Lib.trimS t [32, 9], op, false⟩])))) (0, held, false) [5, 6, 7, 8, 9, 10, 11, 12, 21, 22, 23] (by simp [kp15]) (by simp only [List.length_nil] at hs2 ⊢; omega) (by simp only; omega) (by simp ) ?_
        rintro ⟨i, h, g⟩ κ2 ⟨hi, hh⟩ hn2 he2 hr2
        simp only at hi hh
        have hwi : IntKind.i64.wrap (↑i + 1) = ↑i + 1 := wrap_i64 (by omega) (by omega)
        have hq := qend_gt xs[k] i
        unfold r12in
        by_cases hil : i < xs[k].length
        · by_cases c1 : xs[k][i] = 39
          · have hF := FQ_at xs[k] i (by omega) (by omega)
            by_cases hq0 : qend xs[k] i < 0
            · simp [hil, c1, h73, hF, hq0, hw, hr2, hr, r12D]
            · obtain ⟨q, hqq⟩ : ∃ q : Nat, qend xs[k] i = q := ⟨(qend xs[k] i).toNat, by omega⟩
              rw [hqq] at hq hF hq0
              have hwq : IntKind.i64.wrap ((q : Int) - 1) = (q : Int) - 1 := wrap_i64 (by omega) (by omega)
              have hwq2 : IntKind.i64.wrap (q : Int) = (q : Int) := wrap_i64 (by omega) (by omega)
              have l1 : h.length + (min q xs[k].length - i) ≤ lim := by unfold lim; omega
              have l1' : h.length + (q - i) ≤ lim := by unfold lim; omega
              have q1 : (i : Int) ≤ q := by omega
              have q2 : (q : Int) ≤ xs[k].length := by omega
              have q3 : i ≤ q := by omega
              have q4 : q ≤ xs[k].length := by omega
              simp [hil, c1, h73, hF, hqq, hq0, hwq, l1, l1', q1, q2, q3, q4]
              refine (hn2 (q, h ++ (xs[k].take q).drop i, g) _ ?_ ?_ ?_).trans ?_
              · exact ⟨by simp only; omega, by simp only [List.length_append, List.length_drop, List.length_take]; omega⟩
              · simp only; omega
              · simp [hwq2]
              · simp
          · by_cases c2 : xs[k][i] = 35
            · have hwl1 : IntKind.i64.wrap ((xs[k].length : Int) + 1) = (xs[k].length : Int) + 1 := wrap_i64 (by omega) (by omega)
              simp [hil, c1, c2, hwl1]
              refine (hn2 (xs[k].length + 1, h, g) _ ⟨by simp only; omega, by simp only; omega⟩ (by simp only; omega) (by simp)).trans ?_
              have hz : r12in xs[k] (k + 1 == xs.length) (xs[k].length + 1) h g = some (h, g) := by
                unfold r12in
                rw [dif_neg (by omega)]
              simp only [hz]
            · have l2 : h.length + 1 ≤ lim := by unfold lim; omega
              have i1 : (i : Int) ≤ (i : Int) + 1 := by omega
              have i2 : (i : Int) + 1 ≤ xs[k].length := by omega
              have i3 : ((i : Int) + 1).toNat = i + 1 := by omega
              have i4 : i + 1 ≤ xs[k].length := by omega
              have l3 : h.length + (min (i + 1) xs[k].length - i) ≤ lim := by unfold lim; omega
              have tk : (xs[k].take (i + 1)).drop i = [xs[k][i]] := by
                rw [List.take_succ_eq_append_getElem hil, List.drop_append_of_le_length (by simp; omega)]
                simp
              have hnx := fun s (hs : s.keep [5, 6, 7, 8, 9, 10, 11, 12, 21, 22, 23] some = _) => hn2 (i + 1, h ++ [xs[k][i]], g) s ⟨by simp only; omega, by simp only [List.length_append, List.length_cons, List.length_nil]; omega⟩ (by simp only; omega) hs
              by_cases c3 : xs[k][i] = 92
              · by_cases c4 : i + 1 = xs[k].length
                · have c4' : ((i : Int) == (xs[k].length : Int) - 1) = true := by rw [beq_iff_eq]; omega
                  cases c5 : (k + 1 == xs.length) with
                  | false =>
                    have c5' : (k : Int) < (xs.length : Int) - 1 := by rw [hb1]; exact c5
                    simp [hil, c1, c2, c3, c4', hwl, hwx, c5', hwi, l2]
                    rw [c5] at hn2
                    rw [if_pos c4]
                    exact hn2 (i + 1, h ++ [32], true) _ ⟨by simp only; omega, by simp only [List.length_append, List.length_cons, List.length_nil]; omega⟩ (by simp only; omega) (by simp)
                  | true =>
                    have c5' : ¬ (k : Int) < (xs.length : Int) - 1 := by rw [hb1, c5]; simp
                    rw [c5] at hnx
                    rw [c3] at hnx tk
                    simp [hil, c1, c2, c3, c4', hwl, hwx, c5', hwi, i1, i2, i3, i4, l2, l3, tk]
                    exact hnx _ (by simp)
                · have c4' : ((i : Int) == (xs[k].length : Int) - 1) = false := by rw [beq_eq_false_iff_ne]; omega
                  rw [c3] at hnx tk
                  simp [hil, c1, c2, c3, c4, c4', hwl, hwi, i1, i2, i3, i4, l2, l3, tk]
                  exact hnx _ (by simp)
              · simp [hil, c1, c2, c3, hwi, i1, i2, i3, i4, l2, l3, tk]
                exact hnx _ (by simp)
        · rw [dif_neg hil]
          cases g with
          | true =>
            simp [hil, he2, hw]
            exact hn (k + 1, op, h, out) _ ⟨by simp only; omega, by simp only; omega, by simp only; omega, by simp only; omega⟩ (by simp only; omega) (by simp )
          | false =>
            have hT := FT_at h (by omega)
            by_cases hlong : 400 < (Lib.trimS h [32, 9]).length
            · have hl1 : (400 : Int) < ((Lib.trimS h [32, 9]).length : Int) := by omega
              simp [hil, he2, h74, hT, hlong, hl1, hr, r12D]
            · have hl1 : ¬ (400 : Int) < ((Lib.trimS h [32, 9]).length : Int) := by omega
              simp [hil, he2, h74, hT, hlong, hl1, hlim, hw]
              refine (hn (k + 1, 0, h, out ++ [⟨Lib.trimS h [32, 9], op, false⟩]) _ ?_ ?_ ?_).trans ?_
              · exact ⟨by simp only; omega, by simp; omega, by simp, by simp only; omega⟩
              · simp only; omega
              · simp [encLn]
              · rfl
  · simp [hkl, he, r12D]
end Go.Ab
