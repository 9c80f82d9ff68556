/- One text of a proof that a law of this seat says true for every input: printed rules. It holds of the given program under the conditions that the row prints. -/
import Derived.Test.YticphlljahcmkaaDoorPr15
import Derived.Test.YticphlljahcmkaaDoorAbFast
set_option linter.unusedVariables false
set_option linter.unusedSimpArgs false
set_option maxRecDepth 100000
namespace Go.Ab
open Go.Proofs
variable {glob : Nat → Option (List D)} {p : Nat → Addr} {o : Nat → Obj}

theorem num_err (hs : Sents glob p o) : ∀ c, c ≤ 3 → F30 p o [errD p o c] = some [.v (.int .i64 (numC c))]
  | 0, _ => F30_eq hs .none rfl
  | 1, _ => F30_eq hs (.sent 1) rfl
  | 2, _ => F30_eq hs (.sent 2) rfl
  | 3, _ => F30_eq hs (.sent 3) rfl
  | c + 4, h => by omega
theorem errD_cell (p : Nat → Addr) (o : Nat → Obj) : ∀ c, (errD p o c).cell = true
  | 0 => rfl
  | _ + 1 => rfl
set_option maxHeartbeats 16000000 in
/-- PrintTexts says true. -/
theorem ev5 (hs : Sents glob p o) (rs : List Rl) (hb : bigs rs) : fnK (mkCtx tab glob) (EZ p o) kp5 fr5 40 Tryd.f5 [.sl 7 (rs.map Rl.enc)] = some [.v (.bool true)] := by
  have a24 : F24 [.sl 7 (rs.map Rl.enc)] = some [.v (.bool (decide (30 < rs.length) || rs.any longR))] := liftRs_enc rs hb
  have a23 : F23 [] = some [.v (.bool true)] := rfl
  cases hl : (decide (30 < rs.length) || rs.any longR) with
  | true =>
    rw [hl] at a24
    simp [Tryd.f5, EZ, a23, a24]
  | false =>
    rw [hl] at a24
    simp only [Bool.or_eq_false_iff, decide_eq_false_iff_not, Nat.not_lt, List.any_eq_false] at hl
    have hg : goods rs := ⟨fun r hr => good_of r (by simpa using hl.2 r hr), hl.1⟩
    have a27 : F27 [.sl 7 (rs.map Rl.enc)] = some [.sl 7 (rs.map Rl.enc)] := liftRs_enc rs hg
    have a33 : F33 p o [.sl 7 (rs.map Rl.enc)] = some (if 24 < rs.length then [.s [], errD p o 1] else [.s (textS rs []).1, errD p o (textS rs []).2]) := liftRs_enc rs hg
    have a34 : F34 [.sl 7 (rs.map Rl.enc)] = some (if 24 < rs.length then [.s [], .v (.int .i64 10)] else [.s (textS rs []).1, .v (.int .i64 (numC (textS rs []).2))]) := liftRs_enc rs hg
    simp [Tryd.f5, EZ, a23, a24, a27]
    refine loop_rule (R := List D) (σ := Nat) (fun j => ⟨slots 79 [(0, .d (.sl 7 (rs.map Rl.enc))), (3, .d (.sl 7 (rs.map Rl.enc))), (20, .d (.sl 7 (rs.map Rl.enc))), (21, .d (.v (.int .i64 rs.length))), (22, .d (.v (.int .i64 j)))], []⟩) (fun j => rs.length - j) (fun j => j ≤ rs.length) (fun _ => some [.v (.bool true)]) 0 [0, 3, 20, 21, 22] (by simp [kp5]) (by omega) (by have := hg.2; omega) (by simp) ?_
    intro j κ' hjl hn he hr
    have hw : IntKind.i64.wrap (↑j + 1) = ↑j + 1 := wrap_i64 (by omega) (by have := hg.2; omega)
    by_cases hj : j < rs.length
    · have hgr := hg.1 rs[j] (List.getElem_mem hj)
      have b28 : F28 p o [rs[j].enc] = some (if checkS rs[j] = 0 then [.s (ruleS rs[j]), .v .nilIface] else [.s [], errD p o (checkS rs[j])]) := liftR_enc _ hgr
      have b29 : F29 [rs[j].enc] = some (if checkS rs[j] = 0 then [.s (ruleS rs[j]), .v (.int .i64 0)] else [.s [], .v (.int .i64 (numC (checkS rs[j])))]) := liftR_enc _ hgr
      have b31 : F31 [rs[j].enc] = some [.v (.bool (toldS rs[j]))] := liftR_enc _ hgr
      have b32 : F32 [rs[j].enc] = some [.v (.bool (toldS rs[j]))] := liftR_enc _ hgr
      have hck := check_le rs[j]
      have hnum := num_err hs (checkS rs[j]) hck
      have hn0 := num_err hs 0 (by omega)
      generalize hr0 : rs[j] = r at *
      generalize ruleS r = tx at *
      generalize toldS r = tv at *
      generalize checkS r = c at *
      obtain ⟨tg, pr, fl, pg, rc, fi, ln⟩ := r
      simp only [Rl.enc] at b28 b29 b31 b32
      clear a23 a24 a27 a33 a34 hl hb hgr
      have go : ∀ κ2, κ2 = κ' → True := fun _ _ => trivial
      match c, hck with
      | 0, _ =>
        simp only [if_true, errD, numC] at b28 b29 hnum
        simp [hj, hr0, Rl.enc, b28, b29, b31, b32, hnum, hw, fr5]
        exact hn (j + 1) _ (by omega) (by omega) (by simp [Rl.enc])
      | 1, _ =>
        simp only [Nat.one_ne_zero, if_false, errD, numC] at b28 b29 hnum
        simp [hj, hr0, Rl.enc, b28, b29, b31, b32, hnum, hw, fr5]
        exact hn (j + 1) _ (by omega) (by omega) (by simp [Rl.enc])
      | 2, _ =>
        simp only [show ¬ (2 : Nat) = 0 by decide, show ¬ (3 : Nat) = 0 by decide, if_false, errD, numC] at b28 b29 hnum
        simp [hj, hr0, Rl.enc, b28, b29, b31, b32, hnum, hw, fr5]
        exact hn (j + 1) _ (by omega) (by omega) (by simp [Rl.enc])
      | 3, _ =>
        simp only [show ¬ (2 : Nat) = 0 by decide, show ¬ (3 : Nat) = 0 by decide, if_false, errD, numC] at b28 b29 hnum
        simp [hj, hr0, Rl.enc, b28, b29, b31, b32, hnum, hw, fr5]
        exact hn (j + 1) _ (by omega) (by omega) (by simp [Rl.enc])
      | c + 4, h => omega
    · have hj2 : j = rs.length := by omega
      have n1 := num_err hs 1 (by omega)
      have hck := textS_le rs []
      have n2 := num_err hs (textS rs []).2 hck
      generalize (textS rs []).1 = tx at *
      generalize (textS rs []).2 = c at *
      by_cases h24 : 24 < rs.length
      · rw [if_pos h24] at a33 a34
        simp only [errD, numC] at a33 n1
        simp [hj, he, a33, a34, n1]
      · rw [if_neg h24] at a33 a34
        match c, hck with
        | 0, _ =>
          simp only [errD, numC] at a33 a34 n2
          simp [hj, he, a33, a34, n2]
        | 1, _ =>
          simp only [errD, numC] at a33 a34 n2
          simp [hj, he, a33, a34, n2]
        | 2, _ =>
          simp only [errD, numC] at a33 a34 n2
          simp [hj, he, a33, a34, n2]
        | 3, _ =>
          simp only [errD, numC] at a33 a34 n2
          simp [hj, he, a33, a34, n2]
        | c + 4, h => omega
end Go.Ab
