/- One text of a proof that a law of this seat says true for every input: the lines of a text. It holds of the given program under the conditions that the row prints. -/
import Derived.Test.YticphlljahcmkaaDoorLn4
set_option linter.unusedVariables false
set_option linter.unusedSimpArgs false
set_option maxRecDepth 100000
namespace Go.Ab
open Go.Proofs
variable {glob : Nat → Option (List D)}

set_option maxHeartbeats 8000000 in
theorem ev37 {t6 t2 : TypeId} {x6 x2 : D} (h6 : glob 6 = some [.ifc t6 x6]) (h2 : glob 2 = some [.ifc t2 x2]) (l : List UInt8) (hn : (phys l).length < 4294967000) (hs : ((phys l).map List.length).sum < 4294967000) :
    fnK (mkCtx tab glob) (E4 (.ifc t6 x6)) kp37 fr37 ((phys l).length + 2) Tryd.f37 [.s l] = some (spD (.ifc t2 x2) (.ifc t6 x6) (if 4000 < l.length then .inr (0, false) else spm (phys l) [] 0)) := by
  by_cases hl : 4000 < l.length
  · have hl' : (4000 : Int) < l.length := by omega
    simp [Tryd.f37, hl, hl', h2, fr37, spD]
  · have hl' : ¬ (4000 : Int) < l.length := by omega
    have hl2 : l.length < 4294967281 := by omega
    simp [Tryd.f37, hl, hl', E4, E3, E2, hl2]
    generalize hxs : phys l = xs at hn hs
    refine loop_rule (R := List D) (σ := Nat × List Ln) (fun p => ⟨slots 65 [(4, .d (.sl 1 (xs.map .s))), (5, .own (1, 5)), (6, .d (.v (.int .i64 p.1)))], [((1, 5), .tok 3 (p.2.map encLn))]⟩) (fun p => xs.length - p.1)
      (fun p => p.2.length ≤ p.1 ∧ p.1 ≤ xs.length) (fun p => some (spD (.ifc t2 x2) (.ifc t6 x6) (spm xs p.2 p.1))) (0, []) [4, 5, 6] (by simp [kp37]) (by simp) (by simp) (by simp) ?_
    rintro ⟨i, acc⟩ κ' ⟨ha, hi⟩ hk he hr
    simp only at ha hi
    have hw : IntKind.i64.wrap (↑i + 1) = ↑i + 1 := wrap_i64 (by omega) (by omega)
    by_cases hil : i < xs.length
    · have hlim : acc.length + 1 ≤ lim := by unfold lim; omega
      by_cases hrec : recp xs[i] = true
      · have h1 : 1 ≤ xs[i].length := by
          cases hx : xs[i] with
          | nil => rw [hx] at hrec; simp [recp] at hrec
          | cons b r => simp
        have h1' : (1 : Int) ≤ xs[i].length := by omega
        by_cases hlong : 400 < xs[i].length - 1
        · have e : spm xs acc i = .inr (i + 1, false) := by
            conv => lhs; unfold spm
            rw [dif_pos hil, if_pos hrec, if_pos hlong]
          have hlong' : (400 : Int) < ((xs[i].length - 1 : Nat) : Int) := by omega
          simp [hil, hw, hrec, h1', hlong, hlong', h2, fr37, he, hr, e, spD, E4, E3, E2]
        · have e : spm xs acc i = spm xs (acc ++ [⟨xs[i].drop 1, i + 1, true⟩]) (i + 1) := by
            conv => lhs; unfold spm
            rw [dif_pos hil, if_pos hrec, if_neg hlong]
          have hlong' : ¬ (400 : Int) < ((xs[i].length - 1 : Nat) : Int) := by omega
          simp [hil, hw, hrec, h1', hlong, hlong', he, hr, e, E4, E3, E2, hlim]
          refine (hk (i + 1, acc ++ [⟨xs[i].drop 1, i + 1, true⟩]) _ ⟨by simp; omega, hil⟩ (by simp; omega) (by simp [encLn])).trans ?_
          simp
      · have hF := F72_eq (.ifc t6 x6) xs i hil hn hs
        cases hm : lgm xs [] i with
        | inr n =>
          have e : spm xs acc i = .inr (n, true) := by
            conv => lhs; unfold spm
            rw [dif_pos hil, if_neg hrec]
            split
            · rename_i n' h'
              rw [hm] at h'
              cases h'
              rfl
            · rename_i t' n' h'
              rw [hm] at h'
              cases h'
          rw [hm] at hF
          simp [hil, hw, hrec, he, hr, e, spD, E4, E3, E2, hF, lgD]
        | inl tn =>
          obtain ⟨t, n⟩ := tn
          have hnx := lgm_next xs [] i t n hm
          rw [hm] at hF
          have e0 : spm xs acc i = if 400 < (Lib.trimS t [32, 9]).length then .inr (i + 1, false) else spm xs (acc ++ [⟨Lib.trimS t [32, 9], i + 1, false⟩]) n := by
            conv => lhs; unfold spm
            rw [dif_pos hil, if_neg hrec]
            split
            · rename_i n' h'
              rw [hm] at h'
              cases h'
            · rename_i t' n' h'
              rw [hm] at h'
              cases h'
              rfl
          by_cases hlong : 400 < (Lib.trimS t [32, 9]).length
          · have e : spm xs acc i = .inr (i + 1, false) := by rw [e0, if_pos hlong]
            have hlong' : (400 : Int) < ((Lib.trimS t [32, 9]).length : Int) := by omega
            simp [hil, hw, hrec, hlong, hlong', h2, fr37, he, hr, e, spD, E4, E3, E2, hF, lgD]
          · have e : spm xs acc i = spm xs (acc ++ [⟨Lib.trimS t [32, 9], i + 1, false⟩]) n := by rw [e0, if_neg hlong]
            have hlong' : ¬ (400 : Int) < ((Lib.trimS t [32, 9]).length : Int) := by omega
            simp [hil, hw, hrec, hlong, hlong', he, hr, e, E4, E3, E2, hF, lgD, hlim]
            refine (hk (n, acc ++ [⟨Lib.trimS t [32, 9], i + 1, false⟩]) _ ⟨by simp; omega, hnx.2⟩ (by simp; omega) (by simp [encLn])).trans ?_
            rfl
    · have e : spm xs acc i = .inl acc := by
        conv => lhs; unfold spm
        rw [dif_neg hil]
      simp [hil, he, hr, e, spD]

/-- lines.Split -/
def spF (el eq : D) (l : List UInt8) : List D := spD el eq (if 4000 < l.length then .inr (0, false) else spm (phys l) [] 0)
noncomputable def F37 (el eq : D) : List D → Option (List D) := fun ds => match ds with
  | [.s l] => if (phys l).length < 4294967000 ∧ ((phys l).map List.length).sum < 4294967000 then some (spF el eq l) else none
  | _ => none
noncomputable def E5 (el eq : D) : Abs := ext (E4 eq) 37 (F37 el eq)
theorem E5_ok {m : Int} (h20 : glob 20 = some [.v (.int .i64 m)]) {t6 t2 : TypeId} {x6 x2 : D} (h6 : glob 6 = some [.ifc t6 x6]) (h2 : glob 2 = some [.ifc t2 x2]) : ∀ f, Pure Tryd.prog (mkCtx tab glob) f (E5 (.ifc t2 x2) (.ifc t6 x6) f) := by
  refine ext_ok (E4_ok h20 h6) ?_
  refine pure_of (T_ok glob) (E4_ok h20 h6) Tryd.func37 (by kernel_rfl) (kp := kp37) (fr := fr37) (by kernel_rfl) fun ds rs hF => ?_
  unfold F37 at hF
  split at hF
  · split at hF
    · rename_i h
      cases hF
      exact ⟨_, ev37 h6 h2 _ h.1 h.2⟩
    · simp at hF
  · simp at hF
end Go.Ab
