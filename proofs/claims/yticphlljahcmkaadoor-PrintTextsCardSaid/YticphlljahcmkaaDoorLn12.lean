/- One text of a proof that a law of this seat says true for every input: the lines of a text. It holds of the given program under the conditions that the row prints. -/
import Derived.Test.YticphlljahcmkaaDoorLn10
import Derived.Test.YticphlljahcmkaaDoorLn11
set_option linter.unusedVariables false
set_option linter.unusedSimpArgs false
set_option maxRecDepth 100000
namespace Go.Ab
open Go.Proofs
variable {glob : Nat → Option (List D)}

theorem ev38 (el eq : D) (l : List UInt8) (hl : l.length < 4294967281) : fnK (mkCtx tab glob) (E7 el eq) kp38 fr38 0 Tryd.f38 [.s l] = some [.v (.int .i64 (phys l).length)] := by
  simp [Tryd.f38, E7, E6, E5, E4, E3, E2, hl]
noncomputable def E8 (el eq : D) : Abs := ext (E7 el eq) 38 fun
  | [.s l] => if l.length < 4294967281 then some [.v (.int .i64 (phys l).length)] else none
  | _ => none
section
variable {m : Int} (h20 : glob 20 = some [.v (.int .i64 m)]) {t6 t2 : TypeId} {x6 x2 : D} (h6 : glob 6 = some [.ifc t6 x6]) (h2 : glob 2 = some [.ifc t2 x2])
include h20 h6 h2
theorem E8_ok : ∀ f, Pure Tryd.prog (mkCtx tab glob) f (E8 (.ifc t2 x2) (.ifc t6 x6) f) := by
  refine ext_ok (E7_ok h20 h6 h2) ?_
  refine pure_of (T_ok glob) (E7_ok h20 h6 h2) Tryd.func38 (by kernel_rfl) (kp := kp38) (fr := fr38) (by kernel_rfl) fun ds rs hF => ?_
  split at hF
  · split at hF
    · rename_i h
      cases hF
      exact ⟨_, ev38 _ _ _ h⟩
    · simp at hF
  · simp at hF
end
set_option maxHeartbeats 8000000 in
/-- LinesWhole says true. -/
theorem ev7 (el eq : D) (text : List UInt8) : fnK (mkCtx tab glob) (E8 el eq) kp7 fr7 5005 Tryd.f7 [.s text] = some [.v (.bool true)] := by
  by_cases h1 : 5000 < text.length
  · have h1' : (5000 : Int) < text.length := by omega
    simp [Tryd.f7, E8, E7, h1, h1']
  have h1' : ¬ (5000 : Int) < text.length := by omega
  have hl : text.length < 4294967281 := by omega
  have hb := phys_bounds text
  have hF := F37_at el eq text (by omega)
  cases hr : (if 4000 < text.length then .inr (0, false) else spm (phys text) [] 0 : List Ln ⊕ (Nat × Bool)) with
  | inr p =>
    obtain ⟨n, q⟩ := p
    simp only [spF, hr] at hF
    simp [Tryd.f7, E8, E7, E6, E5, h1, h1', hF, spD]
  | inl ls =>
    have hw : ls.length ≤ (phys text).length ∧ riseB (phys text).length 0 ls = true ∧ ((∀ b ∈ text, dull b = true) → ls.length = (phys text).length) := by
      split at hr
      · simp at hr
      · obtain ⟨r, e1, e2, e3, e4⟩ := whole_law (phys text) [] 0 ls (Nat.zero_le _) hr
        simp only [List.nil_append] at e1
        subst e1
        exact ⟨by omega, e2, fun h => by have := e4 fun x hx b hb' => phys_dull text h x hx b hb'; omega⟩
    obtain ⟨hw1, hw2, hw3⟩ := hw
    simp only [spF, hr, spD] at hF
    simp [Tryd.f7, E8, E7, E6, E5, h1, h1', hF]
    refine loop_rule (R := List D) (σ := Nat × Nat) (fun p => ⟨slots 76 [(0, .d (.s text)), (3, .d (.sl 3 (ls.map encLn))), (5, .d (.v (.int .i64 p.1))), (24, .d (.sl 3 (ls.map encLn))), (25, .d (.v (.int .i64 ls.length))), (26, .d (.v (.int .i64 p.2)))], []⟩) (fun p => ls.length - p.2)
      (fun p => p.2 ≤ ls.length ∧ riseB (phys text).length p.1 (ls.drop p.2) = true) (fun p => some [.v (.bool true)]) (0, 0) [0, 3, 5, 24, 25, 26] (by simp [kp7]) (by simpa using hw2) (by simp; omega) (by simp) ?_
    rintro ⟨last, j⟩ κ' ⟨hj, hrise⟩ hn he hr
    simp only at hj hrise
    have hwj : IntKind.i64.wrap (↑j + 1) = ↑j + 1 := wrap_i64 (by omega) (by omega)
    by_cases hjl : j < ls.length
    · have hd : ls.drop j = ls[j] :: ls.drop (j + 1) := List.drop_eq_getElem_cons hjl
      rw [hd] at hrise
      simp only [riseB, Bool.and_eq_true, decide_eq_true_eq] at hrise
      have c1 : ¬ ((ls[j].num : Int) ≤ last) := by omega
      have c2 : ¬ (((phys text).length : Int) < ls[j].num) := by omega
      have c3 : ¬ (ls[j].num ≤ last) := by omega
      have c4 : ¬ ((phys text).length < ls[j].num) := by omega
      simp [hjl, hwj, encLn, c1, c2, c3, c4, fr7, hl]
      refine (hn (ls[j].num, j + 1) _ ⟨by simp; omega, hrise.2⟩ (by simp; omega) (by simp [encLn])).trans ?_
      rfl
    · simp [hjl, he]
      refine loop_rule (R := List D) (σ := Nat) (fun i => ⟨slots 76 [(0, .d (.s text)), (3, .d (.sl 3 (ls.map encLn))), (8, .d (.v (.int .i64 i)))], []⟩) (fun i => text.length - i)
        (fun i => i ≤ text.length ∧ ∀ b ∈ text.take i, dull b = true) (fun _ => some [.v (.bool true)]) 0 [0, 3, 8] (by simp [kp7]) (by simp) (by omega) (by simp) ?_
      rintro i κ2 ⟨hi, hdull⟩ hn2 he2 hr2
      have hwi : IntKind.i64.wrap (↑i + 1) = ↑i + 1 := wrap_i64 (by omega) (by omega)
      by_cases hil : i < text.length
      · by_cases b1 : text[i] = 39
        · simp [hil, b1, hr, hr2, hl, hw1]
        · by_cases b2 : text[i] = 92
          · simp [hil, b1, b2, hr, hr2, hl, hw1]
          · by_cases b3 : text[i] = 35
            · simp [hil, b1, b2, b3, hr, hr2, hl, hw1]
            · simp [hil, b1, b2, b3, hwi]
              refine (hn2 (i + 1) _ ⟨hil, fun b hb' => ?_⟩ (by omega) (by simp)).trans rfl
              rw [List.take_succ_eq_append_getElem hil] at hb'
              rcases List.mem_append.1 hb' with hb' | hb'
              · exact hdull b hb'
              · simp at hb'
                subst hb'
                simp [dull, b1, b2, b3]
      · have hii : i = text.length := by omega
        subst hii
        simp only [List.take_length] at hdull
        have := hw3 hdull
        simp [he2, hr, hl, this]
end Go.Ab
