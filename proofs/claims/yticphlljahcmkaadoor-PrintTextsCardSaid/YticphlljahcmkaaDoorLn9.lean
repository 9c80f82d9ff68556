/- One text of a proof that a law of this seat says true for every input: the lines of a text. It holds of the given program under the conditions that the row prints. -/
import Derived.Test.YticphlljahcmkaaDoorLnB
set_option linter.unusedVariables false
set_option linter.unusedSimpArgs false
set_option maxRecDepth 100000
namespace Go.Ab
open Go.Proofs
variable {glob : Nat → Option (List D)}

theorem phys_bounds (l : List UInt8) : (phys l).length ≤ l.length + 1 ∧ ((phys l).map List.length).sum ≤ l.length := by
  unfold phys
  split
  · simp
  · rw [split_sp10 _ _ (Nat.le_refl _)]
    have h1 := sp10_len (Lib.trimSuffix l [10])
    have h2 := trimSuffix_le l [10]
    have h3 : 0 < (sp10 (Lib.trimSuffix l [10])).length := List.length_pos_iff.2 (sp10_ne _)
    omega
theorem F37_at (el eq : D) (l : List UInt8) (h : l.length < 4294966000) : F37 el eq [.s l] = some (spF el eq l) := by
  have := phys_bounds l
  simp only [F37]
  rw [if_pos (by omega)]
/-- The chapter's example. -/
theorem alive_law : spm (phys [97, 58, 32, 98, 32, 35, 32, 99, 10, 9, 120, 10]) [] 0 = .inl [⟨[97, 58, 32, 98], 1, false⟩, ⟨[120], 2, true⟩] := by
  have e : phys [97, 58, 32, 98, 32, 35, 32, 99, 10, 9, 120, 10] = [[97, 58, 32, 98, 32, 35, 32, 99], [9, 120]] := by
    rw [show ([97, 58, 32, 98, 32, 35, 32, 99, 10, 9, 120, 10] : List UInt8) = [97, 58, 32, 98, 32, 35, 32, 99, 10, 9, 120] ++ [10] from rfl, phys_lf]
    decide
  rw [e]
  have c : ∀ i, i ≤ 5 → cutm [97, 58, 32, 98, 32, 35, 32, 99] false i = ([97, 58, 32, 98, 32], false, true) := by
    have c5 : cutm [97, 58, 32, 98, 32, 35, 32, 99] false 5 = ([97, 58, 32, 98, 32], false, true) := by unfold cutm; simp
    have c4 : cutm [97, 58, 32, 98, 32, 35, 32, 99] false 4 = ([97, 58, 32, 98, 32], false, true) := by unfold cutm; simpa using c5
    have c3 : cutm [97, 58, 32, 98, 32, 35, 32, 99] false 3 = ([97, 58, 32, 98, 32], false, true) := by unfold cutm; simpa using c4
    have c2 : cutm [97, 58, 32, 98, 32, 35, 32, 99] false 2 = ([97, 58, 32, 98, 32], false, true) := by unfold cutm; simpa using c3
    have c1 : cutm [97, 58, 32, 98, 32, 35, 32, 99] false 1 = ([97, 58, 32, 98, 32], false, true) := by unfold cutm; simpa using c2
    have c0 : cutm [97, 58, 32, 98, 32, 35, 32, 99] false 0 = ([97, 58, 32, 98, 32], false, true) := by unfold cutm; simpa using c1
    intro i hi
    match i with
    | 0 => exact c0
    | 1 => exact c1
    | 2 => exact c2
    | 3 => exact c3
    | 4 => exact c4
    | 5 => exact c5
  have hl : lgm [[97, 58, 32, 98, 32, 35, 32, 99], [9, 120]] [] 0 = .inl ([97, 58, 32, 98, 32], 1) := by
    unfold lgm
    simp [c 0 (by omega)]
  have ht : Lib.trimS [97, 58, 32, 98, 32] [32, 9] = [97, 58, 32, 98] := by decide
  unfold spm
  rw [dif_pos (by simp), if_neg (by simp [recp])]
  split
  · rename_i n' h'
    rw [hl] at h'
    cases h'
  · rename_i t' n' h'
    rw [hl] at h'
    cases h'
    rw [ht, if_neg (by simp)]
    unfold spm
    rw [dif_pos (by simp), if_pos (by simp [recp]), if_neg (by simp)]
    unfold spm
    rw [dif_neg (by simp)]
    rfl
noncomputable def E6 (el eq : D) : Abs := ext (E5 el eq) 36 fun
  | [.s s] => if s.length < 4294967000 then some [.v (.bool (s.all bareB && decide (0 < s.length)))] else none
  | _ => none
section
variable {m : Int} (h20 : glob 20 = some [.v (.int .i64 m)]) {t6 t2 : TypeId} {x6 x2 : D} (h6 : glob 6 = some [.ifc t6 x6]) (h2 : glob 2 = some [.ifc t2 x2])
include h20 h6 h2
theorem E6_ok : ∀ f, Pure Tryd.prog (mkCtx tab glob) f (E6 (.ifc t2 x2) (.ifc t6 x6) f) := by
  refine ext_ok (E5_ok h20 h6 h2) ?_
  refine pure_of (T_ok glob) (E5_ok h20 h6 h2) Tryd.func36 (by kernel_rfl) (kp := kp36) (fr := fr36) (by kernel_rfl) fun ds rs hF => ?_
  split at hF
  · split at hF
    · rename_i h
      cases hF
      exact ⟨_, ev36 _ _ h⟩
    · simp at hF
  · simp at hF
end
set_option maxHeartbeats 4000000 in
theorem ev35 (el eq : D) : fnK (mkCtx tab glob) (E6 el eq) kp35 fr35 0 Tryd.f35 [] = some [.v (.bool true)] := by
  have hF : F37 el eq [.s [97, 58, 32, 98, 32, 35, 32, 99, 10, 9, 120, 10]] = some [.sl 3 [.st [.s [97, 58, 32, 98], .v (.int .i64 1), .v (.bool false)], .st [.s [120], .v (.int .i64 2), .v (.bool true)]], .v .nilIface] := by
    rw [F37_at _ _ _ (by simp)]
    simp only [spF, alive_law]
    rfl
  simp [Tryd.f35, E6, E5, hF, fr35]
end Go.Ab
