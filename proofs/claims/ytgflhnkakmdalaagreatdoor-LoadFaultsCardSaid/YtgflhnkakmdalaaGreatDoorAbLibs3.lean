/- One text of a proof that a law of this seat says true for every input: an evaluator of code over data, and that it tells the truth. It holds of the given program under the conditions that the row prints. -/
import Derived.Test.YtgflhnkakmdalaaGreatDoorAbLibs
set_option linter.unusedSimpArgs false
set_option linter.unusedVariables false
set_option linter.unusedSectionVars false
namespace Go.Ab
open Go.Proofs

variable {glob : Nat → Option (List D)}
/-- strings.CutPrefix -/
def F127 : List D → Option (List D)
  | [.s l, .s p] => some [.s (Lib.trimPrefix l p), .v (.bool (Lib.hasPrefix l p))]
  | _ => none
theorem F127_ok : Pure Tryz.prog (mkCtx tab glob) 63 F127 := by
  refine Pure.mk' Tryz.func63 (by kernel_rfl) (by kernel_rfl) fun ds rs hF N w vs hN hG hv => ?_
  unfold F127 at hF
  split at hF
  · rename_i l p
    cases hF
    obtain ⟨u, v, rfl, hu, hv2⟩ := rd2 hv
    simp only [Rd] at hu hv2
    subst hu hv2
    refine (Tryz.strings_CutPrefix _ _ _).mono ?_
    rintro e w' ⟨rfl, rfl⟩
    refine ⟨[_, _], ?_, rfl, Chg.refl _ _⟩
    simp only [RdL, Rd]
    exact ⟨_, _, rfl, rfl, _, _, rfl, rfl, rfl⟩
  · simp at hF
section
variable {m : Int} (h20 : glob 22 = some [.v (.int .i64 m)])
/-- strings.ReplaceAll -/
def F135 : List D → Option (List D)
  | [.s l, .s p, .s q] => if l.length < 4294967281 ∧ p ≠ [] ∧ l.length + Lib.countB ⟨l.toArray⟩ ⟨p.toArray⟩ * q.length ≤ 140737488355328 then some [.s (Lib.replaceAll l p q)] else none
  | _ => none
/-- strings.Cut -/
def F153 : List D → Option (List D)
  | [.s l, .s p] => if l.length < 4294967281 then some [.s (Lib.cut l p).1, .s (Lib.cut l p).2.1, .v (.bool (Lib.cut l p).2.2)] else none
  | _ => none
include h20
theorem g20_at {N : Mut} {w : World} (hG : GlobOk (mkCtx tab glob) N w) : w.cell? ⟨22, 0, none⟩ = some (.int .i64 m) := by
  have hm := hG 22 _ h20
  simp only [RdC, and_true] at hm
  obtain ⟨_, x, hm, _, hx⟩ := hm
  simp only [Rd] at hx
  subst hx
  simpa [add_plain] using hm
theorem F135_ok : Pure Tryz.prog (mkCtx tab glob) 126 F135 := by
  refine Pure.mk' Tryz.func126 (by kernel_rfl) (by kernel_rfl) fun ds rs hF N w vs hN hG hv => ?_
  unfold F135 at hF
  split at hF
  · rename_i l p q
    split at hF
    · rename_i hl
      cases hF
      simp only [RdL] at hv
      obtain ⟨u, us, rfl, hu, v, us', rfl, hv2, x, us2, rfl, hx, rfl⟩ := hv
      simp only [Rd] at hu hv2 hx
      subst hu hv2 hx
      refine (Tryz.strings_ReplaceAll ⟨l.toArray⟩ ⟨p.toArray⟩ ⟨q.toArray⟩ m w (by simp [ByteArray.size]; omega) (g20_at h20 hG) (by
        cases p with
        | nil => simp at hl
        | cons _ _ => simp [ByteArray.size]) (by simpa [ByteArray.size] using hl.2.2)).mono ?_
      rintro e w' ⟨rfl, hb⟩
      exact ⟨[_], one_us (by simp only [Rd]), rfl, Chg.below.2 hb⟩
    · simp at hF
  · simp at hF
theorem F153_ok : Pure Tryz.prog (mkCtx tab glob) 94 F153 := by
  refine Pure.mk' Tryz.func94 (by kernel_rfl) (by kernel_rfl) fun ds rs hF N w vs hN hG hv => ?_
  unfold F153 at hF
  split at hF
  · rename_i l p
    split at hF
    · rename_i hl
      cases hF
      obtain ⟨u, v, rfl, hu, hv2⟩ := rd2 hv
      simp only [Rd] at hu hv2
      subst hu hv2
      refine (Tryz.strings_Cut _ _ m _ (by simp [ByteArray.size]; omega) (g20_at h20 hG)).mono ?_
      rintro e w' ⟨rfl, n, rfl⟩
      refine ⟨[_, _, _], ?_, rfl, ?_⟩
      · simp only [RdL, Rd]
        exact ⟨_, _, rfl, rfl, _, _, rfl, rfl, _, _, rfl, rfl, rfl⟩
      · exact ⟨by simp [World.drewN], by simp [World.drewN], by simp [World.drewN], by simp [World.drewN], fun _ _ _ => by simp [World.drewN], fun _ _ _ h _ => by simpa [World.drewN, World.cell?] using h⟩
    · simp at hF
  · simp at hF
end
end Go.Ab
