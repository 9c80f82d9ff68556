/- One text of a proof that a law of this seat says true for every input: an evaluator of code over data, and that it tells the truth. It holds of the given program under the conditions that the row prints. -/
import Derived.Test.YtnpbeikcgagacaaGreatDoorAbLibs
set_option linter.unusedSimpArgs false
set_option linter.unusedVariables false
set_option linter.unusedSectionVars false
namespace Go.Ab
open Go.Proofs

variable {glob : Nat → Option (List D)}
/-- strings.CutPrefix -/
def F127 : List D → Option (List D)
  | [.s l, .s p] => some [.s (Lib.trimPrefix l p), .v (.bool (Lib.hasPrefix l p))]
  | _ => none
theorem F127_ok : Pure Tryz.prog (mkCtx tab glob) 160 F127 := by
  refine Pure.mk' Tryz.func160 (by kernel_rfl) (by kernel_rfl) fun ds rs hF N w vs hN hG hv => ?_
  unfold F127 at hF
  split at hF
  · rename_i l p
    cases hF
    obtain ⟨u, v, rfl, hu, hv2⟩ := rd2 hv
    simp only [Rd] at hu hv2
    subst hu hv2
    refine (Tryz.strings_CutPrefix _ _ _).mono ?_
    rintro e w' ⟨rfl, rfl⟩
    refine ⟨[_, _], ?_, rfl, Chg.refl _ _⟩
    simp only [RdL, Rd]
    exact ⟨_, _, rfl, rfl, _, _, rfl, rfl, rfl⟩
  · simp at hF
section
variable {m : Int} (h20 : glob 20 = some [.v (.int .i64 m)])
/-- strings.Cut -/
def F153 : List D → Option (List D)
  | [.s l, .s p] => if l.length < 4294967281 then some [.s (Lib.cut l p).1, .s (Lib.cut l p).2.1, .v (.bool (Lib.cut l p).2.2)] else none
  | _ => none
include h20
theorem g20_at {N : Mut} {w : World} (hG : GlobOk (mkCtx tab glob) N w) : w.cell? ⟨20, 0, none⟩ = some (.int .i64 m) := by
  have hm := hG 20 _ h20
  simp only [RdC, and_true] at hm
  obtain ⟨_, x, hm, _, hx⟩ := hm
  simp only [Rd] at hx
  subst hx
  simpa [add_plain] using hm
end
end Go.Ab
