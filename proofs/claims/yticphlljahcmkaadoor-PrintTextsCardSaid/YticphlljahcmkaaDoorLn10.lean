/- One text of a proof that a law of this seat says true for every input: the lines of a text. It holds of the given program under the conditions that the row prints. -/
import Derived.Test.YticphlljahcmkaaDoorLn9
set_option linter.unusedVariables false
set_option linter.unusedSimpArgs false
set_option maxRecDepth 100000
namespace Go.Ab
open Go.Proofs
variable {glob : Nat → Option (List D)}

noncomputable def E7 (el eq : D) : Abs := ext (E6 el eq) 35 fun
  | [] => some [.v (.bool true)]
  | _ => none
section
variable {m : Int} (h20 : glob 20 = some [.v (.int .i64 m)]) {t6 t2 : TypeId} {x6 x2 : D} (h6 : glob 6 = some [.ifc t6 x6]) (h2 : glob 2 = some [.ifc t2 x2])
include h20 h6 h2
theorem E7_ok : ∀ f, Pure Tryd.prog (mkCtx tab glob) f (E7 (.ifc t2 x2) (.ifc t6 x6) f) := by
  refine ext_ok (E6_ok h20 h6 h2) ?_
  refine pure_of (T_ok glob) (E6_ok h20 h6 h2) Tryd.func35 (by kernel_rfl) (kp := kp35) (fr := fr35) (by kernel_rfl) fun ds rs hF => ?_
  split at hF
  · cases hF
    exact ⟨_, ev35 _ _⟩
  · simp at hF
end
set_option maxHeartbeats 8000000 in
/-- LinesJoin says true. -/
theorem ev6 (el eq : D) (a b : List UInt8) : fnK (mkCtx tab glob) (E7 el eq) kp6 fr6 0 Tryd.f6 [.s a, .s b] = some [.v (.bool true)] := by
  by_cases h1 : 150 < a.length
  · have h1' : (150 : Int) < a.length := by omega
    simp [Tryd.f6, E7, h1, h1']
  by_cases h2 : 150 < b.length
  · have h1' : ¬ (150 : Int) < a.length := by omega
    have h2' : (150 : Int) < b.length := by omega
    simp [Tryd.f6, E7, h1, h1', h2, h2']
  have h1' : ¬ (150 : Int) < a.length := by omega
  have h2' : ¬ (150 : Int) < b.length := by omega
  have ha : a.length < 4294967000 := by omega
  have hb : b.length < 4294967000 := by omega
  cases h3 : (a.all bareB && decide (0 < a.length)) with
  | false => simp [Tryd.f6, E7, E6, h1, h1', h2, h2', ha, h3]
  | true =>
    cases h4 : (b.all bareB && decide (0 < b.length)) with
    | false => simp [Tryd.f6, E7, E6, h1, h1', h2, h2', ha, hb, h3, h4]
    | true =>
      have h3' := h3
      have h4' := h4
      simp only [Bool.and_eq_true, decide_eq_true_eq] at h3' h4'
      obtain ⟨t, e1, e2⟩ := join_law a b h3'.1 h4'.1 h3'.2 h4'.2 (by omega) (by omega)
      have r1 : F37 el eq [.s (a ++ [92, 10] ++ b ++ [10])] = some [.sl 3 [encLn ⟨t, 1, false⟩], .v .nilIface] := by
        rw [F37_at _ _ _ (by simp; omega)]
        have : ¬ 4000 < (a ++ [92, 10] ++ b ++ [10]).length := by simp; omega
        simp only [spF, if_neg this, e1]
        rfl
      have r2 : F37 el eq [.s (a ++ [32] ++ b ++ [10])] = some [.sl 3 [encLn ⟨t, 1, false⟩], .v .nilIface] := by
        rw [F37_at _ _ _ (by simp; omega)]
        have : ¬ 4000 < (a ++ [32] ++ b ++ [10]).length := by simp; omega
        simp only [spF, if_neg this, e2]
        rfl
      have l1 : a.length + 2 ≤ lim := by unfold lim; omega
      have l2 : a.length + 2 + b.length ≤ lim := by unfold lim; omega
      have l3 : a.length + (b.length + 1 + 1) + 1 ≤ lim := by unfold lim; omega
      have l4 : a.length + 1 ≤ lim := by unfold lim; omega
      have l5 : a.length + 1 + b.length ≤ lim := by unfold lim; omega
      have l6 : a.length + (b.length + 1) + 1 ≤ lim := by unfold lim; omega
      have e3 : a ++ [92, 10] ++ b ++ [10] = a ++ 92 :: 10 :: (b ++ [10]) := by simp
      have e4 : a ++ [32] ++ b ++ [10] = a ++ 32 :: (b ++ [10]) := by simp
      rw [e3] at r1
      rw [e4] at r2
      simp (maxSteps := 2000000) [Tryd.f6, E7, E6, E5, h1, h1', h2, h2', ha, hb, h3, h4, r1, r2, l1, l2, l3, l4, l5, l6, encLn, fr6]
end Go.Ab
