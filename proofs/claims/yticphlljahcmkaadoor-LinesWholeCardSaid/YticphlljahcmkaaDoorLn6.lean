/- One text of a proof that a law of this seat says true for every input: the lines of a text. It holds of the given program under the conditions that the row prints. -/
import Derived.Test.YticphlljahcmkaaDoorLn5
set_option linter.unusedVariables false
set_option linter.unusedSimpArgs false
set_option maxRecDepth 100000
namespace Go.Ab
open Go.Proofs
variable {glob : Nat → Option (List D)}

def bareB (b : UInt8) : Bool := decide (¬ b.toNat < 33 ∧ ¬ 126 < b.toNat ∧ b ≠ 39 ∧ b ≠ 92 ∧ b ≠ 35)
set_option maxHeartbeats 8000000 in
theorem ev36 (E : Abs) (s : List UInt8) (hl : s.length < 4294967000) : fnK (mkCtx tab glob) E kp36 fr36 (s.length + 2) Tryd.f36 [.s s] = some [.v (.bool (s.all bareB && decide (0 < s.length)))] := by
  simp [Tryd.f36]
  refine (loop_rule (R := List D) (σ := Nat) (fun j => ⟨slots 41 [(0, .d (.s s)), (3, .d (.v (.int .i64 j)))], []⟩) (fun j => s.length - j) (fun j => j ≤ s.length) (fun j => some [.v (.bool ((s.drop j).all bareB && decide (0 < s.length)))]) 0 [0, 3] (by simp [kp36]) (by omega) (by omega) (by simp) ?_).trans (by simp)
  intro j κ' hj hn he hr
  have hw : IntKind.i64.wrap (↑j + 1) = ↑j + 1 := wrap_i64 (by omega) (by omega)
  by_cases hjl : j < s.length
  · have hd : s.drop j = s[j] :: s.drop (j + 1) := List.drop_eq_getElem_cons hjl
    have hall : (s.drop j).all bareB = (bareB s[j] && (s.drop (j + 1)).all bareB) := by rw [hd, List.all_cons]
    have fin : bareB s[j] = false → some [D.v (.bool false)] = some [D.v (.bool ((s.drop j).all bareB && decide (0 < s.length)))] := by
      intro h
      rw [hall, h]
      rfl
    by_cases h1 : s[j].toNat < 33
    · have h1' : ((s[j].toNat : Nat) : Int) < 33 := by omega
      simp [hjl, h1, h1', he, hr]
      simpa using fin (by simp [bareB, h1])
    · have h1' : ¬ ((s[j].toNat : Nat) : Int) < 33 := by omega
      by_cases h2 : 126 < s[j].toNat
      · have h2' : (126 : Int) < ((s[j].toNat : Nat) : Int) := by omega
        simp [hjl, h1, h1', h2, h2', he, hr]
        simpa using fin (by simp [bareB, h2])
      · have h2' : ¬ (126 : Int) < ((s[j].toNat : Nat) : Int) := by omega
        by_cases h3 : s[j] = 39
        · simp [hjl, h1, h1', h2, h2', h3, he, hr]
          simpa using fin (by simp [bareB, h3])
        · by_cases h4 : s[j] = 92
          · simp [hjl, h1, h1', h2, h2', h3, h4, he, hr]
            simpa using fin (by simp [bareB, h4])
          · by_cases h5 : s[j] = 35
            · simp [hjl, h1, h1', h2, h2', h3, h4, h5, he, hr]
              simpa using fin (by simp [bareB, h5])
            · simp [hjl, h1, h1', h2, h2', h3, h4, h5, he, hr, hw]
              refine (hn (j + 1) _ (by omega) (by omega) (by simp)).trans ?_
              have : bareB s[j] = true := by simp [bareB, h1, h2, h3, h4, h5]
              rw [hall, this, Bool.true_and]
  · have hj' : j = s.length := by omega
    subst hj'
    simp [he, hr]
end Go.Ab
