/- One text of a proof that a law of this seat says true for every input: the lines of a text. It holds of the given program under the conditions that the row prints. -/
import Derived.Test.YtgflhnkakmdalaaGreatDoorAbSimp
set_option linter.unusedSimpArgs false
set_option linter.unusedVariables false
set_option linter.unusedSectionVars false
set_option maxRecDepth 100000
namespace Go.Ab
open Go.Proofs
variable {glob : Nat → Option (List D)}

def EL : Abs := ext (ext (ext (ext (fun _ _ => none) 60 F93) 59 F86) 58 F85) 62 F98
theorem EL_ok {m : Int} (h20 : glob 22 = some [.v (.int .i64 m)]) : ∀ f, Pure Tryz.prog (mkCtx tab glob) f (EL f) :=
  ext_ok (ext_ok (ext_ok (ext_ok none_ok F93_ok) F86_ok) (F85_ok h20)) F98_ok

/-- lines.recipe -/
def recp : List UInt8 → Bool
  | [] => false
  | b :: _ => decide (b = 32 ∨ b = 9)
theorem ev71 (l : List UInt8) : fnK (mkCtx tab glob) EL kp44 fr44 0 Tryz.f44 [.s l] = some [.v (.bool (recp l))] := by
  cases l with
  | nil => simp [Tryz.f44, EL, recp]
  | cons b l =>
    simp [Tryz.f44, EL, F93, recp, Lib.indexByte]
    by_cases h1 : (32 : UInt8) = b
    · subst h1; rfl
    · by_cases h2 : (9 : UInt8) = b
      · subst h2; rfl
      · simp [h1, h2, Ne.symm h1, Ne.symm h2, eq_comm]
/-- lines.physical -/
def phys (l : List UInt8) : List (List UInt8) := if l = [] then [] else Lib.split (Lib.trimSuffix l [10]) [10]
theorem trimSuffix_le (l p : List UInt8) : (Lib.trimSuffix l p).length ≤ l.length := by
  unfold Lib.trimSuffix
  split
  · simp
  · exact Nat.le_refl _
theorem ev70 (l : List UInt8) (hl : l.length < 4294967281) : fnK (mkCtx tab glob) EL kp43 fr43 0 Tryz.f43 [.s l] = some [.sl 1 ((phys l).map .s)] := by
  by_cases h : l = []
  · simp [Tryz.f43, EL, phys, h]
  · have h' : l.isEmpty = false := by simpa using h
    have h2 := Nat.lt_of_le_of_lt (trimSuffix_le l [10]) hl
    simp [Tryz.f43, EL, F86, F85, phys, h, h', hl, h2]

/-- quote.End behind its first quote -/
def qloop (s : List UInt8) (i : Nat) : Int :=
  if h : i < s.length then
    if s[i] ≠ 39 then qloop s (i + 1)
    else if s[i + 1]? = some 39 then qloop s (i + 2) else i + 1
  else -1
termination_by s.length - i
def qend (s : List UInt8) (i : Nat) : Int := if s[i]? = some 39 then qloop s (i + 1) else -1
theorem get_lt {α : Type} {s : List α} {i : Nat} {b : α} (h : s[i]? = some b) : i < s.length := (List.getElem?_eq_some_iff.1 h).1
set_option maxHeartbeats 2000000 in
theorem ev75 (s : List UInt8) (i : Nat) (hl : s.length < 4294967281) (hi : i < 4294967281) : fnK (mkCtx tab glob) EL kp80 fr80 (s.length + 2) Tryz.f80 [.s s, .v (.int .i64 i)] = some [.v (.int .i64 (qend s i))] := by
  cases hs : s[i]? with
  | none =>
    have h1 : s.length ≤ i := by simpa using hs
    have h2 : ¬ i < s.length := by omega
    have h0 : ¬ ((i : Int) < 0) := by omega
    simp [Tryz.f80, EL, h1, h2, h0, qend, hs]
  | some b =>
    obtain ⟨h1, hs'⟩ := List.getElem?_eq_some_iff.1 hs
    have h2 : ¬ s.length ≤ i := by omega
    have h0 : ¬ ((i : Int) < 0) := by omega
    by_cases hb : b = 39
    · subst hb
      have hw : IntKind.i64.wrap (↑i + 1) = ↑i + 1 := wrap_i64 (by omega) (by omega)
      simp [Tryz.f80, EL, h1, h2, h0, hs', qend, hw]
      refine loop_rule (R := List D) (σ := Nat) (fun j => ⟨slots 50 [(0, .d (.s s)), (5, .d (.v (.int .i64 j)))], []⟩) (fun j => s.length - j) (fun j => j ≤ s.length + 1) (fun j => some [.v (.int .i64 (qloop s j))]) (i + 1) [0, 5] (by simp [kp80]) (by omega) (by omega) (by simp) ?_
      intro j κ' hj hn he hr
      have hw : IntKind.i64.wrap (↑j + 1) = ↑j + 1 := wrap_i64 (by omega) (by omega)
      by_cases hjl : j < s.length
      · by_cases hc : s[j] = 39
        · by_cases hd : j + 1 < s.length
          · have hd' : (j : Int) + 1 < (s.length : Int) := by omega
            have hd0 : (0 : Int) ≤ (j : Int) + 1 := by omega
            have hd1 : ((j : Int) + 1).toNat = j + 1 := by omega
            by_cases hf : s[j + 1] = 39
            · simp [hjl, hc, hw, hd, hd', hd0, hd1, hf]
              have hw2 : IntKind.i64.wrap (↑j + 1 + 1) = ↑(j + 2) := (wrap_i64 (by omega) (by omega)).trans (by omega)
              refine (hn (j + 2) _ (by omega) (by omega) ?_).trans ?_
              · simp only [hw2]
                simp
              · conv => rhs; unfold qloop
                simp [hjl, hc, hd, hf]
            · simp [hjl, hc, hw, hd, hd', hd0, hd1, hf, he, hr]
              conv => rhs; unfold qloop
              simp [hjl, hc, hd, hf]
          · have hd' : ¬ (j : Int) + 1 < (s.length : Int) := by omega
            have hd2 : s[j + 1]? = none := by simp; omega
            simp [hjl, hc, hw, hd', he, hr]
            conv => rhs; unfold qloop
            simp [hjl, hc, hd2]
        · simp [hjl, hc, hw]
          refine (hn (j + 1) _ (by omega) (by omega) (by simp)).trans ?_
          conv => rhs; unfold qloop
          simp [hjl, hc]
      · simp [hjl, he, hr]
        unfold qloop
        simp [hjl]
    · simp [Tryz.f80, EL, h1, h2, h0, hs', hb, qend]
end Go.Ab
