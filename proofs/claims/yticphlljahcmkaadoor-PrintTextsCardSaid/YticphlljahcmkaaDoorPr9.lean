/- One text of a proof that a law of this seat says true for every input: printed rules. It holds of the given program under the conditions that the row prints. -/
import Derived.Test.YticphlljahcmkaaDoorPrB
set_option linter.unusedVariables false
set_option linter.unusedSimpArgs false
set_option maxRecDepth 100000
namespace Go.Ab
open Go.Proofs
variable {glob : Nat → Option (List D)} {p : Nat → Addr} {o : Nat → Obj}

theorem contains_one (c : UInt8) (l : List UInt8) : Lib.contains l [c] = l.any (fun b => decide (b = c)) := by
  unfold Lib.contains
  rcases firstc c l with h | ⟨a, b, rfl, h⟩
  · rw [ixc_none c l h]
    have : l.any (fun b => decide (b = c)) = false := by
      rw [List.any_eq_false]
      intro x hx
      simp
      rintro rfl
      exact h hx
    rw [this]
    rfl
  · rw [ixc_some c a b h]
    have : (a ++ c :: b).any (fun x => decide (x = c)) = true := List.any_eq_true.2 ⟨c, by simp, by simp⟩
    rw [this]
    simp
/-- ref40.feeds -/
theorem ev68 (E : Abs) (s : List UInt8) (hl : s.length < 4294967281) : fnK (mkCtx tab glob) E kp68 fr68 (s.length + 2) Tryd.f68 [.s s] = some [.v (.bool (Lib.contains s [10]))] := by
  rw [contains_one]
  simp [Tryd.f68]
  refine loop_rule (R := List D) (σ := Nat) (fun j => ⟨slots 14 [(0, .d (.s s)), (3, .d (.v (.int .i64 j)))], []⟩) (fun j => s.length - j) (fun j => j ≤ s.length) (fun j => some [.v (.bool ((s.drop j).any fun b => decide (b = 10)))]) 0 [0, 3] (by simp [kp68]) (by omega) (by omega) (by simp) ?_
  intro j κ' hj hn he hr
  have hw : IntKind.i64.wrap (↑j + 1) = ↑j + 1 := wrap_i64 (by omega) (by omega)
  by_cases hjl : j < s.length
  · have hd : s.drop j = s[j] :: s.drop (j + 1) := List.drop_eq_getElem_cons hjl
    rw [hd, List.any_cons]
    generalize hP : (s.drop (j + 1)).any (fun b => decide (b = 10)) = P
    by_cases hb : s[j] = 10
    · simp [hjl, hb, hr]
    · simp [hjl, hb, hw]
      refine (hn (j + 1) _ (by omega) (by omega) (by simp)).trans ?_
      rw [hP]
  · have hd : s.drop j = [] := by simp; omega
    rw [hd]
    simp [hjl, he]
/-- The signs that want quotes. -/
def badL : List UInt8 := [39, 32, 9, 10, 35, 36, 96, 58, 61, 60, 92, 59, 38, 124, 40, 41, 123, 125, 91, 93, 42, 63, 94, 126]
theorem bad_eq' : ∀ n, n < 256 → badL.any (fun c => decide (UInt8.ofNat n = c)) = badB (UInt8.ofNat n) := by decide +kernel
theorem bad_eq (b : UInt8) : badL.any (fun c => decide (b = c)) = badB b := by
  have := bad_eq' b.toNat b.toNat_lt
  simpa using this
theorem byte_eqI (a b : UInt8) : ((a.toNat : Int) == (b.toNat : Int)) = decide (a = b) := by
  rw [Bool.eq_iff_iff]
  simp only [beq_iff_eq, decide_eq_true_eq]
  constructor
  · intro h
    exact UInt8.toNat_inj.1 (by omega)
  · rintro rfl
    rfl
set_option maxHeartbeats 8000000 in
/-- ref11.Plain -/
theorem ev69 (E : Abs) (s : List UInt8) (hl : s.length < 4294967281) : fnK (mkCtx tab glob) E kp69 fr69 (s.length + 30) Tryd.f69 [.s s] = some [.v (.bool (plainS s))] := by
  have hpl : plainS s = (!s.any badB && decide (0 < s.length)) := by
    unfold plainS
    cases s <;> simp
  rw [hpl]
  simp [Tryd.f69]
  refine loop_rule (R := List D) (σ := Nat) (fun j => ⟨slots 28 [(0, .d (.s s)), (3, .d (.s badL)), (4, .d (.v (.int .i64 j)))], []⟩) (fun j => s.length - j) (fun j => j ≤ s.length) (fun j => some [.v (.bool (!(s.drop j).any badB && decide (0 < s.length)))]) 0 [0, 3, 4] (by simp [kp69]) (by omega) (by omega) (by simp [badL]) ?_
  intro j κ' hj hn he hr
  have hw : IntKind.i64.wrap (↑j + 1) = ↑j + 1 := wrap_i64 (by omega) (by omega)
  by_cases hjl : j < s.length
  · have hd : s.drop j = s[j] :: s.drop (j + 1) := List.drop_eq_getElem_cons hjl
    have hbad := bad_eq s[j]
    rw [hd, List.any_cons, ← hbad]
    generalize hQ : (s.drop (j + 1)).any badB = Q
    generalize hC : decide (0 < s.length) = C
    generalize hP : badL.any (fun c => decide (s[j] = c)) = P
    simp [hjl]
    rw [← hP]
    refine loop_rule (R := List D) (σ := Nat) (fun k => ⟨slots 28 [(0, .d (.s s)), (3, .d (.s badL)), (4, .d (.v (.int .i64 j))), (5, .d (.v (.int .i64 k)))], []⟩) (fun k => 24 - k) (fun k => k ≤ 24) (fun k => some [.v (.bool (!(badL.drop k).any (fun c => decide (s[j] = c)) && !Q && C))]) 0 [0, 3, 4, 5] (by simp [kp69]) (by omega) (by omega) (by simp) ?_
    intro k κ2 hk hn2 he2 hr2
    have hw2 : IntKind.i64.wrap (↑k + 1) = ↑k + 1 := wrap_i64 (by omega) (by omega)
    have hbl : badL.length = 24 := rfl
    by_cases hkl : k < 24
    · have hkl' : k < badL.length := by omega
      have hkl2 : (k : Int) < 24 := by omega
      have hd2 : badL.drop k = badL[k] :: badL.drop (k + 1) := List.drop_eq_getElem_cons hkl'
      have hbe := byte_eqI s[j] badL[k]
      rw [hd2, List.any_cons]
      generalize hP2 : (badL.drop (k + 1)).any (fun c => decide (s[j] = c)) = P2
      cases hb : decide (s[j] = badL[k]) with
      | true =>
        rw [hb] at hbe
        simp [hjl, hkl, hkl2, hbl, hkl', hbe, hr2, hr, fr69]
      | false =>
        rw [hb] at hbe
        simp [hjl, hkl, hkl2, hbl, hkl', hbe, hw2, fr69]
        refine (hn2 (k + 1) _ (by omega) (by omega) (by simp)).trans ?_
        rw [hP2]
    · have hd2 : badL.drop k = [] := by rw [List.drop_eq_nil_iff]; omega
      have hkl2 : ¬ (k : Int) < 24 := by omega
      rw [hd2]
      simp [hkl, hkl2, hbl, he2, hw]
      refine (hn (j + 1) _ (by omega) (by omega) (by simp)).trans ?_
      rw [hQ, hC]
  · have hd : s.drop j = [] := by simp; omega
    rw [hd]
    simp [hjl, he]
theorem dblB_append (c : UInt8) : ∀ a b : List UInt8, dblB c (a ++ b) = dblB c a ++ dblB c b
  | [], b => rfl
  | x :: a, b => by
    simp only [List.cons_append, dblB, dblB_append c a b]
    split <;> rfl
def F69 : List D → Option (List D) := F63
def EX1 : Abs := ext (fun _ _ => none) 69 F69
theorem EX1_ok : ∀ f, Pure Tryd.prog (mkCtx tab glob) f (EX1 f) := by
  refine ext_ok none_ok ?_
  refine pure_of (T_ok glob) none_ok Tryd.func69 (by kernel_rfl) (kp := kp69) (fr := fr69) (by kernel_rfl) fun ds rs hF => ?_
  unfold F69 F63 at hF
  split at hF
  · split at hF
    · rename_i h
      cases hF
      exact ⟨_, ev69 _ _ h⟩
    · simp at hF
  · simp at hF
set_option maxHeartbeats 8000000 in
/-- ref11.Quote -/
theorem ev87 (s : List UInt8) (hl : s.length < 2000000000) : fnK (mkCtx tab glob) EX1 kp87 fr87 (s.length + 2) Tryd.f87 [.s s] = some [.s (quoteS s)] := by
  have h1 : F69 [.s s] = some [.v (.bool (plainS s))] := by simp only [F69, F63]; rw [if_pos (by omega)]
  cases hp : plainS s with
  | true =>
    rw [hp] at h1
    simp [Tryd.f87, EX1, h1, quoteS, hp]
  | false =>
    rw [hp] at h1
    have hq : quoteS s = 39 :: (dblB 39 s ++ [39]) := by simp [quoteS, hp]
    rw [hq]
    simp [Tryd.f87, EX1, h1]
    refine loop_rule (R := List D) (σ := Nat) (fun j => ⟨slots 29 [(0, .d (.s s)), (3, .d (.s (39 :: dblB 39 (s.take j)))), (4, .d (.v (.int .i64 j)))], []⟩) (fun j => s.length - j) (fun j => j ≤ s.length) (fun j => some [.s (39 :: (dblB 39 s ++ [39]))]) 0 [0, 3, 4] (by simp [kp87]) (by omega) (by omega) (by simp [dblB]) ?_
    intro j κ' hj hn he hr
    have hw : IntKind.i64.wrap (↑j + 1) = ↑j + 1 := wrap_i64 (by omega) (by omega)
    have hle := dblB_le 39 (s.take j)
    rw [List.length_take] at hle
    by_cases hjl : j < s.length
    · have ht : s.take (j + 1) = s.take j ++ [s[j]] := List.take_succ_eq_append_getElem hjl
      have hx : (s.take (j + 1)).drop j = [s[j]] := by
        rw [ht, List.drop_append_of_le_length (by simp; omega)]
        simp
      have hj1 : (j : Int) ≤ (j : Int) + 1 := by omega
      have hj2 : (j : Int) + 1 ≤ (s.length : Int) := by omega
      have hj3 : ((j : Int) + 1).toNat = j + 1 := by omega
      have hj4 : (0 : Int) ≤ (j : Int) + 1 := by omega
      generalize hq2 : dblB 39 (s.take j) = q at *
      have e1 : q.length + 1 + 1 ≤ lim := by unfold lim; omega
      have e2 : q.length + 1 + 1 + 1 ≤ lim := by unfold lim; omega
      by_cases hb : s[j] = 39
      · have hdd : dblB 39 (s.take (j + 1)) = q ++ [39, 39] := by rw [ht, dblB_append, hq2]; simp [dblB, hb]
        rw [hb] at hx
        simp [hjl, hb, hw, hx, hj1, hj2, hj3, hj4, e1, e2, cutK]
        refine (hn (j + 1) _ (by omega) (by omega) ?_)
        rw [hdd]
        simp
      · have hdd : dblB 39 (s.take (j + 1)) = q ++ [s[j]] := by rw [ht, dblB_append, hq2]; simp [dblB, hb]
        simp [hjl, hb, hw, hx, hj1, hj2, hj3, hj4, e1, e2, cutK]
        refine (hn (j + 1) _ (by omega) (by omega) ?_)
        rw [hdd]
        simp
    · have hj2 : j = s.length := by omega
      subst hj2
      rw [List.take_length] at hle
      have e1 : (dblB 39 s).length + 1 + 1 ≤ lim := by unfold lim; omega
      simp [he, e1]
end Go.Ab
