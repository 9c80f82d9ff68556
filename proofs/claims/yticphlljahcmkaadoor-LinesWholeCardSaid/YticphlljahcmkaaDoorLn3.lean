/- One text of a proof that a law of this seat says true for every input: the lines of a text. It holds of the given program under the conditions that the row prints. -/
import Derived.Test.YticphlljahcmkaaDoorLn2
set_option linter.unusedVariables false
set_option linter.unusedSimpArgs false
set_option maxRecDepth 100000
namespace Go.Ab
open Go.Proofs
variable {glob : Nat → Option (List D)}

def F97 : List D → Option (List D)
  | [.s s, .v (.bool last)] => if s.length < 4294967000 then some [.s (cutm s last 0).1, .v (.bool (cutm s last 0).2.1), .v (.bool (cutm s last 0).2.2)] else none
  | _ => none
def E3 : Abs := ext E2 97 F97
theorem E3_ok {m : Int} (h20 : glob 20 = some [.v (.int .i64 m)]) : ∀ f, Pure Tryd.prog (mkCtx tab glob) f (E3 f) := by
  refine ext_ok (E2_ok h20) ?_
  refine pure_of (T_ok glob) (E2_ok h20) Tryd.func97 (by kernel_rfl) (kp := kp97) (fr := fr97) (by kernel_rfl) fun ds rs hF => ?_
  unfold F97 at hF
  split at hF
  · split at hF
    · rename_i h
      cases hF
      exact ⟨_, ev97 _ _ h⟩
    · simp at hF
  · simp at hF

theorem cutm_len (s : List UInt8) (last : Bool) (i : Nat) : (cutm s last i).1.length ≤ s.length ∧ (last = true → (cutm s last i).2.1 = false) := by
  induction i using cutm.induct (s := s) (last := last) with
  | case1 i h hc h2 =>
    unfold cutm
    simp [h, hc, h2]
  | case2 i h hc h2 ih =>
    have e : cutm s last i = cutm s last (qend s i).toNat := by
      conv => lhs; unfold cutm
      simp only [h, dif_pos, hc, if_pos, h2, dif_neg, not_false_eq_true]
    rw [e]
    exact ih
  | case3 i h hc h2 =>
    unfold cutm
    simp [h, hc, h2]
    omega
  | case4 i h hc h2 h3 =>
    unfold cutm
    simp [h, hc, h2, h3]
    omega
  | case5 i h hc h2 h3 ih =>
    have e : cutm s last i = cutm s last (i + 1) := by
      conv => lhs; unfold cutm
      rw [dif_pos h, if_neg hc, if_neg h2, if_neg h3]
    rw [e]
    exact ih
  | case6 i h =>
    unfold cutm
    simp [h]

/-- lines.logical -/
def lgm (xs : List (List UInt8)) (acc : List UInt8) (i : Nat) : (List UInt8 × Nat) ⊕ Nat :=
  if h : i < xs.length then
    if (cutm xs[i] (i + 1 == xs.length) 0).2.2 = false then .inr (i + 1)
    else if (cutm xs[i] (i + 1 == xs.length) 0).2.1 = true then lgm xs (acc ++ (cutm xs[i] (i + 1 == xs.length) 0).1) (i + 1)
    else .inl (acc ++ (cutm xs[i] (i + 1 == xs.length) 0).1, i + 1)
  else .inr 0
termination_by xs.length - i
def lgD (eq : D) (i : Nat) : (List UInt8 × Nat) ⊕ Nat → List D
  | .inl (t, next) => [.st [.s (Lib.trimS t [32, 9]), .v (.int .i64 (i + 1)), .v (.bool false)], .v (.int .i64 next), .v .nilIface]
  | .inr n => [.st [.s [], .v (.int .i64 0), .v (.bool false)], .v (.int .i64 0), .ifc 75 (.ptr [.v (.int .i64 n), eq])]

set_option maxHeartbeats 4000000 in
theorem ev72 {t6 : TypeId} {x6 : D} (h6 : glob 6 = some [.ifc t6 x6]) (xs : List (List UInt8)) (i : Nat) (hi : i < xs.length) (hx : xs.length < 4294967000) (hl : ((xs.drop i).map List.length).sum < 4294967000) :
    fnK (mkCtx tab glob) E3 kp72 fr72 (xs.length + 2) Tryd.f72 [.sl 1 (xs.map .s), .v (.int .i64 i)] = some (lgD (.ifc t6 x6) i (lgm xs [] i)) := by
  have hw0 : IntKind.i64.wrap (↑i + 1) = ↑i + 1 := wrap_i64 (by omega) (by omega)
  simp [Tryd.f72, hw0]
  refine loop_rule (R := List D) (σ := Nat × List UInt8 × Bool) (fun p => ⟨slots 53 [(0, .d (.sl 1 (xs.map .s))), (1, .d (.v (.int .i64 p.1))), (4, .ref (1, 4) 0), (7, .ref (1, 7) 0), (8, .d (.v (.bool p.2.2)))],
    [((1, 7), .box [.d (.s p.2.1), .d (.v (.int .i64 (↑i + 1))), .d (.v (.bool false))]), ((1, 4), .box [.d (.s []), .d (.v (.int .i64 0)), .d (.v (.bool false))])]⟩) (fun p => xs.length - p.1)
    (fun p => (p.2.2 = true → p.1 < xs.length) ∧ p.1 ≤ xs.length ∧ p.2.1.length + ((xs.drop p.1).map List.length).sum < 4294967000) (fun p => some (lgD (.ifc t6 x6) i (if p.2.2 = true then lgm xs p.2.1 p.1 else .inl (p.2.1, p.1)))) (i, [], true) [0, 1, 4, 7, 8] (by simp [kp72]) ⟨fun _ => hi, Nat.le_of_lt hi, by simpa using hl⟩ (by simp; omega) (by simp) ?_
  rintro ⟨j, acc, goes⟩ κ' ⟨hj, hj2, hacc⟩ hn he hr
  simp only at hj hj2 hacc
  cases goes with
  | false =>
    have hal : acc.length < 4294967281 := by omega
    simp [he, E3, E2, EL, F98, hal, lgD]
  | true =>
    have hj := hj rfl
    have hw : IntKind.i64.wrap (↑j + 1) = ↑j + 1 := wrap_i64 (by omega) (by omega)
    have hw2 : IntKind.i64.wrap (↑xs.length - 1) = ↑xs.length - 1 := wrap_i64 (by omega) (by omega)
    have hb : ((j : Int) == (xs.length : Int) - 1) = (j + 1 == xs.length) := by
      rw [Bool.eq_iff_iff, beq_iff_eq, beq_iff_eq]
      omega
    have hd : xs.drop j = xs[j] :: xs.drop (j + 1) := List.drop_eq_getElem_cons hj
    rw [hd, List.map_cons, List.sum_cons] at hacc
    have hlj : xs[j].length < 4294967000 := by omega
    have hcl := cutm_len xs[j] (j + 1 == xs.length) 0
    cases hok : (cutm xs[j] (j + 1 == xs.length) 0).2.2 with
    | false =>
      have e : lgm xs acc j = .inr (j + 1) := by
        conv => lhs; unfold lgm
        rw [dif_pos hj, if_pos hok]
      simp [hj, hw, hw2, hb, E3, F97, hlj, hok, h6, fr72, he, hr, e, lgD]
    | true =>
      have hlim : acc.length + (cutm xs[j] (j + 1 == xs.length) 0).1.length ≤ lim := by unfold lim; omega
      simp [hj, hw, hw2, hb, E3, F97, hlj, hok, hlim]
      refine (hn (j + 1, acc ++ (cutm xs[j] (j + 1 == xs.length) 0).1, (cutm xs[j] (j + 1 == xs.length) 0).2.1) _ ⟨fun hg => ?_, hj, ?_⟩ (by simp; omega) (by simp)).trans ?_
      · simp only at hg ⊢
        have : ¬ (j + 1 == xs.length) = true := fun h => by
          rw [hcl.2 h] at hg
          simp at hg
        simp at this
        omega
      · simp only [List.length_append]
        omega
      · simp only
        have e : lgm xs acc j = if (cutm xs[j] (j + 1 == xs.length) 0).2.1 = true then lgm xs (acc ++ (cutm xs[j] (j + 1 == xs.length) 0).1) (j + 1) else .inl (acc ++ (cutm xs[j] (j + 1 == xs.length) 0).1, j + 1) := by
          conv => lhs; unfold lgm
          simp [hj, hok]
        rw [e]

def F72 (eq : D) : List D → Option (List D)
  | [.sl 1 ys, .v (.int .i64 i)] => (match ys.mapM (fun y => match y with | D.s l => some l | _ => none) with
    | some xs => if 0 ≤ i ∧ i.toNat < xs.length ∧ xs.length < 4294967000 ∧ (xs.map List.length).sum < 4294967000 then some (lgD eq i.toNat (lgm xs [] i.toNat)) else none
    | none => none)
  | _ => none
end Go.Ab
