/- One text of a proof that a law of this seat says true for every input: the lines of a text. It holds of the given program under the conditions that the row prints. -/
import Derived.Test.YtaiklcijiajkaaaDoorAbSimp
set_option linter.unusedVariables false
set_option linter.unusedSimpArgs false
set_option maxRecDepth 100000
namespace Go.Ab
open Go.Proofs
variable {glob : Nat → Option (List D)}

def EL : Abs := ext (ext (ext (ext (fun _ _ => none) 19 F93) 18 F86) 17 F85) 21 F98
theorem EL_ok {m : Int} (h20 : glob 5 = some [.v (.int .i64 m)]) : ∀ f, Pure Tryd.prog (mkCtx tab glob) f (EL f) :=
  ext_ok (ext_ok (ext_ok (ext_ok none_ok F93_ok) F86_ok) (F85_ok h20)) F98_ok

/-- lines.recipe -/
def recp : List UInt8 → Bool
  | [] => false
  | b :: _ => decide (b = 32 ∨ b = 9)
theorem ev71 (l : List UInt8) : fnK (mkCtx tab glob) EL kp11 fr11 0 Tryd.f11 [.s l] = some [.v (.bool (recp l))] := by
  cases l with
  | nil => simp [Tryd.f11, EL, recp]
  | cons b l =>
    simp [Tryd.f11, EL, F93, recp, Lib.indexByte]
    by_cases h1 : (32 : UInt8) = b
    · subst h1; rfl
    · by_cases h2 : (9 : UInt8) = b
      · subst h2; rfl
      · simp [h1, h2, Ne.symm h1, Ne.symm h2, eq_comm]
/-- lines.physical -/
def phys (l : List UInt8) : List (List UInt8) := if l = [] then [] else Lib.split (Lib.trimSuffix l [10]) [10]
theorem trimSuffix_le (l p : List UInt8) : (Lib.trimSuffix l p).length ≤ l.length := by
  unfold Lib.trimSuffix
  split
  · simp
  · exact Nat.le_refl _
theorem ev70 (l : List UInt8) (hl : l.length < 4294967281) : fnK (mkCtx tab glob) EL kp10 fr10 0 Tryd.f10 [.s l] = some [.sl 1 ((phys l).map .s)] := by
  by_cases h : l = []
  · simp [Tryd.f10, EL, phys, h]
  · have h' : l.isEmpty = false := by simpa using h
    have h2 := Nat.lt_of_le_of_lt (trimSuffix_le l [10]) hl
    simp [Tryd.f10, EL, F86, F85, phys, h, h', hl, h2]

/-- quote.End behind its first quote -/
def qloop (s : List UInt8) (i : Nat) : Int :=
  if h : i < s.length then
    if s[i] ≠ 39 then qloop s (i + 1)
    else if s[i + 1]? = some 39 then qloop s (i + 2) else i + 1
  else -1
termination_by s.length - i
def qend (s : List UInt8) (i : Nat) : Int := if s[i]? = some 39 then qloop s (i + 1) else -1
theorem get_lt {α : Type} {s : List α} {i : Nat} {b : α} (h : s[i]? = some b) : i < s.length := (List.getElem?_eq_some_iff.1 h).1
set_option maxHeartbeats 2000000 in
theorem ev75 (s : List UInt8) (i : Nat) (hl : s.length < 4294967281) (hi : i < 4294967281) : fnK (mkCtx tab glob) EL kp31 fr31 (s.length + 2) Tryd.f31 [.s s, .v (.int .i64 i)] = some [.v (.int .i64 (qend s i))] := by
  cases hs : s[i]? with
  | none =>
    have h1 : s.length ≤ i := by simpa using hs
    have h2 : ¬ i < s.length := by omega
    have h0 : ¬ ((i : Int) < 0) := by omega
    simp [Tryd.f31, EL, h1, h2, h0, qend, hs]
  | some b =>
    obtain ⟨h1, hs'⟩ := List.getElem?_eq_some_iff.1 hs
    have h2 : ¬ s.length ≤ i := by omega
    have h0 : ¬ ((i : Int) < 0) := by omega
    by_cases hb : b = 39
    · subst hb
      have hw : IntKind.i64.wrap (↑i + 1) = ↑i + 1 := wrap_i64 (by omega) (by omega)
      simp [Tryd.f31, EL, h1, h2, h0, hs', qend, hw]
      refine loop_rule (R := List D) (σ := Nat) (fun j => ⟨slots 50 [(0, .d (.s s)), (5, .d (.v (.int .i64 j)))], []⟩) (fun j => s.length - j) (fun j => j ≤ s.length + 1) (fun j => some [.v (.int .i64 (qloop s j))]) (i + 1) [0, 5] (by simp [kp31]) (by omega) (by omega) (by simp) ?_
      intro j κ' hj hn he hr
      have hw : IntKind.i64.wrap (↑j + 1) = ↑j + 1 := wrap_i64 (by omega) (by omega)
      by_cases hjl : j < s.length
      · by_cases hc : s[j] = 39
        · by_cases hd : j + 1 < s.length
          · have hd' : (j : Int) + 1 < (s.length : Int) := by omega
            have hd0 : (0 : Int) ≤ (j : Int) + 1 := by omega
            have hd1 : ((j : Int) + 1).toNat = j + 1 := by omega
            by_cases hf : s[j + 1] = 39
            · simp [hjl, hc, hw, hd, hd', hd0, hd1, hf]
              have hw2 : IntKind.i64.wrap (↑j + 1 + 1) = ↑(j + 2) := (wrap_i64 (by omega) (by omega)).trans (by omega)
              refine (hn (j + 2) _ (by omega) (by omega) ?_).trans ?_
              · simp only [hw2]
                simp
              · conv => rhs; unfold qloop
                simp [hjl, hc, hd, hf]
            · simp [hjl, hc, hw, hd, hd', hd0, hd1, hf, he, hr]
              conv => rhs; unfold qloop
              simp [hjl, hc, hd, hf]
          · have hd' : ¬ (j : Int) + 1 < (s.length : Int) := by omega
            have hd2 : s[j + 1]? = none := by simp; omega
            simp [hjl, hc, hw, hd', he, hr]
            conv => rhs; unfold qloop
            simp [hjl, hc, hd2]
        · simp [hjl, hc, hw]
          refine (hn (j + 1) _ (by omega) (by omega) (by simp)).trans ?_
          conv => rhs; unfold qloop
          simp [hjl, hc]
      · simp [hjl, he, hr]
        unfold qloop
        simp [hjl]
    · simp [Tryd.f31, EL, h1, h2, h0, hs', hb, qend]
end Go.Ab

set_option linter.unusedVariables false
set_option linter.unusedSimpArgs false
set_option maxRecDepth 100000
namespace Go.Ab
open Go.Proofs
variable {glob : Nat → Option (List D)}

theorem qloop_gt (s : List UInt8) (i : Nat) : qloop s i < 0 ∨ ((i : Int) < qloop s i ∧ qloop s i ≤ s.length) := by
  induction i using qloop.induct (s := s) with
  | case1 i h hc ih =>
    have e : qloop s i = qloop s (i + 1) := by
      conv => lhs; unfold qloop
      simp [h, hc]
    omega
  | case2 i h hc hd ih =>
    have e : qloop s i = qloop s (i + 2) := by
      conv => lhs; unfold qloop
      rw [dif_pos h, if_neg hc, if_pos hd]
    omega
  | case3 i h hc hd =>
    have e : qloop s i = i + 1 := by
      conv => lhs; unfold qloop
      rw [dif_pos h, if_neg hc, if_neg hd]
    omega
  | case4 i h =>
    have e : qloop s i = -1 := by
      conv => lhs; unfold qloop
      simp [h]
    omega
theorem qend_gt (s : List UInt8) (i : Nat) : qend s i < 0 ∨ ((i : Int) + 1 < qend s i ∧ qend s i ≤ s.length) := by
  unfold qend
  split
  · have := qloop_gt s (i + 1)
    omega
  · omega
/-- lines.cut -/
def cutm (s : List UInt8) (last : Bool) (i : Nat) : List UInt8 × Bool × Bool :=
  if h : i < s.length then
    if s[i] = 39 then
      if h2 : qend s i < 0 then ([], false, false) else cutm s last (qend s i).toNat
    else if s[i] = 35 then (s.take i, false, true)
    else if s[i] = 92 ∧ i + 1 = s.length ∧ last = false then (s.take i ++ [32], true, true)
    else cutm s last (i + 1)
  else (s, false, true)
termination_by s.length - i
decreasing_by
  · have := qend_gt s i
    omega
  · omega
def F75 : List D → Option (List D)
  | [.s s, .v (.int .i64 i)] => if s.length < 4294967281 ∧ 0 ≤ i ∧ i < 4294967281 then some [.v (.int .i64 (qend s i.toNat))] else none
  | _ => none
def E2 : Abs := ext (ext (ext EL 11 fun | [.s l] => some [.v (.bool (recp l))] | _ => none) 10 fun | [.s l] => if l.length < 4294967281 then some [.sl 1 ((phys l).map .s)] else none | _ => none) 31 F75
theorem F75_ok {m : Int} (h20 : glob 5 = some [.v (.int .i64 m)]) : Pure Tryd.prog (mkCtx tab glob) 31 F75 := by
  refine pure_of (T_ok glob) (EL_ok h20) Tryd.func31 (by kernel_rfl) (kp := kp31) (fr := fr31) (by kernel_rfl) fun ds rs hF => ?_
  unfold F75 at hF
  split at hF
  · rename_i s i
    split at hF
    · rename_i hc
      cases hF
      obtain ⟨h1, h2, h3⟩ := hc
      refine ⟨s.length + 2, ?_⟩
      have := ev75 (glob := glob) s i.toNat h1 (by omega)
      rw [Int.toNat_of_nonneg h2] at this
      exact this
    · simp at hF
  · simp at hF
theorem E2_ok {m : Int} (h20 : glob 5 = some [.v (.int .i64 m)]) : ∀ f, Pure Tryd.prog (mkCtx tab glob) f (E2 f) := by
  refine ext_ok (ext_ok (ext_ok (EL_ok h20) ?_) ?_) (F75_ok h20)
  · refine pure_of (T_ok glob) (EL_ok h20) Tryd.func11 (by kernel_rfl) (kp := kp11) (fr := fr11) (by kernel_rfl) fun ds rs hF => ?_
    split at hF
    · cases hF
      exact ⟨0, ev71 _⟩
    · simp at hF
  · refine pure_of (T_ok glob) (EL_ok h20) Tryd.func10 (by kernel_rfl) (kp := kp10) (fr := fr10) (by kernel_rfl) fun ds rs hF => ?_
    split at hF
    · split at hF
      · rename_i h
        cases hF
        exact ⟨0, ev70 _ h⟩
      · simp at hF
    · simp at hF

set_option maxHeartbeats 4000000 in
theorem ev97 (s : List UInt8) (last : Bool) (hl : s.length < 4294967000) : fnK (mkCtx tab glob) E2 kp20 fr20 (s.length + 2) Tryd.f20 [.s s, .v (.bool last)] = some [.s (cutm s last 0).1, .v (.bool (cutm s last 0).2.1), .v (.bool (cutm s last 0).2.2)] := by
  simp [Tryd.f20]
  refine loop_rule (R := List D) (σ := Nat) (fun j => ⟨slots 48 [(0, .d (.s s)), (1, .d (.v (.bool last))), (7, .d (.v (.int .i64 j)))], []⟩) (fun j => s.length - j) (fun j => j ≤ s.length) (fun j => some [.s (cutm s last j).1, .v (.bool (cutm s last j).2.1), .v (.bool (cutm s last j).2.2)]) 0 [0, 1, 7] (by simp [kp20]) (by omega) (by omega) (by simp) ?_
  intro j κ' hj hn he hr
  have hw : IntKind.i64.wrap (↑j + 1) = ↑j + 1 := wrap_i64 (by omega) (by omega)
  by_cases hjl : j < s.length
  · by_cases hc : s[j] = 39
    · have hq := qend_gt s j
      have hl' : s.length < 4294967281 := by omega
      have hj' : (j : Int) < 4294967281 := by omega
      by_cases hq0 : qend s j < 0
      · have e : cutm s last j = ([], false, false) := by
          conv => lhs; unfold cutm
          simp [hjl, hc, hq0]
        simp [hjl, hc, E2, F75, hl', hj', hq0, he, hr, e]
      · have e : cutm s last j = cutm s last (qend s j).toNat := by
          conv => lhs; unfold cutm
          simp [hjl, hc, hq0]
        have hw1 : IntKind.i64.wrap (qend s j - 1) = qend s j - 1 := wrap_i64 (by omega) (by omega)
        have hw2 : IntKind.i64.wrap (qend s j) = qend s j := wrap_i64 (by omega) (by omega)
        simp [hjl, hc, E2, F75, hl', hj', hq0, hw1, hw2]
        refine (hn (qend s j).toNat _ (by omega) (by omega) ?_).trans ?_
        · rw [Int.toNat_of_nonneg (by omega)]
          simp
        · rw [e]
    · by_cases hc2 : s[j] = 35
      · have e : cutm s last j = (s.take j, false, true) := by
          conv => lhs; unfold cutm
          simp [hjl, hc, hc2]
        have hjl' : (j : Int) ≤ s.length := by omega
        simp [hjl, hc, hc2, hw, he, hr, hjl', e]
      · by_cases hc3 : s[j] = 92
        · have hw3 : IntKind.i64.wrap (↑s.length - 1) = ↑s.length - 1 := wrap_i64 (by omega) (by omega)
          by_cases hc4 : j + 1 = s.length
          · have hc4' : ((j : Int) == ↑s.length - 1) = true := by rw [beq_iff_eq]; omega
            cases last with
            | true =>
              have e : cutm s true j = cutm s true (j + 1) := by
                conv => lhs; unfold cutm
                simp [hjl, hc, hc2, hc3]
              simp [hjl, hc, hc2, hc3, hw, hw3, hc4']
              refine (hn (j + 1) _ (by omega) (by omega) (by simp)).trans ?_
              rw [e]
            | false =>
              have e : cutm s false j = (s.take j ++ [32], true, true) := by
                conv => lhs; unfold cutm
                simp [hjl, hc, hc2, hc3, hc4]
              have hjl' : (j : Int) ≤ s.length := by omega
              have hll : min j s.length + 1 ≤ lim := by unfold lim; omega
              simp [hjl, hc, hc2, hc3, hw, hw3, hc4', he, hr, hjl', hll, e]
          · have e : cutm s last j = cutm s last (j + 1) := by
              conv => lhs; unfold cutm
              simp [hjl, hc, hc2, hc3, hc4]
            have hc4' : ((j : Int) == ↑s.length - 1) = false := by rw [beq_eq_false_iff_ne]; omega
            simp [hjl, hc, hc2, hc3, hw, hw3, hc4']
            refine (hn (j + 1) _ (by omega) (by omega) (by simp)).trans ?_
            rw [e]
        · have e : cutm s last j = cutm s last (j + 1) := by
            conv => lhs; unfold cutm
            simp [hjl, hc, hc2, hc3]
          simp [hjl, hc, hc2, hc3, hw, he, hr]
          refine (hn (j + 1) _ (by omega) (by omega) (by simp)).trans ?_
          rw [e]
  · have e : cutm s last j = (s, false, true) := by
      conv => lhs; unfold cutm
      simp [hjl]
    simp [hjl, he, hr, e]
end Go.Ab

set_option linter.unusedVariables false
set_option linter.unusedSimpArgs false
set_option maxRecDepth 100000
namespace Go.Ab
open Go.Proofs
variable {glob : Nat → Option (List D)}

def F97 : List D → Option (List D)
  | [.s s, .v (.bool last)] => if s.length < 4294967000 then some [.s (cutm s last 0).1, .v (.bool (cutm s last 0).2.1), .v (.bool (cutm s last 0).2.2)] else none
  | _ => none
def E3 : Abs := ext E2 20 F97
theorem E3_ok {m : Int} (h20 : glob 5 = some [.v (.int .i64 m)]) : ∀ f, Pure Tryd.prog (mkCtx tab glob) f (E3 f) := by
  refine ext_ok (E2_ok h20) ?_
  refine pure_of (T_ok glob) (E2_ok h20) Tryd.func20 (by kernel_rfl) (kp := kp20) (fr := fr20) (by kernel_rfl) fun ds rs hF => ?_
  unfold F97 at hF
  split at hF
  · split at hF
    · rename_i h
      cases hF
      exact ⟨_, ev97 _ _ h⟩
    · simp at hF
  · simp at hF

theorem cutm_len (s : List UInt8) (last : Bool) (i : Nat) : (cutm s last i).1.length ≤ s.length ∧ (last = true → (cutm s last i).2.1 = false) := by
  induction i using cutm.induct (s := s) (last := last) with
  | case1 i h hc h2 =>
    unfold cutm
    simp [h, hc, h2]
  | case2 i h hc h2 ih =>
    have e : cutm s last i = cutm s last (qend s i).toNat := by
      conv => lhs; unfold cutm
      simp only [h, dif_pos, hc, if_pos, h2, dif_neg, not_false_eq_true]
    rw [e]
    exact ih
  | case3 i h hc h2 =>
    unfold cutm
    simp [h, hc, h2]
    omega
  | case4 i h hc h2 h3 =>
    unfold cutm
    simp [h, hc, h2, h3]
    omega
  | case5 i h hc h2 h3 ih =>
    have e : cutm s last i = cutm s last (i + 1) := by
      conv => lhs; unfold cutm
      rw [dif_pos h, if_neg hc, if_neg h2, if_neg h3]
    rw [e]
    exact ih
  | case6 i h =>
    unfold cutm
    simp [h]

/-- lines.logical -/
def lgm (xs : List (List UInt8)) (acc : List UInt8) (i : Nat) : (List UInt8 × Nat) ⊕ Nat :=
  if h : i < xs.length then
    if (cutm xs[i] (i + 1 == xs.length) 0).2.2 = false then .inr (i + 1)
    else if (cutm xs[i] (i + 1 == xs.length) 0).2.1 = true then lgm xs (acc ++ (cutm xs[i] (i + 1 == xs.length) 0).1) (i + 1)
    else .inl (acc ++ (cutm xs[i] (i + 1 == xs.length) 0).1, i + 1)
  else .inr 0
termination_by xs.length - i
def lgD (eq : D) (i : Nat) : (List UInt8 × Nat) ⊕ Nat → List D
  | .inl (t, next) => [.st [.s (Lib.trimS t [32, 9]), .v (.int .i64 (i + 1)), .v (.bool false)], .v (.int .i64 next), .v .nilIface]
  | .inr n => [.st [.s [], .v (.int .i64 0), .v (.bool false)], .v (.int .i64 0), .ifc 40 (.ptr [.v (.int .i64 n), eq])]

set_option maxHeartbeats 4000000 in
theorem ev72 {t6 : TypeId} {x6 : D} (h6 : glob 2 = some [.ifc t6 x6]) (xs : List (List UInt8)) (i : Nat) (hi : i < xs.length) (hx : xs.length < 4294967000) (hl : ((xs.drop i).map List.length).sum < 4294967000) :
    fnK (mkCtx tab glob) E3 kp12 fr12 (xs.length + 2) Tryd.f12 [.sl 1 (xs.map .s), .v (.int .i64 i)] = some (lgD (.ifc t6 x6) i (lgm xs [] i)) := by
  have hw0 : IntKind.i64.wrap (↑i + 1) = ↑i + 1 := wrap_i64 (by omega) (by omega)
  simp [Tryd.f12, hw0]
  refine loop_rule (R := List D) (σ := Nat × List UInt8 × Bool) (fun p => ⟨slots 53 [(0, .d (.sl 1 (xs.map .s))), (1, .d (.v (.int .i64 p.1))), (4, .ref (1, 4) 0), (7, .ref (1, 7) 0), (8, .d (.v (.bool p.2.2)))],
    [((1, 7), .box [.d (.s p.2.1), .d (.v (.int .i64 (↑i + 1))), .d (.v (.bool false))]), ((1, 4), .box [.d (.s []), .d (.v (.int .i64 0)), .d (.v (.bool false))])]⟩) (fun p => xs.length - p.1)
    (fun p => (p.2.2 = true → p.1 < xs.length) ∧ p.1 ≤ xs.length ∧ p.2.1.length + ((xs.drop p.1).map List.length).sum < 4294967000) (fun p => some (lgD (.ifc t6 x6) i (if p.2.2 = true then lgm xs p.2.1 p.1 else .inl (p.2.1, p.1)))) (i, [], true) [0, 1, 4, 7, 8] (by simp [kp12]) ⟨fun _ => hi, Nat.le_of_lt hi, by simpa using hl⟩ (by simp; omega) (by simp) ?_
  rintro ⟨j, acc, goes⟩ κ' ⟨hj, hj2, hacc⟩ hn he hr
  simp only at hj hj2 hacc
  cases goes with
  | false =>
    have hal : acc.length < 4294967281 := by omega
    simp [he, E3, E2, EL, F98, hal, lgD]
  | true =>
    have hj := hj rfl
    have hw : IntKind.i64.wrap (↑j + 1) = ↑j + 1 := wrap_i64 (by omega) (by omega)
    have hw2 : IntKind.i64.wrap (↑xs.length - 1) = ↑xs.length - 1 := wrap_i64 (by omega) (by omega)
    have hb : ((j : Int) == (xs.length : Int) - 1) = (j + 1 == xs.length) := by
      rw [Bool.eq_iff_iff, beq_iff_eq, beq_iff_eq]
      omega
    have hd : xs.drop j = xs[j] :: xs.drop (j + 1) := List.drop_eq_getElem_cons hj
    rw [hd, List.map_cons, List.sum_cons] at hacc
    have hlj : xs[j].length < 4294967000 := by omega
    have hcl := cutm_len xs[j] (j + 1 == xs.length) 0
    cases hok : (cutm xs[j] (j + 1 == xs.length) 0).2.2 with
    | false =>
      have e : lgm xs acc j = .inr (j + 1) := by
        conv => lhs; unfold lgm
        rw [dif_pos hj, if_pos hok]
      simp [hj, hw, hw2, hb, E3, F97, hlj, hok, h6, fr12, he, hr, e, lgD]
    | true =>
      have hlim : acc.length + (cutm xs[j] (j + 1 == xs.length) 0).1.length ≤ lim := by unfold lim; omega
      simp [hj, hw, hw2, hb, E3, F97, hlj, hok, hlim]
      refine (hn (j + 1, acc ++ (cutm xs[j] (j + 1 == xs.length) 0).1, (cutm xs[j] (j + 1 == xs.length) 0).2.1) _ ⟨fun hg => ?_, hj, ?_⟩ (by simp; omega) (by simp)).trans ?_
      · simp only at hg ⊢
        have : ¬ (j + 1 == xs.length) = true := fun h => by
          rw [hcl.2 h] at hg
          simp at hg
        simp at this
        omega
      · simp only [List.length_append]
        omega
      · simp only
        have e : lgm xs acc j = if (cutm xs[j] (j + 1 == xs.length) 0).2.1 = true then lgm xs (acc ++ (cutm xs[j] (j + 1 == xs.length) 0).1) (j + 1) else .inl (acc ++ (cutm xs[j] (j + 1 == xs.length) 0).1, j + 1) := by
          conv => lhs; unfold lgm
          simp [hj, hok]
        rw [e]

def F72 (eq : D) : List D → Option (List D)
  | [.sl 1 ys, .v (.int .i64 i)] => (match ys.mapM (fun y => match y with | D.s l => some l | _ => none) with
    | some xs => if 0 ≤ i ∧ i.toNat < xs.length ∧ xs.length < 4294967000 ∧ (xs.map List.length).sum < 4294967000 then some (lgD eq i.toNat (lgm xs [] i.toNat)) else none
    | none => none)
  | _ => none
end Go.Ab

set_option linter.unusedVariables false
set_option linter.unusedSimpArgs false
set_option maxRecDepth 100000
namespace Go.Ab
open Go.Proofs
variable {glob : Nat → Option (List D)}

/-- A function of data out of a typed one. -/
noncomputable def lift {α : Type} (enc : α → List D) (f : α → Option (List D)) : List D → Option (List D) := fun ds => open Classical in if h : ∃ a, enc a = ds then f h.choose else none
theorem lift_enc {α : Type} {enc : α → List D} {f : α → Option (List D)} (hi : ∀ a b, enc a = enc b → a = b) (a : α) : lift enc f (enc a) = f a := by
  unfold lift
  rw [dif_pos ⟨a, rfl⟩]
  congr 1
  exact hi _ _ (Classical.choose_spec (p := fun b => enc b = enc a) ⟨a, rfl⟩)
theorem lift_some {α : Type} {enc : α → List D} {f : α → Option (List D)} {ds rs : List D} (h : lift enc f ds = some rs) : ∃ a, enc a = ds ∧ f a = some rs := by
  unfold lift at h
  split at h
  · rename_i hx
    exact ⟨_, Classical.choose_spec hx, h⟩
  · simp at h
theorem map_inj {α β : Type} {f : α → β} (hf : ∀ a b, f a = f b → a = b) : ∀ xs ys : List α, xs.map f = ys.map f → xs = ys
  | [], [], _ => rfl
  | [], y :: ys, h => by simp at h
  | x :: xs, [], h => by simp at h
  | x :: xs, y :: ys, h => by
    simp only [List.map_cons, List.cons.injEq] at h
    rw [hf x y h.1, map_inj hf xs ys h.2]
theorem s_inj : ∀ a b, D.s a = D.s b → a = b := fun a b h => by injection h

noncomputable def F72' (eq : D) : List D → Option (List D) := lift (fun p : List (List UInt8) × Nat => [.sl 1 (p.1.map .s), .v (.int .i64 p.2)])
  fun p => if p.2 < p.1.length ∧ p.1.length < 4294967000 ∧ (p.1.map List.length).sum < 4294967000 then some (lgD eq p.2 (lgm p.1 [] p.2)) else none
theorem F72_eq (eq : D) (xs : List (List UInt8)) (i : Nat) (h1 : i < xs.length) (h2 : xs.length < 4294967000) (h3 : (xs.map List.length).sum < 4294967000) : F72' eq [.sl 1 (xs.map .s), .v (.int .i64 i)] = some (lgD eq i (lgm xs [] i)) := by
  have := lift_enc (enc := fun p : List (List UInt8) × Nat => [.sl 1 (p.1.map .s), .v (.int .i64 p.2)]) (f := fun p => if p.2 < p.1.length ∧ p.1.length < 4294967000 ∧ (p.1.map List.length).sum < 4294967000 then some (lgD eq p.2 (lgm p.1 [] p.2)) else none)
    (fun a b h => by
      simp only [List.cons.injEq, D.sl.injEq, D.v.injEq, Value.int.injEq, true_and, and_true] at h
      exact Prod.ext (map_inj s_inj _ _ h.1) (by omega)) (xs, i)
  simp only [h1, h2, h3, and_self, if_true] at this
  exact this
theorem sum_drop (xs : List (List UInt8)) (i : Nat) : ((xs.drop i).map List.length).sum ≤ (xs.map List.length).sum := by
  have : (xs.map List.length).sum = ((xs.take i).map List.length).sum + ((xs.drop i).map List.length).sum := by
    rw [← List.sum_append, ← List.map_append, List.take_append_drop]
  omega
noncomputable def E4 (eq : D) : Abs := ext E3 12 (F72' eq)
theorem E4_ok {m : Int} (h20 : glob 5 = some [.v (.int .i64 m)]) {t6 : TypeId} {x6 : D} (h6 : glob 2 = some [.ifc t6 x6]) : ∀ f, Pure Tryd.prog (mkCtx tab glob) f (E4 (.ifc t6 x6) f) := by
  refine ext_ok (E3_ok h20) ?_
  refine pure_of (T_ok glob) (E3_ok h20) Tryd.func12 (by kernel_rfl) (kp := kp12) (fr := fr12) (by kernel_rfl) fun ds rs hF => ?_
  obtain ⟨⟨xs, i⟩, rfl, hf⟩ := lift_some hF
  simp only at hf
  split at hf
  · rename_i h
    cases hf
    exact ⟨_, ev72 h6 xs i h.1 h.2.1 (Nat.lt_of_le_of_lt (sum_drop xs i) h.2.2)⟩
  · simp at hf

/-- A line. -/
structure Ln where
  text : List UInt8
  num : Nat
  cell : Bool
def encLn (l : Ln) : D := .st [.s l.text, .v (.int .i64 l.num), .v (.bool l.cell)]
theorem lgm_next (xs : List (List UInt8)) (acc : List UInt8) (i : Nat) (t : List UInt8) (n : Nat) (h : lgm xs acc i = .inl (t, n)) : i < n ∧ n ≤ xs.length := by
  induction acc, i using lgm.induct (xs := xs) with
  | case1 acc i hi h1 =>
    unfold lgm at h
    rw [dif_pos hi, if_pos h1] at h
    simp at h
  | case2 acc i hi h1 h2 ih =>
    unfold lgm at h
    rw [dif_pos hi, if_neg h1, if_pos h2] at h
    have := ih h
    omega
  | case3 acc i hi h1 h2 =>
    unfold lgm at h
    rw [dif_pos hi, if_neg h1, if_neg h2] at h
    simp at h
    omega
  | case4 acc i hi =>
    unfold lgm at h
    rw [dif_neg hi] at h
    simp at h
/-- lines.Split behind its first test: the lines, or the number of a bad one and whether a quote is open. -/
def spm (xs : List (List UInt8)) (acc : List Ln) (i : Nat) : List Ln ⊕ (Nat × Bool) :=
  if h : i < xs.length then
    if recp xs[i] = true then
      if 400 < xs[i].length - 1 then .inr (i + 1, false) else spm xs (acc ++ [⟨xs[i].drop 1, i + 1, true⟩]) (i + 1)
    else match hm : lgm xs [] i with
      | .inr n => .inr (n, true)
      | .inl (t, n) => if 400 < (Lib.trimS t [32, 9]).length then .inr (i + 1, false) else spm xs (acc ++ [⟨Lib.trimS t [32, 9], i + 1, false⟩]) n
  else .inl acc
termination_by xs.length - i
decreasing_by
  · omega
  · have := lgm_next xs [] i t n hm
    omega
def spD (el eq : D) : List Ln ⊕ (Nat × Bool) → List D
  | .inl ls => [.sl 3 (ls.map encLn), .v .nilIface]
  | .inr (n, q) => [.sl 3 [], .ifc 40 (.ptr [.v (.int .i64 n), if q then eq else el])]
end Go.Ab

set_option linter.unusedVariables false
set_option linter.unusedSimpArgs false
set_option maxRecDepth 100000
namespace Go.Ab
open Go.Proofs
variable {glob : Nat → Option (List D)}

set_option maxHeartbeats 8000000 in
theorem ev37 {t6 t2 : TypeId} {x6 x2 : D} (h6 : glob 2 = some [.ifc t6 x6]) (h2 : glob 0 = some [.ifc t2 x2]) (l : List UInt8) (hn : (phys l).length < 4294967000) (hs : ((phys l).map List.length).sum < 4294967000) :
    fnK (mkCtx tab glob) (E4 (.ifc t6 x6)) kp7 fr7 ((phys l).length + 2) Tryd.f7 [.s l] = some (spD (.ifc t2 x2) (.ifc t6 x6) (if 4000 < l.length then .inr (0, false) else spm (phys l) [] 0)) := by
  by_cases hl : 4000 < l.length
  · have hl' : (4000 : Int) < l.length := by omega
    simp [Tryd.f7, hl, hl', h2, fr7, spD]
  · have hl' : ¬ (4000 : Int) < l.length := by omega
    have hl2 : l.length < 4294967281 := by omega
    simp [Tryd.f7, hl, hl', E4, E3, E2, hl2]
    generalize hxs : phys l = xs at hn hs
    refine loop_rule (R := List D) (σ := Nat × List Ln) (fun p => ⟨slots 65 [(4, .d (.sl 1 (xs.map .s))), (5, .own (1, 5)), (6, .d (.v (.int .i64 p.1)))], [((1, 5), .tok 3 (p.2.map encLn))]⟩) (fun p => xs.length - p.1)
      (fun p => p.2.length ≤ p.1 ∧ p.1 ≤ xs.length) (fun p => some (spD (.ifc t2 x2) (.ifc t6 x6) (spm xs p.2 p.1))) (0, []) [4, 5, 6] (by simp [kp7]) (by simp) (by simp) (by simp) ?_
    rintro ⟨i, acc⟩ κ' ⟨ha, hi⟩ hk he hr
    simp only at ha hi
    have hw : IntKind.i64.wrap (↑i + 1) = ↑i + 1 := wrap_i64 (by omega) (by omega)
    by_cases hil : i < xs.length
    · have hlim : acc.length + 1 ≤ lim := by unfold lim; omega
      by_cases hrec : recp xs[i] = true
      · have h1 : 1 ≤ xs[i].length := by
          cases hx : xs[i] with
          | nil => rw [hx] at hrec; simp [recp] at hrec
          | cons b r => simp
        have h1' : (1 : Int) ≤ xs[i].length := by omega
        by_cases hlong : 400 < xs[i].length - 1
        · have e : spm xs acc i = .inr (i + 1, false) := by
            conv => lhs; unfold spm
            rw [dif_pos hil, if_pos hrec, if_pos hlong]
          have hlong' : (400 : Int) < ((xs[i].length - 1 : Nat) : Int) := by omega
          simp [hil, hw, hrec, h1', hlong, hlong', h2, fr7, he, hr, e, spD, E4, E3, E2]
        · have e : spm xs acc i = spm xs (acc ++ [⟨xs[i].drop 1, i + 1, true⟩]) (i + 1) := by
            conv => lhs; unfold spm
            rw [dif_pos hil, if_pos hrec, if_neg hlong]
          have hlong' : ¬ (400 : Int) < ((xs[i].length - 1 : Nat) : Int) := by omega
          simp [hil, hw, hrec, h1', hlong, hlong', he, hr, e, E4, E3, E2, hlim]
          refine (hk (i + 1, acc ++ [⟨xs[i].drop 1, i + 1, true⟩]) _ ⟨by simp; omega, hil⟩ (by simp; omega) (by simp [encLn])).trans ?_
          simp
      · have hF := F72_eq (.ifc t6 x6) xs i hil hn hs
        cases hm : lgm xs [] i with
        | inr n =>
          have e : spm xs acc i = .inr (n, true) := by
            conv => lhs; unfold spm
            rw [dif_pos hil, if_neg hrec]
            split
            · rename_i n' h'
              rw [hm] at h'
              cases h'
              rfl
            · rename_i t' n' h'
              rw [hm] at h'
              cases h'
          rw [hm] at hF
          simp [hil, hw, hrec, he, hr, e, spD, E4, E3, E2, hF, lgD]
        | inl tn =>
          obtain ⟨t, n⟩ := tn
          have hnx := lgm_next xs [] i t n hm
          rw [hm] at hF
          have e0 : spm xs acc i = if 400 < (Lib.trimS t [32, 9]).length then .inr (i + 1, false) else spm xs (acc ++ [⟨Lib.trimS t [32, 9], i + 1, false⟩]) n := by
            conv => lhs; unfold spm
            rw [dif_pos hil, if_neg hrec]
            split
            · rename_i n' h'
              rw [hm] at h'
              cases h'
            · rename_i t' n' h'
              rw [hm] at h'
              cases h'
              rfl
          by_cases hlong : 400 < (Lib.trimS t [32, 9]).length
          · have e : spm xs acc i = .inr (i + 1, false) := by rw [e0, if_pos hlong]
            have hlong' : (400 : Int) < ((Lib.trimS t [32, 9]).length : Int) := by omega
            simp [hil, hw, hrec, hlong, hlong', h2, fr7, he, hr, e, spD, E4, E3, E2, hF, lgD]
          · have e : spm xs acc i = spm xs (acc ++ [⟨Lib.trimS t [32, 9], i + 1, false⟩]) n := by rw [e0, if_neg hlong]
            have hlong' : ¬ (400 : Int) < ((Lib.trimS t [32, 9]).length : Int) := by omega
            simp [hil, hw, hrec, hlong, hlong', he, hr, e, E4, E3, E2, hF, lgD, hlim]
            refine (hk (n, acc ++ [⟨Lib.trimS t [32, 9], i + 1, false⟩]) _ ⟨by simp; omega, hnx.2⟩ (by simp; omega) (by simp [encLn])).trans ?_
            rfl
    · have e : spm xs acc i = .inl acc := by
        conv => lhs; unfold spm
        rw [dif_neg hil]
      simp [hil, he, hr, e, spD]

/-- lines.Split -/
def spF (el eq : D) (l : List UInt8) : List D := spD el eq (if 4000 < l.length then .inr (0, false) else spm (phys l) [] 0)
noncomputable def F37 (el eq : D) : List D → Option (List D) := fun ds => match ds with
  | [.s l] => if (phys l).length < 4294967000 ∧ ((phys l).map List.length).sum < 4294967000 then some (spF el eq l) else none
  | _ => none
noncomputable def E5 (el eq : D) : Abs := ext (E4 eq) 7 (F37 el eq)
theorem E5_ok {m : Int} (h20 : glob 5 = some [.v (.int .i64 m)]) {t6 t2 : TypeId} {x6 x2 : D} (h6 : glob 2 = some [.ifc t6 x6]) (h2 : glob 0 = some [.ifc t2 x2]) : ∀ f, Pure Tryd.prog (mkCtx tab glob) f (E5 (.ifc t2 x2) (.ifc t6 x6) f) := by
  refine ext_ok (E4_ok h20 h6) ?_
  refine pure_of (T_ok glob) (E4_ok h20 h6) Tryd.func7 (by kernel_rfl) (kp := kp7) (fr := fr7) (by kernel_rfl) fun ds rs hF => ?_
  unfold F37 at hF
  split at hF
  · split at hF
    · rename_i h
      cases hF
      exact ⟨_, ev37 h6 h2 _ h.1 h.2⟩
    · simp at hF
  · simp at hF
end Go.Ab
