/- One text of a proof that a law of this seat says true for every input: words, pieces and statements. It holds of the given program under the conditions that the row prints. -/
import Derived.Test.YtaiklcijiajkaaaGreatDoorLx13
import Derived.Test.YtaiklcijiajkaaaGreatDoorErA
set_option linter.unusedVariables false
set_option linter.unusedSimpArgs false
set_option maxRecDepth 100000
namespace Go.Ab
open Go.Proofs
variable {glob : Nat → Option (List D)} {p : Nat → Addr} {o : Nat → Obj}

/-! ### words, copied -/
set_option maxHeartbeats 4000000 in
/-- law13.Word -/
theorem evLWord (E : Abs) (w : List Pc) (hl : w.length ≤ 4294967000) : fnK (mkCtx tab glob) E kp59 fr59 (w.length + 1) Tryz.f59 [encW w] = some [encW w] := by
  have hL : ∀ i (h : i < w.length), (w.map encP)[i]? = some (encP w[i]) := fun i h => by simp [h]
  have hT : ∀ i (h : i < w.length), (w.map encP).take (i + 1) = (w.map encP).take i ++ [encP w[i]] := fun i h => by
    rw [List.take_add_one, hL i h]
    rfl
  have hLl : (w.map encP).length = w.length := by simp
  unfold encW
  generalize w.map encP = L at *
  simp [Tryz.f59]
  refine loop_rule (R := List D) (σ := Nat) (fun i => ⟨slots 19 [(3, .own (1, 6)), (7, .d (.sl 4 L)), (8, .d (.v (.int .i64 w.length))), (9, .d (.v (.int .i64 i)))], [((1, 6), .tok 4 (L.take i))]⟩) (fun i => w.length - i) (fun i => i ≤ w.length) (fun _ => some [.sl 4 L]) 0 [3, 7, 8, 9] (by simp [kp59]) (Nat.zero_le _) (by omega) (by simp [hLl]) ?_
  intro i κ' hi hn he hr
  have hw : IntKind.i64.wrap ((i : Int) + 1) = (i : Int) + 1 := wrap_i64 (by omega) (by omega)
  by_cases hil : i < w.length
  · have hil' : (i : Int) < w.length := by omega
    have hmin : min i w.length = i := by omega
    have hlim : i + 1 ≤ lim := by unfold lim; omega
    have hg := hL i hil
    have ht := hT i hil
    generalize w[i] = x at *
    obtain ⟨k, t, f, u⟩ := x
    simp only [encP] at hg ht
    have hg6 := (List.getElem?_eq_some_iff.1 hg).2
    simp [hLl, hil, hil', hg, hg6, hmin, hlim, hw, fr59]
    exact hn (i + 1) _ (by omega) (by omega) (by simp [ht])
  · obtain rfl : i = w.length := by omega
    have ht : L.take w.length = L := by rw [← hLl, List.take_length]
    simp [he, ht]
/-! ### words, compared -/
theorem pcEq (a b : Pc) : (!((a.k : Int) == b.k) || (!(a.t == b.t) || (!(a.f == b.f) || !(a.o == b.o)))) = !decide (a = b) := by
  obtain ⟨k, t, f, u⟩ := a
  obtain ⟨k2, t2, f2, u2⟩ := b
  have hk : ((k : Int) == k2) = decide (k = k2) := by
    rw [Bool.eq_iff_iff]
    simp only [beq_iff_eq, decide_eq_true_eq]
    omega
  rw [hk]
  by_cases h1 : k = k2 <;> by_cases h2 : t = t2 <;> by_cases h3 : f = f2 <;> by_cases h4 : u = u2 <;> simp [h1, h2, h3, h4]
theorem take_eq_succ {α : Type} {a b : List α} {i : Nat} (h1 : i < a.length) (h2 : i < b.length) (h : a.take i = b.take i) (he : a[i] = b[i]) : a.take (i + 1) = b.take (i + 1) := by
  rw [List.take_succ_eq_append_getElem h1, List.take_succ_eq_append_getElem h2, h, he]
set_option maxHeartbeats 4000000 in
/-- slices.Equal -/
theorem evEqual (E : Abs) (a b : List Pc) (hl : a.length ≤ 4294967000) : fnK (mkCtx tab glob) E kp48 fr48 (a.length + 1) Tryz.f48 [encW a, encW b] = some [.v (.bool (decide (a = b)))] := by
  have hA : ∀ i (h : i < a.length), (a.map encP)[i]? = some (encP a[i]) := fun i h => by simp [h]
  have hAl : (a.map encP).length = a.length := by simp
  have hB : ∀ i (h : i < b.length), (b.map encP)[i]? = some (encP b[i]) := fun i h => by simp [h]
  have hBl : (b.map encP).length = b.length := by simp
  unfold encW
  generalize a.map encP = LA at *
  generalize b.map encP = LB at *
  by_cases hll : a.length = b.length
  · have hll' : (a.length : Int) = b.length := by omega
    simp [Tryz.f48, hAl, hBl, hll]
    refine loop_rule (R := List D) (σ := Nat) (fun i => ⟨slots 26 [(0, .d (.sl 4 LA)), (1, .d (.sl 4 LB)), (12, .d (.v (.int .i64 b.length))), (13, .d (.v (.int .i64 i)))], []⟩) (fun i => a.length - i) (fun i => i ≤ a.length ∧ a.take i = b.take i) (fun _ => some [.v (.bool (decide (a = b)))]) 0 [0, 1, 12, 13] (by simp [kp48]) ⟨Nat.zero_le _, rfl⟩ (by omega) (by simp) ?_
    rintro i κ' ⟨hi, hpre⟩ hn he hr
    have hw : IntKind.i64.wrap ((i : Int) + 1) = (i : Int) + 1 := wrap_i64 (by omega) (by omega)
    by_cases hil : i < a.length
    · have hil2 : i < b.length := by omega
      have hil' : (i : Int) < a.length := by omega
      have hil2' : (i : Int) < b.length := by omega
      have hg := hA i hil
      have hg2 := hB i hil2
      have hx : a[i] = b[i] → a.take (i + 1) = b.take (i + 1) := take_eq_succ hil hil2 hpre
      have hy : a[i] ≠ b[i] → decide (a = b) = false := fun h => by
        rw [decide_eq_false_iff_not]
        intro e
        subst e
        exact h rfl
      have hc := pcEq a[i] b[i]
      generalize a[i] = x at *
      generalize b[i] = y at *
      by_cases hxy : x = y
      · subst hxy
        obtain ⟨k, t, f, u⟩ := x
        simp only [encP] at hg hg2
        have hg6 := (List.getElem?_eq_some_iff.1 hg).2
        have hg26 := (List.getElem?_eq_some_iff.1 hg2).2
        simp [hAl, hBl, hil, hil', hil2, hil2', hg, hg6, hg2, hg26, hw, fr48]
        exact hn (i + 1) _ ⟨by omega, hx rfl⟩ (by omega) (by simp)
      · have hd := hy hxy
        rw [decide_eq_false hxy] at hc
        obtain ⟨k, t, f, u⟩ := x
        obtain ⟨k2, t2, f2, u2⟩ := y
        simp only [encP] at hg hg2
        simp only at hc
        have hg6 := (List.getElem?_eq_some_iff.1 hg).2
        have hg26 := (List.getElem?_eq_some_iff.1 hg2).2
        rw [hd]
        simp [hAl, hBl, hil, hil', hil2, hil2', hg, hg6, hg2, hg26, hw, hc, hr, fr48]
    · obtain rfl : i = a.length := by omega
      have heq : a = b := by
        rw [List.take_length, hll, List.take_length] at hpre
        exact hpre
      simp [he, heq, hll]
  · have hll' : ((a.length : Int) != b.length) = true := by rw [bne_iff_ne]; omega
    have hne : a ≠ b := fun e => hll (by rw [e])
    simp [Tryz.f48, hAl, hBl, hll', hne]
/-! ### lists of words -/
noncomputable def FLWord : List D → Option (List D) := liftG (fun w : List Pc => w.length ≤ 4294967000) (fun w => [encW w]) fun w => some [encW w]
theorem encP_inj : ∀ a b, encP a = encP b → a = b := by
  rintro ⟨k, t, f, u⟩ ⟨k2, t2, f2, u2⟩ h
  simp only [encP, D.st.injEq, List.cons.injEq, D.s.injEq, D.v.injEq, Value.int.injEq, true_and, and_true, Int.ofNat_inj] at h
  obtain ⟨h, rfl, rfl, rfl⟩ := h
  obtain rfl : k = k2 := by omega
  rfl
theorem encW_inj : ∀ a b, encW a = encW b → a = b := fun a b h => by
  simp only [encW, D.sl.injEq, true_and] at h
  exact map_inj encP_inj a b h
theorem FLWord_at (w : List Pc) (h : w.length ≤ 4294967000) : FLWord [encW w] = some [encW w] :=
  liftG_enc (good := fun w : List Pc => w.length ≤ 4294967000) (enc := fun w => [encW w]) (f := fun w => some [encW w]) (fun a b _ _ h => by
    simp only [List.cons.injEq, and_true] at h
    rw [h]) w h
noncomputable def FEqual : List D → Option (List D) := liftG (fun x : List Pc × List Pc => x.1.length ≤ 4294967000) (fun x => [encW x.1, encW x.2]) fun x => some [.v (.bool (decide (x.1 = x.2)))]
theorem FEqual_at (a b : List Pc) (h : a.length ≤ 4294967000) : FEqual [encW a, encW b] = some [.v (.bool (decide (a = b)))] :=
  liftG_enc (good := fun x : List Pc × List Pc => x.1.length ≤ 4294967000) (enc := fun x => [encW x.1, encW x.2]) (f := fun x => some [.v (.bool (decide (x.1 = x.2)))]) (fun x y _ _ h => by
    simp only [List.cons.injEq, and_true] at h
    rw [encW_inj _ _ h.1, encW_inj _ _ h.2]) (a, b) h
noncomputable def EW : Abs := ext (ext (fun _ _ => none) 59 FLWord) 48 FEqual
theorem EW_ok : ∀ f, Pure Tryz.prog (mkCtx tab glob) f (EW f) := by
  refine ext_ok (ext_ok none_ok ?_) ?_
  · refine pure_of (T_ok glob) none_ok Tryz.func59 (by kernel_rfl) (kp := kp59) (fr := fr59) (by kernel_rfl) fun ds rs hF => ?_
    obtain ⟨w, hw, rfl, h⟩ := liftG_some hF
    cases h
    exact ⟨_, evLWord _ w hw⟩
  · refine pure_of (T_ok glob) none_ok Tryz.func48 (by kernel_rfl) (kp := kp48) (fr := fr48) (by kernel_rfl) fun ds rs hF => ?_
    obtain ⟨⟨a, b⟩, hw, rfl, h⟩ := liftG_some hF
    cases h
    exact ⟨_, evEqual _ a b hw⟩
/-- Words that a program can hold. -/
def okW (ws : List (List Pc)) : Prop := ws.length ≤ 4294967000 ∧ ∀ w ∈ ws, w.length ≤ 4294967000
set_option maxHeartbeats 4000000 in
/-- law13.Of -/
theorem evLOf (ws : List (List Pc)) (hl : okW ws) : fnK (mkCtx tab glob) EW kp34 fr34 (ws.length + 1) Tryz.f34 [.sl 1 (ws.map encW)] = some [.sl 1 (ws.map encW)] := by
  have hEW : EW 59 = FLWord := rfl
  have hL : ∀ i (h : i < ws.length), (ws.map encW)[i]? = some (encW ws[i]) := fun i h => by simp [h]
  have hT : ∀ i (h : i < ws.length), (ws.map encW).take (i + 1) = (ws.map encW).take i ++ [encW ws[i]] := fun i h => by
    rw [List.take_add_one, hL i h]
    rfl
  have hLl : (ws.map encW).length = ws.length := by simp
  generalize ws.map encW = L at *
  have hl1 := hl.1
  simp [Tryz.f34]
  refine loop_rule (R := List D) (σ := Nat) (fun i => ⟨slots 20 [(3, .own (1, 6)), (7, .d (.sl 1 L)), (8, .d (.v (.int .i64 ws.length))), (9, .d (.v (.int .i64 i)))], [((1, 6), .tok 1 (L.take i))]⟩) (fun i => ws.length - i) (fun i => i ≤ ws.length) (fun _ => some [.sl 1 L]) 0 [3, 7, 8, 9] (by simp [kp34]) (Nat.zero_le _) (by omega) (by simp [hLl]) ?_
  intro i κ' hi hn he hr
  have hw : IntKind.i64.wrap ((i : Int) + 1) = (i : Int) + 1 := wrap_i64 (by omega) (by omega)
  by_cases hil : i < ws.length
  · have hil' : (i : Int) < ws.length := by omega
    have hmin : min i ws.length = i := by omega
    have hlim : i + 1 ≤ lim := by unfold lim; omega
    have hg := hL i hil
    have ht := hT i hil
    have hF := FLWord_at ws[i] (hl.2 _ (List.getElem_mem hil))
    generalize ws[i] = x at *
    unfold encW at hg ht hF
    have hg6 := (List.getElem?_eq_some_iff.1 hg).2
    simp [hLl, hil, hil', hg, hg6, hmin, hlim, hw, hEW, hF, fr34]
    exact hn (i + 1) _ (by omega) (by omega) (by simp [ht])
  · obtain rfl : i = ws.length := by omega
    have ht : L.take ws.length = L := by rw [← hLl, List.take_length]
    simp [he, ht]
set_option maxHeartbeats 4000000 in
/-- slices.EqualFunc -/
theorem evEqualFunc (a b : List (List Pc)) (hl : okW a) : fnK (mkCtx tab glob) EW kp47 fr47 (a.length + 1) Tryz.f47 [.sl 1 (a.map encW), .sl 1 (b.map encW), .fn (.func 48) [] []] = some [.v (.bool (decide (a = b)))] := by
  have hEQ : EW 48 = FEqual := rfl
  have hA : ∀ i (h : i < a.length), (a.map encW)[i]? = some (encW a[i]) := fun i h => by simp [h]
  have hAl : (a.map encW).length = a.length := by simp
  have hB : ∀ i (h : i < b.length), (b.map encW)[i]? = some (encW b[i]) := fun i h => by simp [h]
  have hBl : (b.map encW).length = b.length := by simp
  have hl1 := hl.1
  generalize a.map encW = LA at *
  generalize b.map encW = LB at *
  by_cases hll : a.length = b.length
  · have hll' : (a.length : Int) = b.length := by omega
    simp [Tryz.f47, hAl, hBl, hll]
    refine loop_rule (R := List D) (σ := Nat) (fun i => ⟨slots 32 [(1, .d (.sl 1 LB)), (2, .d (.fn (.func 48) [] [])), (15, .d (.sl 1 LA)), (16, .d (.v (.int .i64 b.length))), (17, .d (.v (.int .i64 i)))], []⟩) (fun i => a.length - i) (fun i => i ≤ a.length ∧ a.take i = b.take i) (fun _ => some [.v (.bool (decide (a = b)))]) 0 [1, 2, 15, 16, 17] (by simp [kp47]) ⟨Nat.zero_le _, rfl⟩ (by omega) (by simp) ?_
    rintro i κ' ⟨hi, hpre⟩ hn he hr
    have hw : IntKind.i64.wrap ((i : Int) + 1) = (i : Int) + 1 := wrap_i64 (by omega) (by omega)
    by_cases hil : i < a.length
    · have hil2 : i < b.length := by omega
      have hil' : (i : Int) < a.length := by omega
      have hil2' : (i : Int) < b.length := by omega
      have hg := hA i hil
      have hg2 := hB i hil2
      have hx : a[i] = b[i] → a.take (i + 1) = b.take (i + 1) := take_eq_succ hil hil2 hpre
      have hy : a[i] ≠ b[i] → decide (a = b) = false := fun h => by
        rw [decide_eq_false_iff_not]
        intro e
        subst e
        exact h rfl
      have hF := FEqual_at a[i] b[i] (hl.2 _ (List.getElem_mem hil))
      generalize a[i] = x at *
      generalize b[i] = y at *
      have hg6 := (List.getElem?_eq_some_iff.1 hg).2
      have hg26 := (List.getElem?_eq_some_iff.1 hg2).2
      unfold encW at hg hg2 hg6 hg26 hF
      by_cases hxy : x = y
      · rw [decide_eq_true hxy] at hF
        simp [hAl, hBl, hil, hil', hil2, hil2', hg, hg6, hg2, hg26, hw, hEQ, hF]
        exact hn (i + 1) _ ⟨by omega, hx hxy⟩ (by omega) (by simp)
      · have hd := hy hxy
        rw [decide_eq_false hxy] at hF
        rw [hd]
        simp [hAl, hBl, hil, hil', hil2, hil2', hg, hg6, hg2, hg26, hw, hEQ, hF, hr]
    · obtain rfl : i = a.length := by omega
      have heq : a = b := by
        rw [List.take_length, hll, List.take_length] at hpre
        exact hpre
      simp [he, heq, hll]
  · have hll' : ((a.length : Int) != b.length) = true := by rw [bne_iff_ne]; omega
    have hne : a ≠ b := fun e => hll (by rw [e])
    simp [Tryz.f47, hAl, hBl, hll', hne]
end Go.Ab

set_option linter.unusedVariables false
set_option linter.unusedSimpArgs false
set_option maxRecDepth 100000
namespace Go.Ab
open Go.Proofs
variable {glob : Nat → Option (List D)} {p : Nat → Addr} {o : Nat → Obj}

theorem wl_inj : ∀ a b : List (List Pc), (D.sl 1 (a.map encW)) = D.sl 1 (b.map encW) → a = b := fun a b h => by
  simp only [D.sl.injEq, true_and] at h
  exact map_inj encW_inj a b h
noncomputable def FLOf : List D → Option (List D) := liftG okW (fun ws => [.sl 1 (ws.map encW)]) fun ws => some [.sl 1 (ws.map encW)]
theorem FLOf_at (ws : List (List Pc)) (h : okW ws) : FLOf [.sl 1 (ws.map encW)] = some [.sl 1 (ws.map encW)] :=
  liftG_enc (good := okW) (enc := fun ws => [.sl 1 (ws.map encW)]) (f := fun ws => some [.sl 1 (ws.map encW)]) (fun a b _ _ h => by
    simp only [List.cons.injEq, and_true] at h
    rw [h]) ws h
noncomputable def FEqF : List D → Option (List D) := liftG (fun x : List (List Pc) × List (List Pc) => okW x.1) (fun x => [.sl 1 (x.1.map encW), .sl 1 (x.2.map encW), .fn (.func 48) [] []]) fun x => some [.v (.bool (decide (x.1 = x.2)))]
theorem FEqF_at (a b : List (List Pc)) (h : okW a) : FEqF [.sl 1 (a.map encW), .sl 1 (b.map encW), .fn (.func 48) [] []] = some [.v (.bool (decide (a = b)))] :=
  liftG_enc (good := fun x : List (List Pc) × List (List Pc) => okW x.1) (enc := fun x => [.sl 1 (x.1.map encW), .sl 1 (x.2.map encW), .fn (.func 48) [] []]) (f := fun x => some [.v (.bool (decide (x.1 = x.2)))]) (fun x y _ _ h => by
    simp only [List.cons.injEq, and_true] at h
    rw [wl_inj _ _ h.1, wl_inj _ _ h.2]) (a, b) h
noncomputable def FSm : List D → Option (List D) := liftG (fun x : List (List Pc) × List (List Pc) => okW x.1) (fun x => [.sl 1 (x.1.map encW), .sl 1 (x.2.map encW)]) fun x => some [.v (.bool (decide (x.1 = x.2)))]
theorem FSm_at (a b : List (List Pc)) (h : okW a) : FSm [.sl 1 (a.map encW), .sl 1 (b.map encW)] = some [.v (.bool (decide (a = b)))] :=
  liftG_enc (good := fun x : List (List Pc) × List (List Pc) => okW x.1) (enc := fun x => [.sl 1 (x.1.map encW), .sl 1 (x.2.map encW)]) (f := fun x => some [.v (.bool (decide (x.1 = x.2)))]) (fun x y _ _ h => by
    simp only [List.cons.injEq, and_true] at h
    rw [wl_inj _ _ h.1, wl_inj _ _ h.2]) (a, b) h
noncomputable def EF : Abs := ext (ext (fun _ _ => none) 34 FLOf) 47 FEqF
theorem EF_ok : ∀ f, Pure Tryz.prog (mkCtx tab glob) f (EF f) := by
  refine ext_ok (ext_ok none_ok ?_) ?_
  · refine pure_of (T_ok glob) EW_ok Tryz.func34 (by kernel_rfl) (kp := kp34) (fr := fr34) (by kernel_rfl) fun ds rs hF => ?_
    obtain ⟨w, hw, rfl, h⟩ := liftG_some hF
    cases h
    exact ⟨_, evLOf w hw⟩
  · refine pure_of (T_ok glob) EW_ok Tryz.func47 (by kernel_rfl) (kp := kp47) (fr := fr47) (by kernel_rfl) fun ds rs hF => ?_
    obtain ⟨⟨a, b⟩, hw, rfl, h⟩ := liftG_some hF
    cases h
    exact ⟨_, evEqualFunc a b hw⟩
/-- lex.Same -/
theorem evLSame (a b : List (List Pc)) (hl : okW a) : fnK (mkCtx tab glob) EF kp23 fr23 0 Tryz.f23 [.sl 1 (a.map encW), .sl 1 (b.map encW)] = some [.v (.bool (decide (a = b)))] := by
  have hE : EF 47 = FEqF := rfl
  have hF := FEqF_at a b hl
  generalize decide (a = b) = c at *
  simp [Tryz.f23, hE, hF]
/-- law19.Of -/
theorem evL19 (s : Sm) (h1 : okW s.heads) (h2 : okW s.words) : fnK (mkCtx tab glob) EF kp18 fr18 0 Tryz.f18 [encS s] = some [encS s] := by
  have hE : EF 34 = FLOf := rfl
  have hF1 := FLOf_at s.heads h1
  have hF2 := FLOf_at s.words h2
  simp [Tryz.f18, fr18, encS, smC, hE, hF1, hF2]
set_option maxHeartbeats 8000000 in
/-- ref13.Same -/
theorem evRSame (E : Abs) (a b : List (List Pc)) (hl : okW a) (M : Nat) (hM : ∀ w ∈ a, w.length ≤ M) : fnK (mkCtx tab glob) E kp24 fr24 (a.length + M + 1) Tryz.f24 [.sl 1 (a.map encW), .sl 1 (b.map encW)] = some [.v (.bool (decide (a = b)))] := by
  have hA : ∀ i (h : i < a.length), (a.map encW)[i]? = some (encW a[i]) := fun i h => by simp [h]
  have hAl : (a.map encW).length = a.length := by simp
  have hB : ∀ i (h : i < b.length), (b.map encW)[i]? = some (encW b[i]) := fun i h => by simp [h]
  have hBl : (b.map encW).length = b.length := by simp
  have hl1 := hl.1
  generalize a.map encW = LA at *
  generalize b.map encW = LB at *
  by_cases hll : a.length = b.length
  · have hll' : (a.length : Int) = b.length := by omega
    simp [Tryz.f24, hAl, hBl, hll]
    refine loop_rule (R := List D) (σ := Nat) (fun i => ⟨slots 53 [(0, .d (.sl 1 LA)), (1, .d (.sl 1 LB)), (13, .d (.v (.int .i64 b.length))), (14, .d (.v (.int .i64 i)))], []⟩) (fun i => a.length - i) (fun i => i ≤ a.length ∧ a.take i = b.take i) (fun _ => some [.v (.bool (decide (a = b)))]) 0 [0, 1, 13, 14] (by simp [kp24]) ⟨Nat.zero_le _, rfl⟩ (by omega) (by simp) ?_
    rintro i κ' ⟨hi, hpre⟩ hn he hr
    have hw : IntKind.i64.wrap ((i : Int) + 1) = (i : Int) + 1 := wrap_i64 (by omega) (by omega)
    by_cases hil : i < a.length
    · have hil2 : i < b.length := by omega
      have hil' : (i : Int) < a.length := by omega
      have hil2' : (i : Int) < b.length := by omega
      have hg := hA i hil
      have hg2 := hB i hil2
      have hx : a[i] = b[i] → a.take (i + 1) = b.take (i + 1) := take_eq_succ hil hil2 hpre
      have hy : a[i] ≠ b[i] → decide (a = b) = false := fun h => by
        rw [decide_eq_false_iff_not]
        intro e
        subst e
        exact h rfl
      have hwl := hl.2 _ (List.getElem_mem hil)
      have hwM := hM _ (List.getElem_mem hil)
      generalize a[i] = x at *
      generalize b[i] = y at *
      have hX : ∀ i (h : i < x.length), (x.map encP)[i]? = some (encP x[i]) := fun i h => by simp [h]
      have hXl : (x.map encP).length = x.length := by simp
      have hY : ∀ i (h : i < y.length), (y.map encP)[i]? = some (encP y[i]) := fun i h => by simp [h]
      have hYl : (y.map encP).length = y.length := by simp
      have hg6 := (List.getElem?_eq_some_iff.1 hg).2
      have hg26 := (List.getElem?_eq_some_iff.1 hg2).2
      unfold encW at hg hg2 hg6 hg26
      generalize x.map encP = LX at *
      generalize y.map encP = LY at *
      by_cases hxl : x.length = y.length
      · have hxl' : (x.length : Int) = y.length := by omega
        simp [hAl, hBl, hil, hil', hil2, hil2', hg, hg6, hg2, hg26, hXl, hYl, hxl, fr24]
        refine loop_rule (R := List D) (σ := Nat) (fun j => ⟨slots 53 [(0, .d (.sl 1 LA)), (1, .d (.sl 1 LB)), (5, .d (.v (.int .i64 i))), (13, .d (.v (.int .i64 b.length))), (14, .d (.v (.int .i64 i))), (32, .d (.v (.int .i64 y.length))), (33, .d (.v (.int .i64 j)))], []⟩) (fun j => x.length - j) (fun j => j ≤ x.length ∧ x.take j = y.take j) (fun _ => some [.v (.bool (decide (a = b)))]) 0 [0, 1, 5, 13, 14, 32, 33] (by simp [kp24]) ⟨Nat.zero_le _, rfl⟩ (by omega) (by simp) ?_
        rintro j κ2 ⟨hj, hpre2⟩ hn2 he2 hr2
        have hwj : IntKind.i64.wrap ((j : Int) + 1) = (j : Int) + 1 := wrap_i64 (by omega) (by omega)
        by_cases hjl : j < x.length
        · have hjl2 : j < y.length := by omega
          have hjl' : (j : Int) < x.length := by omega
          have hjl2' : (j : Int) < y.length := by omega
          have gg := hX j hjl
          have gg2 := hY j hjl2
          have hxj : x[j] = y[j] → x.take (j + 1) = y.take (j + 1) := take_eq_succ hjl hjl2 hpre2
          have hyj : x[j] ≠ y[j] → x ≠ y := fun h e => by
            subst e
            exact h rfl
          have hc := pcEq x[j] y[j]
          generalize x[j] = u at *
          generalize y[j] = v at *
          by_cases huv : u = v
          · subst huv
            obtain ⟨k, t, f, q⟩ := u
            simp only [encP] at gg gg2
            have gg6 := (List.getElem?_eq_some_iff.1 gg).2
            have gg26 := (List.getElem?_eq_some_iff.1 gg2).2
            simp [hAl, hBl, hil, hil', hil2, hil2', hg, hg6, hg2, hg26, hXl, hYl, hjl, hjl', hjl2, hjl2', gg, gg6, gg2, gg26, hwj, fr24]
            exact hn2 (j + 1) _ ⟨by omega, hxj rfl⟩ (by omega) (by simp)
          · have hd := hy (hyj huv)
            rw [decide_eq_false huv] at hc
            obtain ⟨k, t, f, q⟩ := u
            obtain ⟨k2, t2, f2, q2⟩ := v
            simp only [encP] at gg gg2
            simp only at hc
            have gg6 := (List.getElem?_eq_some_iff.1 gg).2
            have gg26 := (List.getElem?_eq_some_iff.1 gg2).2
            rw [hd]
            simp [hAl, hBl, hil, hil', hil2, hil2', hg, hg6, hg2, hg26, hXl, hYl, hjl, hjl', hjl2, hjl2', gg, gg6, gg2, gg26, hwj, hc, hr2, hr, fr24]
        · obtain rfl : j = x.length := by omega
          have hxy : x = y := by
            rw [List.take_length, hxl, List.take_length] at hpre2
            exact hpre2
          simp [hxl, he2, hw]
          exact hn (i + 1) _ ⟨by omega, hx hxy⟩ (by omega) (by simp)
      · have hd := hy (fun e => hxl (by rw [e]))
        have hxl' : ((x.length : Int) != y.length) = true := by rw [bne_iff_ne]; omega
        rw [hd]
        simp [hAl, hBl, hil, hil', hil2, hil2', hg, hg6, hg2, hg26, hXl, hYl, hxl', hr, fr24]
    · obtain rfl : i = a.length := by omega
      have heq : a = b := by
        rw [List.take_length, hll, List.take_length] at hpre
        exact hpre
      simp [he, heq, hll]
  · have hll' : ((a.length : Int) != b.length) = true := by rw [bne_iff_ne]; omega
    have hne : a ≠ b := fun e => hll (by rw [e])
    simp [Tryz.f24, hAl, hBl, hll', hne]
/-- A statement for a statement. -/
def smEq (a b : Sm) : Bool := ((a.kind : Int) == b.kind) && (a.line == b.line) && (a.name == b.name) && ((a.flags : Int) == b.flags) && (a.prog == b.prog) && (a.recipe == b.recipe) && (a.hidden == b.hidden) && (a.command == b.command) && decide (a.heads = b.heads) && decide (a.words = b.words)
theorem smEq_refl (a : Sm) : smEq a a = true := by simp [smEq]
noncomputable def ELS : Abs := ext (fun _ _ => none) 23 FSm
noncomputable def ERS : Abs := ext (fun _ _ => none) 24 FSm
end Go.Ab
