/- One text of a proof that a law of this seat says true for every input: words, pieces and statements. It holds of the given program under the conditions that the row prints. -/
import Derived.Test.YtaiklcijiajkaaaDoorLx13
import Derived.Test.YtaiklcijiajkaaaDoorErA
set_option linter.unusedVariables false
set_option linter.unusedSimpArgs false
set_option maxRecDepth 100000
namespace Go.Ab
open Go.Proofs
variable {glob : Nat → Option (List D)} {p : Nat → Addr} {o : Nat → Obj}

/-! ### words, copied -/
/-! ### words, compared -/
theorem pcEq (a b : Pc) : (!((a.k : Int) == b.k) || (!(a.t == b.t) || (!(a.f == b.f) || !(a.o == b.o)))) = !decide (a = b) := by
  obtain ⟨k, t, f, u⟩ := a
  obtain ⟨k2, t2, f2, u2⟩ := b
  have hk : ((k : Int) == k2) = decide (k = k2) := by
    rw [Bool.eq_iff_iff]
    simp only [beq_iff_eq, decide_eq_true_eq]
    omega
  rw [hk]
  by_cases h1 : k = k2 <;> by_cases h2 : t = t2 <;> by_cases h3 : f = f2 <;> by_cases h4 : u = u2 <;> simp [h1, h2, h3, h4]
theorem take_eq_succ {α : Type} {a b : List α} {i : Nat} (h1 : i < a.length) (h2 : i < b.length) (h : a.take i = b.take i) (he : a[i] = b[i]) : a.take (i + 1) = b.take (i + 1) := by
  rw [List.take_succ_eq_append_getElem h1, List.take_succ_eq_append_getElem h2, h, he]
set_option maxHeartbeats 4000000 in
/-- slices.Equal -/
theorem evEqual (E : Abs) (a b : List Pc) (hl : a.length ≤ 4294967000) : fnK (mkCtx tab glob) E kp16 fr16 (a.length + 1) Tryd.f16 [encW a, encW b] = some [.v (.bool (decide (a = b)))] := by
  have hA : ∀ i (h : i < a.length), (a.map encP)[i]? = some (encP a[i]) := fun i h => by simp [h]
  have hAl : (a.map encP).length = a.length := by simp
  have hB : ∀ i (h : i < b.length), (b.map encP)[i]? = some (encP b[i]) := fun i h => by simp [h]
  have hBl : (b.map encP).length = b.length := by simp
  unfold encW
  generalize a.map encP = LA at *
  generalize b.map encP = LB at *
  by_cases hll : a.length = b.length
  · have hll' : (a.length : Int) = b.length := by omega
    simp [Tryd.f16, hAl, hBl, hll]
    refine loop_rule (R := List D) (σ := Nat) (fun i => ⟨slots 26 [(0, .d (.sl 4 LA)), (1, .d (.sl 4 LB)), (12, .d (.v (.int .i64 b.length))), (13, .d (.v (.int .i64 i)))], []⟩) (fun i => a.length - i) (fun i => i ≤ a.length ∧ a.take i = b.take i) (fun _ => some [.v (.bool (decide (a = b)))]) 0 [0, 1, 12, 13] (by simp [kp16]) ⟨Nat.zero_le _, rfl⟩ (by omega) (by simp) ?_
    rintro i κ' ⟨hi, hpre⟩ hn he hr
    have hw : IntKind.i64.wrap ((i : Int) + 1) = (i : Int) + 1 := wrap_i64 (by omega) (by omega)
    by_cases hil : i < a.length
    · have hil2 : i < b.length := by omega
      have hil' : (i : Int) < a.length := by omega
      have hil2' : (i : Int) < b.length := by omega
      have hg := hA i hil
      have hg2 := hB i hil2
      have hx : a[i] = b[i] → a.take (i + 1) = b.take (i + 1) := take_eq_succ hil hil2 hpre
      have hy : a[i] ≠ b[i] → decide (a = b) = false := fun h => by
        rw [decide_eq_false_iff_not]
        intro e
        subst e
        exact h rfl
      have hc := pcEq a[i] b[i]
      generalize a[i] = x at *
      generalize b[i] = y at *
      by_cases hxy : x = y
      · subst hxy
        obtain ⟨k, t, f, u⟩ := x
        simp only [encP] at hg hg2
        have hg6 := (List.getElem?_eq_some_iff.1 hg).2
        have hg26 := (List.getElem?_eq_some_iff.1 hg2).2
        simp [hAl, hBl, hil, hil', hil2, hil2', hg, hg6, hg2, hg26, hw, fr16]
        exact hn (i + 1) _ ⟨by omega, hx rfl⟩ (by omega) (by simp)
      · have hd := hy hxy
        rw [decide_eq_false hxy] at hc
        obtain ⟨k, t, f, u⟩ := x
        obtain ⟨k2, t2, f2, u2⟩ := y
        simp only [encP] at hg hg2
        simp only at hc
        have hg6 := (List.getElem?_eq_some_iff.1 hg).2
        have hg26 := (List.getElem?_eq_some_iff.1 hg2).2
        rw [hd]
        simp [hAl, hBl, hil, hil', hil2, hil2', hg, hg6, hg2, hg26, hw, hc, hr, fr16]
    · obtain rfl : i = a.length := by omega
      have heq : a = b := by
        rw [List.take_length, hll, List.take_length] at hpre
        exact hpre
      simp [he, heq, hll]
  · have hll' : ((a.length : Int) != b.length) = true := by rw [bne_iff_ne]; omega
    have hne : a ≠ b := fun e => hll (by rw [e])
    simp [Tryd.f16, hAl, hBl, hll', hne]
/-! ### lists of words -/
noncomputable def FLWord : List D → Option (List D) := liftG (fun w : List Pc => w.length ≤ 4294967000) (fun w => [encW w]) fun w => some [encW w]
theorem encP_inj : ∀ a b, encP a = encP b → a = b := by
  rintro ⟨k, t, f, u⟩ ⟨k2, t2, f2, u2⟩ h
  simp only [encP, D.st.injEq, List.cons.injEq, D.s.injEq, D.v.injEq, Value.int.injEq, true_and, and_true, Int.ofNat_inj] at h
  obtain ⟨h, rfl, rfl, rfl⟩ := h
  obtain rfl : k = k2 := by omega
  rfl
theorem encW_inj : ∀ a b, encW a = encW b → a = b := fun a b h => by
  simp only [encW, D.sl.injEq, true_and] at h
  exact map_inj encP_inj a b h
theorem FLWord_at (w : List Pc) (h : w.length ≤ 4294967000) : FLWord [encW w] = some [encW w] :=
  liftG_enc (good := fun w : List Pc => w.length ≤ 4294967000) (enc := fun w => [encW w]) (f := fun w => some [encW w]) (fun a b _ _ h => by
    simp only [List.cons.injEq, and_true] at h
    rw [h]) w h
noncomputable def FEqual : List D → Option (List D) := liftG (fun x : List Pc × List Pc => x.1.length ≤ 4294967000) (fun x => [encW x.1, encW x.2]) fun x => some [.v (.bool (decide (x.1 = x.2)))]
theorem FEqual_at (a b : List Pc) (h : a.length ≤ 4294967000) : FEqual [encW a, encW b] = some [.v (.bool (decide (a = b)))] :=
  liftG_enc (good := fun x : List Pc × List Pc => x.1.length ≤ 4294967000) (enc := fun x => [encW x.1, encW x.2]) (f := fun x => some [.v (.bool (decide (x.1 = x.2)))]) (fun x y _ _ h => by
    simp only [List.cons.injEq, and_true] at h
    rw [encW_inj _ _ h.1, encW_inj _ _ h.2]) (a, b) h
noncomputable def EQw : Abs := ext (fun _ _ => none) 16 FEqual
theorem EQw_ok : ∀ f, Pure Tryd.prog (mkCtx tab glob) f (EQw f) := by
  refine ext_ok none_ok ?_
  refine pure_of (T_ok glob) none_ok Tryd.func16 (by kernel_rfl) (kp := kp16) (fr := fr16) (by kernel_rfl) fun ds rs hF => ?_
  obtain ⟨⟨a, b⟩, hw, rfl, h⟩ := liftG_some hF
  cases h
  exact ⟨_, evEqual _ a b hw⟩
/-- Words that a program can hold. -/
def okW (ws : List (List Pc)) : Prop := ws.length ≤ 4294967000 ∧ ∀ w ∈ ws, w.length ≤ 4294967000
set_option maxHeartbeats 4000000 in
/-- slices.EqualFunc -/
theorem evEqualFunc (a b : List (List Pc)) (hl : okW a) : fnK (mkCtx tab glob) EQw kp15 fr15 (a.length + 1) Tryd.f15 [.sl 1 (a.map encW), .sl 1 (b.map encW), .fn (.func 16) [] []] = some [.v (.bool (decide (a = b)))] := by
  have hEQ : EQw 16 = FEqual := rfl
  have hA : ∀ i (h : i < a.length), (a.map encW)[i]? = some (encW a[i]) := fun i h => by simp [h]
  have hAl : (a.map encW).length = a.length := by simp
  have hB : ∀ i (h : i < b.length), (b.map encW)[i]? = some (encW b[i]) := fun i h => by simp [h]
  have hBl : (b.map encW).length = b.length := by simp
  have hl1 := hl.1
  generalize a.map encW = LA at *
  generalize b.map encW = LB at *
  by_cases hll : a.length = b.length
  · have hll' : (a.length : Int) = b.length := by omega
    simp [Tryd.f15, hAl, hBl, hll]
    refine loop_rule (R := List D) (σ := Nat) (fun i => ⟨slots 32 [(1, .d (.sl 1 LB)), (2, .d (.fn (.func 16) [] [])), (15, .d (.sl 1 LA)), (16, .d (.v (.int .i64 b.length))), (17, .d (.v (.int .i64 i)))], []⟩) (fun i => a.length - i) (fun i => i ≤ a.length ∧ a.take i = b.take i) (fun _ => some [.v (.bool (decide (a = b)))]) 0 [1, 2, 15, 16, 17] (by simp [kp15]) ⟨Nat.zero_le _, rfl⟩ (by omega) (by simp) ?_
    rintro i κ' ⟨hi, hpre⟩ hn he hr
    have hw : IntKind.i64.wrap ((i : Int) + 1) = (i : Int) + 1 := wrap_i64 (by omega) (by omega)
    by_cases hil : i < a.length
    · have hil2 : i < b.length := by omega
      have hil' : (i : Int) < a.length := by omega
      have hil2' : (i : Int) < b.length := by omega
      have hg := hA i hil
      have hg2 := hB i hil2
      have hx : a[i] = b[i] → a.take (i + 1) = b.take (i + 1) := take_eq_succ hil hil2 hpre
      have hy : a[i] ≠ b[i] → decide (a = b) = false := fun h => by
        rw [decide_eq_false_iff_not]
        intro e
        subst e
        exact h rfl
      have hF := FEqual_at a[i] b[i] (hl.2 _ (List.getElem_mem hil))
      generalize a[i] = x at *
      generalize b[i] = y at *
      have hg6 := (List.getElem?_eq_some_iff.1 hg).2
      have hg26 := (List.getElem?_eq_some_iff.1 hg2).2
      unfold encW at hg hg2 hg6 hg26 hF
      by_cases hxy : x = y
      · rw [decide_eq_true hxy] at hF
        simp [hAl, hBl, hil, hil', hil2, hil2', hg, hg6, hg2, hg26, hw, hEQ, hF]
        exact hn (i + 1) _ ⟨by omega, hx hxy⟩ (by omega) (by simp)
      · have hd := hy hxy
        rw [decide_eq_false hxy] at hF
        rw [hd]
        simp [hAl, hBl, hil, hil', hil2, hil2', hg, hg6, hg2, hg26, hw, hEQ, hF, hr]
    · obtain rfl : i = a.length := by omega
      have heq : a = b := by
        rw [List.take_length, hll, List.take_length] at hpre
        exact hpre
      simp [he, heq, hll]
  · have hll' : ((a.length : Int) != b.length) = true := by rw [bne_iff_ne]; omega
    have hne : a ≠ b := fun e => hll (by rw [e])
    simp [Tryd.f15, hAl, hBl, hll', hne]
end Go.Ab

set_option linter.unusedVariables false
set_option linter.unusedSimpArgs false
set_option maxRecDepth 100000
namespace Go.Ab
open Go.Proofs
variable {glob : Nat → Option (List D)} {p : Nat → Addr} {o : Nat → Obj}

theorem wl_inj : ∀ a b : List (List Pc), (D.sl 1 (a.map encW)) = D.sl 1 (b.map encW) → a = b := fun a b h => by
  simp only [D.sl.injEq, true_and] at h
  exact map_inj encW_inj a b h
noncomputable def FLOf : List D → Option (List D) := liftG okW (fun ws => [.sl 1 (ws.map encW)]) fun ws => some [.sl 1 (ws.map encW)]
theorem FLOf_at (ws : List (List Pc)) (h : okW ws) : FLOf [.sl 1 (ws.map encW)] = some [.sl 1 (ws.map encW)] :=
  liftG_enc (good := okW) (enc := fun ws => [.sl 1 (ws.map encW)]) (f := fun ws => some [.sl 1 (ws.map encW)]) (fun a b _ _ h => by
    simp only [List.cons.injEq, and_true] at h
    rw [h]) ws h
noncomputable def FEqF : List D → Option (List D) := liftG (fun x : List (List Pc) × List (List Pc) => okW x.1) (fun x => [.sl 1 (x.1.map encW), .sl 1 (x.2.map encW), .fn (.func 16) [] []]) fun x => some [.v (.bool (decide (x.1 = x.2)))]
theorem FEqF_at (a b : List (List Pc)) (h : okW a) : FEqF [.sl 1 (a.map encW), .sl 1 (b.map encW), .fn (.func 16) [] []] = some [.v (.bool (decide (a = b)))] :=
  liftG_enc (good := fun x : List (List Pc) × List (List Pc) => okW x.1) (enc := fun x => [.sl 1 (x.1.map encW), .sl 1 (x.2.map encW), .fn (.func 16) [] []]) (f := fun x => some [.v (.bool (decide (x.1 = x.2)))]) (fun x y _ _ h => by
    simp only [List.cons.injEq, and_true] at h
    rw [wl_inj _ _ h.1, wl_inj _ _ h.2]) (a, b) h
noncomputable def FSm : List D → Option (List D) := liftG (fun x : List (List Pc) × List (List Pc) => okW x.1) (fun x => [.sl 1 (x.1.map encW), .sl 1 (x.2.map encW)]) fun x => some [.v (.bool (decide (x.1 = x.2)))]
theorem FSm_at (a b : List (List Pc)) (h : okW a) : FSm [.sl 1 (a.map encW), .sl 1 (b.map encW)] = some [.v (.bool (decide (a = b)))] :=
  liftG_enc (good := fun x : List (List Pc) × List (List Pc) => okW x.1) (enc := fun x => [.sl 1 (x.1.map encW), .sl 1 (x.2.map encW)]) (f := fun x => some [.v (.bool (decide (x.1 = x.2)))]) (fun x y _ _ h => by
    simp only [List.cons.injEq, and_true] at h
    rw [wl_inj _ _ h.1, wl_inj _ _ h.2]) (a, b) h
noncomputable def EFq : Abs := ext (fun _ _ => none) 15 FEqF
theorem EFq_ok : ∀ f, Pure Tryd.prog (mkCtx tab glob) f (EFq f) := by
  refine ext_ok none_ok ?_
  refine pure_of (T_ok glob) EQw_ok Tryd.func15 (by kernel_rfl) (kp := kp15) (fr := fr15) (by kernel_rfl) fun ds rs hF => ?_
  obtain ⟨⟨a, b⟩, hw, rfl, h⟩ := liftG_some hF
  cases h
  exact ⟨_, evEqualFunc a b hw⟩
/-- lex.Same -/
theorem evLSame (a b : List (List Pc)) (hl : okW a) : fnK (mkCtx tab glob) EFq kp9 fr9 0 Tryd.f9 [.sl 1 (a.map encW), .sl 1 (b.map encW)] = some [.v (.bool (decide (a = b)))] := by
  have hE : EFq 15 = FEqF := rfl
  have hF := FEqF_at a b hl
  generalize decide (a = b) = c at *
  simp [Tryd.f9, hE, hF]
/-- A statement for a statement. -/
def smEq (a b : Sm) : Bool := ((a.kind : Int) == b.kind) && (a.line == b.line) && (a.name == b.name) && ((a.flags : Int) == b.flags) && (a.prog == b.prog) && (a.recipe == b.recipe) && (a.hidden == b.hidden) && (a.command == b.command) && decide (a.heads = b.heads) && decide (a.words = b.words)
theorem smEq_refl (a : Sm) : smEq a a = true := by simp [smEq]
noncomputable def ELS : Abs := ext (fun _ _ => none) 9 FSm
end Go.Ab
