/- One text of a proof that a law of this seat says true for every input: words, pieces and statements. It holds of the given program under the conditions that the row prints. -/
import Derived.Test.YtaiklcijiajkaaaDoorLx26
import Derived.Test.YtaiklcijiajkaaaDoorLy2
set_option linter.unusedVariables false
set_option linter.unusedSimpArgs false
set_option maxRecDepth 100000
namespace Go.Ab
open Go.Proofs
variable {glob : Nat → Option (List D)} {p : Nat → Addr} {o : Nat → Obj}

noncomputable def EAl (p : Nat → Addr) (o : Nat → Obj) : Abs := ext (ext (ext (fun _ _ => none) 4 FAl) 5 (FOf p o)) 6 FSE
theorem EAl_ok {m : Int} (hs : Sents glob p o) (h20 : glob 5 = some [.v (.int .i64 m)]) : ∀ f, Pure Tryd.prog (mkCtx tab glob) f (EAl p o f) :=
  ext_ok (ext_ok (ext_ok none_ok (FAl_ok h20)) (FOf_ok h20 hs)) SSE_ok
/-- The numbers ahead of each. -/
theorem rises_at : ∀ (l : List Int) (m : Int), rises m l → ∃ ln : Nat → Int, ln 0 = m ∧ ∀ i (h : i < l.length), ln i < l[i] ∧ ln (i + 1) = l[i]
  | [], m, _ => ⟨fun _ => m, rfl, fun i h => absurd h (Nat.not_lt_zero i)⟩
  | x :: l, m, h => by
    obtain ⟨ln, h1, h2⟩ := rises_at l x h.2
    refine ⟨fun i => match i with | 0 => m | i + 1 => ln i, rfl, fun i hi => ?_⟩
    cases i with
    | zero => exact ⟨h.1, h1⟩
    | succ i => exact h2 i (by simpa using hi)
theorem smEq_self (x : Sm) : smEq x x = true := by simp [smEq]
set_option maxHeartbeats 16000000 in
/-- StmtAlone says true. -/
theorem evAlone (M : Nat) (hM : 4294967010 < M) (ahead text : List UInt8) : fnK (mkCtx tab glob) (EAl p o) kp3 fr3 M Tryd.f3 [.s ahead, .s text] = some [.v (.bool true)] := by
  have hE4 : EAl p o 4 = FAl := rfl
  have hE5 : EAl p o 5 = FOf p o := rfl
  have hE6 : EAl p o 6 = FSE := rfl
  have hA : FAl [] = some [.v (.bool true)] := rfl
  by_cases h8 : 800 < ahead.length
  · have h8' : (800 : Int) < ahead.length := by omega
    simp [Tryd.f3, hE4, hA, h8']
  have h8' : ¬ (800 : Int) < ahead.length := by omega
  by_cases h3 : 300 < text.length
  · have h3' : (300 : Int) < text.length := by omega
    simp [Tryd.f3, hE4, hA, h8', h3']
  have h3' : ¬ (300 : Int) < text.length := by omega
  simp [Tryd.f3, hE4, hA, h8', h3']
  refine loop_rule (R := List D) (σ := Nat) (fun i => ⟨slots 145 [(0, .d (.s ahead)), (1, .d (.s text)), (5, .d (.v (.int .i64 i)))], []⟩) (fun i => text.length - i) (fun i => i ≤ text.length ∧ (10 : UInt8) ∉ text.take i) (fun _ => some [.v (.bool true)]) 0 [0, 1, 5] (by simp [kp3]) ⟨Nat.zero_le _, by simp⟩ (by omega) (by simp) ?_
  rintro i κ' ⟨hi, h10⟩ hn he hr
  have hw : IntKind.i64.wrap ((i : Int) + 1) = (i : Int) + 1 := wrap_i64 (by omega) (by omega)
  by_cases hil : i < text.length
  · have hil' : (i : Int) < text.length := by omega
    have hg : text[i]? = some text[i] := by simp [hil]
    have ht : text.take (i + 1) = text.take i ++ [text[i]] := List.take_succ_eq_append_getElem hil
    generalize text[i] = x at *
    have hg6 := (List.getElem?_eq_some_iff.1 hg).2
    by_cases hx : x = 10
    · subst hx
      simp [hil, hil', hg, hg6, hr]
    · have hx' : ((x.toNat : Int) == 10) = false := by
        rw [beq_eq_false_iff_ne]
        intro e
        exact hx (UInt8.toNat_inj.1 (by simpa using (by omega : x.toNat = 10)))
      by_cases hy : x = 92
      · subst hy
        simp [hil, hil', hg, hg6, hr]
      · have hy' : ((x.toNat : Int) == 92) = false := by
          rw [beq_eq_false_iff_ne]
          intro e
          exact hy (UInt8.toNat_inj.1 (by simpa using (by omega : x.toNat = 92)))
        simp [hil, hil', hg, hg6, hx', hy', hw]
        refine hn (i + 1) _ ⟨by omega, ?_⟩ (by omega) (by simp)
        rw [ht, List.mem_append, not_or]
        exact ⟨h10, by simpa using Ne.symm hx⟩
  obtain rfl : i = text.length := by omega
  rw [List.take_length] at h10
  have hh : text = [] ∨ recp text = true ∨ (text ≠ [] ∧ recp text = false) := by
    cases text with
    | nil => exact .inl rfl
    | cons b r => cases recp (b :: r) <;> simp
  rcases hh with rfl | hrc | ⟨hne, hrc⟩
  · simp [he]
  · cases text with
    | nil => simp [recp] at hrc
    | cons b r =>
      have : b = 32 ∨ b = 9 := by simpa [recp] using hrc
      have hlen : ((r.length : Int) + 1 == 0) = false := by rw [beq_eq_false_iff_ne]; omega
      rcases this with rfl | rfl <;> simp [he, hlen]
  have hO1 : FOf p o [.s (ahead ++ [10, 10])] = some (parseD p o (pOf (ahead ++ [10, 10]))) := by
    simp only [FOf]
    rw [if_pos (by simp; omega)]
  have hO2 : FOf p o [.s text] = some (parseD p o (pOf text)) := by
    simp only [FOf]
    rw [if_pos (by omega)]
  have hO3 : FOf p o [.s (ahead ++ [10, 10] ++ text)] = some (parseD p o (pOf (ahead ++ [10, 10] ++ text))) := by
    simp only [FOf]
    rw [if_pos (by simp; omega)]
  have hk1 := pOf_okR (ahead ++ [10, 10])
  have hk2 := pOf_okR text
  have hlaw := alone_law ahead text (by omega) (by omega) h10 hne hrc
  have hlim1 : ahead.length + 2 ≤ lim := by unfold lim; omega
  have hlim2 : ahead.length + (text.length + 2) ≤ lim := by unfold lim; omega
  obtain ⟨b0, r0, rfl⟩ : ∃ b0 r0, text = b0 :: r0 := by
    cases text with
    | nil => exact absurd rfl hne
    | cons b r => exact ⟨b, r, rfl⟩
  have hb32 : ((b0.toNat : Int) == 32) = false := by
    rw [beq_eq_false_iff_ne]
    intro e
    have : b0 = 32 := UInt8.toNat_inj.1 (by simpa using (by omega : b0.toNat = 32))
    simp [recp, this] at hrc
  have hb9 : ((b0.toNat : Int) == 9) = false := by
    rw [beq_eq_false_iff_ne]
    intro e
    have : b0 = 9 := UInt8.toNat_inj.1 (by simpa using (by omega : b0.toNat = 9))
    simp [recp, this] at hrc
  have hlen : ((r0.length : Int) + 1 == 0) = false := by rw [beq_eq_false_iff_ne]; omega
  have hlim3 : ahead.length + 2 + (r0.length + 1) ≤ lim := by
    simp only [List.length_cons] at h3
    unfold lim
    omega
  generalize e1 : pOf (ahead ++ [10, 10]) = r1 at *
  generalize e2 : pOf (b0 :: r0) = r2 at *
  cases r1 with
  | inr en =>
    obtain ⟨e, n⟩ := en
    simp only [parseD] at hO1
    cases r2 with
    | inr en2 =>
      obtain ⟨e', n'⟩ := en2
      simp only [parseD] at hO2
      simp [he, hlen, hb32, hb9, hE5, hO1, hO2, hlim1]
    | inl b =>
      simp only [parseD] at hO2
      simp [he, hlen, hb32, hb9, hE5, hO1, hO2, hlim1]
  | inl a =>
    simp only [parseD] at hO1
    cases r2 with
    | inr en2 =>
      obtain ⟨e', n'⟩ := en2
      simp only [parseD] at hO2
      simp [he, hlen, hb32, hb9, hE5, hO1, hO2, hlim1]
    | inl b =>
      simp only [parseD] at hO2
      obtain ⟨hr1, hcase⟩ := hlaw a b rfl rfl
      obtain ⟨hla, hoka⟩ := hk1
      have hA : ∀ i (h : i < a.length), (a.map encS)[i]? = some (encS a[i]) := fun i h => by simp [h]
      have hAl : (a.map encS).length = a.length := by simp
      have hz : IntKind.i64.wrap (a.length : Int) = a.length := wrap_i64 (by omega) (by omega)
      have hz1 : IntKind.i64.wrap ((a.length : Int) + 1) = (a.length : Int) + 1 := wrap_i64 (by omega) (by omega)
      rcases hcase with ⟨rfl, hpc⟩ | ⟨s, n, rfl, hpc, hn0, hlt⟩
      · rw [hpc] at hO3
        simp only [parseD, List.append_assoc, List.cons_append, List.nil_append] at hO3
        obtain ⟨ln, hl0, hl1⟩ := rises_at _ _ hr1
        have hl2 : ∀ i (h : i < a.length), ln i < a[i].line ∧ ln (i + 1) = a[i].line := fun i h => by
          have := hl1 i (by rw [List.length_map]; exact h)
          rw [List.getElem_map] at this
          exact this
        generalize a.map encS = A at *
        simp [he, hlen, hb32, hb9, hE5, hO1, hO2, hO3, hlim1, hlim3, hAl, hz]
        refine loop_rule (R := List D) (σ := Nat) (fun i => ⟨slots 145 [(6, .d (.sl 10 A)), (8, .d (.sl 10 [])), (12, .d (.v (.int .i64 (ln i)))), (103, .d (.sl 10 A)), (104, .d (.v (.int .i64 a.length))), (105, .d (.v (.int .i64 i)))], []⟩) (fun i => a.length - i) (fun i => i ≤ a.length) (fun _ => some [.v (.bool true)]) 0 [6, 8, 12, 103, 104, 105] (by simp [kp3]) (Nat.zero_le _) (by omega) (by simp [hl0]) ?_
        intro i κ2 hi2 hn2 he2 hr2
        have hw : IntKind.i64.wrap ((i : Int) + 1) = (i : Int) + 1 := wrap_i64 (by omega) (by omega)
        by_cases hil : i < a.length
        · have hil' : (i : Int) < a.length := by omega
          have hxa := hA i hil
          have hQ := FSE_at a[i] a[i] (hoka _ (List.getElem_mem hil))
          rw [smEq_self] at hQ
          obtain ⟨hq1, hq2⟩ := hl2 i hil
          have hxa6 := (List.getElem?_eq_some_iff.1 hxa).2
          generalize a[i] = x at *
          have hq1' : ¬ x.line ≤ ln i := by omega
          simp only [encS, smC] at hxa hxa6 hQ
          have hil4 : ¬ (a.length : Int) ≤ i := by omega
          simp [hAl, hil, hil', hil4, hxa, hxa6, hq1', hE6, hQ, hw, fr3]
          exact hn2 (i + 1) _ (by omega) (by omega) (by simp [hq2])
        · obtain rfl : i = a.length := by omega
          simp [he2]
      · rw [hpc] at hO3
        simp only [parseD, List.append_assoc, List.cons_append, List.nil_append] at hO3
        have hoks : s.ok := hk2.2 s (by simp)
        obtain ⟨ln, hl0, hl1⟩ := rises_at ((a ++ [{ s with line := n }]).map Sm.line) 0 (by
          rw [List.map_append]
          exact rises_snoc _ _ _ hr1 hlt hn0)
        have hl2 : ∀ i (h : i < a.length), ln i < a[i].line ∧ ln (i + 1) = a[i].line := fun i h => by
          have := hl1 i (by simp; omega)
          simpa [List.getElem_append, h] using this
        have hl3 : ln a.length < n := by
          have := hl1 a.length (by simp)
          simpa using this.1
        have hC1 : ∀ i (h : i < a.length), ((a ++ [{ s with line := n }]).map encS)[i]? = some (encS a[i]) := fun i h => by
          rw [List.map_append, List.getElem?_append_left (by simpa using h)]
          exact hA i h
        have hC2 : ((a ++ [{ s with line := n }]).map encS)[a.length]? = some (encS { s with line := n }) := by
          rw [List.map_append, List.getElem?_append_right (by simp)]
          simp
        have hCl : ((a ++ [{ s with line := n }]).map encS).length = a.length + 1 := by simp
        have hQ0 := FSE_at s s hoks
        rw [smEq_self] at hQ0
        generalize (a ++ [{ s with line := n }]).map encS = C at *
        generalize a.map encS = A at *
        have hne1 : (((a.length : Int) + 1) != (a.length : Int) + 1) = false := by simp
        simp only [List.map_cons, List.map_nil, encS, smC] at hO2 hC2 hQ0
        have hC26 := (List.getElem?_eq_some_iff.1 hC2).2
        simp [he, hlen, hb32, hb9, hE5, hO1, hO2, hO3, hlim1, hlim3, hAl, hz1, hCl]
        refine loop_rule (R := List D) (σ := Nat) (fun i => ⟨slots 145 [(6, .d (.sl 10 A)), (8, .d (.sl 10 [.st [.v (.int .i64 s.kind), .v (.int .i64 s.line), .s s.name, .sl 1 (s.heads.map encW), .sl 1 (s.words.map encW), .v (.int .i64 s.flags), .s s.prog, .s s.recipe, .v (.bool s.hidden), .v (.bool s.command)]])), (12, .d (.v (.int .i64 (ln i)))), (103, .d (.sl 10 C)), (104, .d (.v (.int .i64 ((a.length : Int) + 1)))), (105, .d (.v (.int .i64 i)))], []⟩) (fun i => a.length + 1 - i) (fun i => i ≤ a.length + 1) (fun _ => some [.v (.bool true)]) 0 [6, 8, 12, 103, 104, 105] (by simp [kp3]) (Nat.zero_le _) (by omega) (by simp [hl0]) ?_
        intro i κ2 hi2 hn2 he2 hr2
        have hw : IntKind.i64.wrap ((i : Int) + 1) = (i : Int) + 1 := wrap_i64 (by omega) (by omega)
        by_cases hil : i < a.length
        · have hil' : (i : Int) < a.length := by omega
          have hil2 : (i : Int) < (a.length : Int) + 1 := by omega
          have hil3 : i < a.length + 1 := by omega
          have hil4 : ¬ (a.length : Int) ≤ i := by omega
          have hxa := hA i hil
          have hxc := hC1 i hil
          have hQ := FSE_at a[i] a[i] (hoka _ (List.getElem_mem hil))
          rw [smEq_self] at hQ
          obtain ⟨hq1, hq2⟩ := hl2 i hil
          have hxa6 := (List.getElem?_eq_some_iff.1 hxa).2
          have hxc6 := (List.getElem?_eq_some_iff.1 hxc).2
          generalize a[i] = x at *
          have hq1' : ¬ x.line ≤ ln i := by omega
          simp only [encS, smC] at hxa hxa6 hxc hxc6 hQ
          simp [hAl, hCl, hil, hil', hil2, hil3, hil4, hxa, hxa6, hxc, hxc6, hq1', hE6, hQ, hw, fr3]
          exact hn2 (i + 1) _ (by omega) (by omega) (by simp [hq2])
        · by_cases hie : i = a.length
          · subst hie
            have hq1' : ¬ n ≤ ln a.length := by omega
            have hil2 : (a.length : Int) < (a.length : Int) + 1 := by omega
            have hln : ln (a.length + 1) = n := by
              have := hl1 a.length (by simp)
              simpa using this.2
            simp [hAl, hCl, hil2, hC2, hC26, hq1', hE6, hQ0, hw, fr3]
            exact hn2 (a.length + 1) _ (by omega) (by omega) (by simp [hln])
          · obtain rfl : i = a.length + 1 := by omega
            have hil2 : ¬ (a.length : Int) + 1 < (a.length : Int) + 1 := by omega
            simp [he2]
end Go.Ab
