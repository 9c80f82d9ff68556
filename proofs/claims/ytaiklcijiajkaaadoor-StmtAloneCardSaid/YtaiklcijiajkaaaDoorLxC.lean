/- One text of a proof that a law of this seat says true for every input: words, pieces and statements. It holds of the given program under the conditions that the row prints. -/
import Derived.Test.YtaiklcijiajkaaaDoorLxB
set_option linter.unusedVariables false
set_option linter.unusedSimpArgs false
set_option maxRecDepth 100000
namespace Go.Ab
open Go.Proofs
variable {glob : Nat → Option (List D)} {p : Nat → Addr} {o : Nat → Obj}

theorem qlp_eq (s : List UInt8) (i : Nat) : qlp s i = qloop s i := by
  induction i using qlp.induct (s := s) with
  | case1 i h hc ih =>
    unfold qlp qloop
    rw [dif_pos h, dif_pos h, if_pos hc, if_pos hc, ih]
  | case2 i h hc hd ih =>
    unfold qlp qloop
    rw [dif_pos h, dif_pos h, if_neg hc, if_neg hc, if_pos hd, if_pos hd, ih]
  | case3 i h hc hd =>
    unfold qlp qloop
    rw [dif_pos h, dif_pos h, if_neg hc, if_neg hc, if_neg hd, if_neg hd]
  | case4 i h =>
    unfold qlp qloop
    rw [dif_neg h, dif_neg h]
theorem atB_eq (s : List UInt8) (a : Nat) (b : UInt8) : atB s a (b.toNat : Int) = decide (s[a]? = some b) := by
  unfold atB
  cases s[a]? with
  | none => simp
  | some c =>
    rw [Bool.eq_iff_iff]
    simp only [beq_iff_eq, decide_eq_true_eq, Option.some.injEq]
    constructor
    · intro h
      exact UInt8.toNat_inj.1 (by omega)
    · rintro rfl
      rfl
theorem atB_123 (s : List UInt8) (a : Nat) : atB s a 123 = decide (s[a]? = some 123) := atB_eq s a 123
theorem atB_58 (s : List UInt8) (a : Nat) : atB s a 58 = decide (s[a]? = some 58) := atB_eq s a 58
theorem atB_61 (s : List UInt8) (a : Nat) : atB s a 61 = decide (s[a]? = some 61) := atB_eq s a 61
theorem atB_125 (s : List UInt8) (a : Nat) : atB s a 125 = decide (s[a]? = some 125) := atB_eq s a 125
/-- A piece, as a frame holds it, and as data. -/
def encA (x : Pc) : AV := .agg [.d (.v (.int .i64 x.k)), .d (.s x.t), .d (.s x.f), .d (.s x.o)]
def encP (x : Pc) : D := .st [.v (.int .i64 x.k), .s x.t, .s x.f, .s x.o]
/-- An error's datum by its number; 0: none. -/
def erD (p : Nat → Addr) (o : Nat → Obj) (k : Nat) : D := if k = 0 then .v .nilIface else sentD p o k
/-- What a method that takes a piece does. -/
def fPc (p : Nat → Addr) (o : Nat → Obj) (ok : List UInt8 → Nat → Bool) (f : List UInt8 → Nat → Pc × Nat × Nat) (s : List UInt8) (a : Nat) (e : D) : List AV → Option (List AV × Nat × D)
  | [] => match e with
    | .v .nilIface => if ok s a = true then some ([encA (f s a).1], (f s a).2.1, erD p o (f s a).2.2) else none
    | _ => none
  | _ => none
noncomputable def M3s (p : Nat → Addr) (o : Nat → Obj) : MAbs := M3 (sentD p o 3) (sentD p o 4)
section
variable (hs : Sents glob p o)
include hs
theorem gl3 : glob 1 = some [.ifc 121 (.at (p 3) (o 3))] := hs.glob 3 (by decide) (by decide) (by decide)
theorem gl4 : glob 3 = some [.ifc 121 (.at (p 4) (o 4))] := hs.glob 4 (by decide) (by decide) (by decide)
theorem gl5 : glob 2 = some [.ifc 121 (.at (p 5) (o 5))] := hs.glob 5 (by decide) (by decide) (by decide)
theorem M3s_ok {m : Int} (h20 : glob 5 = some [.v (.int .i64 m)]) : ∀ f, Turns Tryd.prog (mkCtx tab glob) f (M3s p o f) := M3_ok h20 (gl3 hs) (gl4 hs)
set_option maxHeartbeats 4000000 in
theorem evQuoted (s : List UInt8) (a : Nat) (hl : s.length < 4294967281) (ha : a ≤ s.length) (hq : s[a]? = some 39) :
    gnK (TL glob (M3s p o)) EG kp57 fr57 0 Tryd.f57 [.ref (0, 0) 0] [((0, 0), .box [.d (.s s), .d (.v (.int .i64 a)), .d (.v .nilIface)])] =
      some ([encA (pQuo (qlp s (a + 1)) s a).1], [((0, 0), .box [.d (.s s), .d (.v (.int .i64 (pQuo (qlp s (a + 1)) s a).2.1)), .d (erD p o (pQuo (qlp s (a + 1)) s a).2.2)])]) := by
  have h5 := gl5 hs
  have hE : F75 [.s s, .v (.int .i64 a)] = some [.v (.int .i64 (qend s a))] := by
    simp only [F75]
    rw [if_pos ⟨hl, by omega, by omega⟩]
    simp
  have hqe : qend s a = qlp s (a + 1) := by
    unfold qend
    rw [if_pos hq, qlp_eq]
  rw [hqe] at hE
  have hpair := qlp_pair s (a + 1)
  generalize qlp s (a + 1) = q at hE hpair ⊢
  by_cases hq0 : q < 0
  · have hF := GR_at fFail s a (.v .nilIface) [.d (.ifc 121 (.at (p 5) (o 5)))] hl ha
    simp only [fFail, isErr, if_true, failD] at hF
    simp [Tryd.f57, fr57, gfL, EG, M3s, M3, M2, M1, hE, hq0, hF, h5, pQuo, encA, Pc.z, erD, sentD]
  · obtain ⟨h1, h2, h3, h4⟩ := hpair.resolve_left hq0
    obtain ⟨q', rfl⟩ : ∃ q' : Nat, q = q' := ⟨q.toNat, by omega⟩
    have hw1 : IntKind.i64.wrap ((a : Int) + 1) = (a : Int) + 1 := wrap_i64 (by omega) (by omega)
    have hw2 : IntKind.i64.wrap ((q' : Int) - 1) = (q' : Int) - 1 := wrap_i64 (by omega) (by omega)
    have t1 : ((a : Int) + 1).toNat = a + 1 := by omega
    have t2 : ((q' : Int) - 1).toNat = q' - 1 := by omega
    have c0 : (0 : Int) ≤ (a : Int) + 1 := by omega
    have c1 : (a : Int) + 1 ≤ (q' : Int) - 1 := by omega
    have c2 : (q' : Int) - 1 ≤ s.length := by omega
    have hlen : (subs s (a + 1) (q' - 1)).length ≤ s.length := by rw [subs_len _ _ _ (by omega)]; omega
    have hR : F135 [.s ((s.take (q' - 1)).drop (a + 1)), .s [39, 39], .s [39]] = some [.s (Lib.replaceAll (subs s (a + 1) (q' - 1)) [39, 39] [39])] := by
      have hc := Lib.countB_le ⟨([39, 39] : List UInt8).toArray⟩ (by decide) (subs s (a + 1) (q' - 1)).length ⟨(subs s (a + 1) (q' - 1)).toArray⟩ (by simp [ByteArray.size])
      simp only [ByteArray.size, List.size_toArray] at hc
      show F135 [.s (subs s (a + 1) (q' - 1)), .s [39, 39], .s [39]] = _
      simp only [F135]
      rw [if_pos ⟨by omega, by simp, by simp only [List.length_cons, List.length_nil]; omega⟩]
    have c3 : ¬ (q' : Int) < 0 := by omega
    simp [Tryd.f57, fr57, gfL, EG, M3s, M3, M2, M1, hE, c3, hw1, hw2, t1, t2, c0, c1, c2, hR, pQuo, encA, erD]
end
end Go.Ab

set_option linter.unusedVariables false
set_option linter.unusedSimpArgs false
set_option maxRecDepth 100000
namespace Go.Ab
open Go.Proofs
variable {glob : Nat → Option (List D)} {p : Nat → Addr} {o : Nat → Obj}

theorem runIn (q : UInt8 → Bool) (s : List UInt8) (a : Nat) (h : a ≤ s.length) : a + runN q s a ≤ s.length := by
  have := runN_le q s a
  omega
theorem tks_le (s : List UInt8) (b : UInt8) (st : Nat × Nat) (h : st.1 ≤ s.length) : (tks s b st).1 ≤ s.length := by
  unfold tks
  split
  · rename_i h1
    have := (List.getElem?_eq_some_iff.1 h1).1
    simp only
    omega
  · exact h
/-- What 'takes' does, by the plain function. -/
theorem takesE (s : List UInt8) (b : UInt8) (n : Int) (hn : atB s = fun a m => atB s a m) (a k : Nat) (hb : ∀ a, atB s a n = decide (s[a]? = some b)) (hl : s.length < 4294967281) (ha : a ≤ s.length) :
    GR (fTakes (sentD p o 3)) [.ref (0, 0) 0, .d (.v (.int .u8 n))] [((0, 0), .box [.d (.s s), .d (.v (.int .i64 a)), .d (erD p o k)])] =
      some ([], [((0, 0), .box [.d (.s s), .d (.v (.int .i64 (tks s b (a, k)).1)), .d (erD p o (tks s b (a, k)).2)])]) := by
  have hE : isErr (erD p o k) = true := by
    unfold erD
    split <;> rfl
  rw [GR_at _ s a _ _ hl ha]
  simp only [fTakes, hE, if_true, hb]
  unfold tks
  by_cases h : s[a]? = some b
  · simp [h]
  · simp only [h, decide_false, if_false, Bool.false_eq_true]
    unfold frst erD failD
    by_cases hk : k = 0
    · simp [hk]
    · simp [hk, sentD]
section
variable (hs : Sents glob p o)
include hs
set_option maxHeartbeats 8000000 in
theorem evVar (s : List UInt8) (a : Nat) (hl : s.length < 4294967281) (ha : a ≤ s.length) :
    gnK (TL glob (M3s p o)) EG kp58 fr58 0 Tryd.f58 [.ref (0, 0) 0] [((0, 0), .box [.d (.s s), .d (.v (.int .i64 a)), .d (.v .nilIface)])] =
      some ([encA (pVar s a).1], [((0, 0), .box [.d (.s s), .d (.v (.int .i64 (pVar s a).2.1)), .d (erD p o (pVar s a).2.2)])]) := by
  have _ := hs
  have hI := fun b (hb : b ≤ s.length) e n => GR_at fIs s b e [.d (.v (.int .u8 n))] hl hb
  simp only [fIs] at hI
  have hN := fun b (hb : b ≤ s.length) => GR_at (fName (sentD p o 4)) s b (.v .nilIface) [] hl hb
  simp only [fName, isErr, if_true] at hN
  have hP := fun b (hb : b ≤ s.length) e => GR_at fTake s b e [.d (.fn (.func 74) [] [])] hl hb
  simp only [fTake, show predOf 74 = some patB from rfl] at hP
  have hT1 := fun b k (hb : b ≤ s.length) => takesE (p := p) (o := o) s 125 125 rfl b k (fun a => atB_125 s a) hl hb
  have hT2 := fun b k (hb : b ≤ s.length) => takesE (p := p) (o := o) s 61 61 rfl b k (fun a => atB_61 s a) hl hb
  have hI1 := hI a ha (.v .nilIface) 123
  rw [atB_123] at hI1
  unfold pVar
  by_cases h1 : s[a]? = some 123
  · have hal := (List.getElem?_eq_some_iff.1 h1).1
    have hw1 : IntKind.i64.wrap ((a : Int) + 1) = ((a + 1 : Nat) : Int) := (wrap_i64 (by omega) (by omega)).trans (by omega)
    have hN1 := hN (a + 1) (by omega)
    have hb := runIn letB s (a + 1) (by omega)
    simp only [h1, decide_true] at hI1
    simp only [h1, if_true]
    generalize a + 1 = a1 at *
    generalize a1 + runN letB s a1 = b at *
    generalize subs s a1 b = t at *
    have hIb := fun e => hI b hb e 58
    simp only [atB_58] at hIb
    cases hn : namOk t with
    | false =>
      have hTb := hT1 b 4 hb
      simp only [hn, Bool.false_eq_true, if_false, failD] at hN1
      have e4 : erD p o 4 = .ifc 121 (.at (p 4) (o 4)) := rfl
      rw [e4] at hTb
      simp only [sentD] at hN1 hTb
      simp only [Bool.false_eq_true, if_false, show ¬ (4 = 0) from by decide, false_and]
      simp [Tryd.f58, fr58, gfL, EG, M3s, M3, M2, M1, hI1, hw1, hN1, hTb, encA, sentD]
    | true =>
      simp only [hn, if_true] at hN1
      simp only [if_true, true_and]
      have hIb := hIb (.v .nilIface)
      by_cases h2 : s[b]? = some 58
      · have hbl := (List.getElem?_eq_some_iff.1 h2).1
        have hw2 : IntKind.i64.wrap ((b : Int) + 1) = ((b + 1 : Nat) : Int) := (wrap_i64 (by omega) (by omega)).trans (by omega)
        have hP1 := hP (b + 1) (by omega) (.v .nilIface)
        have hc := runIn patB s (b + 1) (by omega)
        simp only [h2, decide_true] at hIb
        simp only [h2, if_true]
        generalize b + 1 = b1 at *
        generalize b1 + runN patB s b1 = c at *
        have hT3 := hT2 c 0 hc
        have hcl := tks_le s 61 (c, 0) hc
        have e0 : erD p o 0 = .v .nilIface := rfl
        rw [e0] at hT3
        generalize tks s 61 (c, 0) = st at *
        obtain ⟨d, k⟩ := st
        simp only at hT3 hcl ⊢
        have hP2 := hP d hcl (erD p o k)
        have hd := runIn patB s d hcl
        generalize d + runN patB s d = d2 at *
        have hT4 := hT1 d2 k hd
        generalize hx : erD p o k = x at *
        simp [Tryd.f58, fr58, gfL, EG, M3s, M3, M2, M1, hI1, hw1, hN1, hIb, hw2, hP1, hT3, hP2, hT4, encA]
      · simp only [h2, decide_false] at hIb
        simp only [h2, if_false]
        have hTb := hT1 b 0 hb
        have e0 : erD p o 0 = .v .nilIface := rfl
        rw [e0] at hTb
        simp [Tryd.f58, fr58, gfL, EG, M3s, M3, M2, M1, hI1, hw1, hN1, hIb, hTb, encA]
  · simp only [h1, decide_false] at hI1
    simp only [h1, if_false]
    have hN1 := hN a ha
    generalize a + runN letB s a = b at *
    generalize subs s a b = t at *
    cases hn : namOk t with
    | false =>
      simp only [hn, Bool.false_eq_true, if_false, failD, sentD] at hN1
      simp [Tryd.f58, fr58, gfL, EG, M3s, M3, M2, M1, hI1, hN1, encA, erD, sentD]
    | true =>
      simp only [hn, if_true] at hN1
      simp [Tryd.f58, fr58, gfL, EG, M3s, M3, M2, M1, hI1, hN1, encA, erD]
set_option maxHeartbeats 8000000 in
theorem evCmd (s : List UInt8) (a : Nat) (hl : s.length < 4294967281) (ha : a ≤ s.length) :
    gnK (TL glob (M3s p o)) EG kp59 fr59 0 Tryd.f59 [.ref (0, 0) 0] [((0, 0), .box [.d (.s s), .d (.v (.int .i64 a)), .d (.v .nilIface)])] =
      some ([encA (pCmd s a).1], [((0, 0), .box [.d (.s s), .d (.v (.int .i64 (pCmd s a).2.1)), .d (erD p o (pCmd s a).2.2)])]) := by
  have _ := hs
  have hP := fun b (hb : b ≤ s.length) e => GR_at fTake s b e [.d (.fn (.func 76) [] [])] hl hb
  simp only [fTake, show predOf 76 = some insB from rfl] at hP
  have hT1 := fun b k (hb : b ≤ s.length) => takesE (p := p) (o := o) s 125 125 rfl b k (fun a => atB_125 s a) hl hb
  have hT2 := takesE (p := p) (o := o) s 123 123 rfl a 0 (fun a => atB_123 s a) hl ha
  have e0 : erD p o 0 = .v .nilIface := rfl
  rw [e0] at hT2
  have hcl := tks_le s 123 (a, 0) ha
  unfold pCmd
  generalize tks s 123 (a, 0) = st at *
  obtain ⟨d, k⟩ := st
  simp only at hT2 hcl ⊢
  have hP2 := hP d hcl (erD p o k)
  have hd := runIn insB s d hcl
  generalize d + runN insB s d = d2 at *
  have hT4 := hT1 d2 k hd
  generalize hx : erD p o k = x at *
  simp [Tryd.f59, fr59, gfL, EG, M3s, M3, M2, M1, hT2, hP2, hT4, encA]
end
/-- The methods that take a piece, behind its first byte. -/
noncomputable def M4 (p : Nat → Addr) (o : Nat → Obj) : MAbs := gext (gext (gext (M3s p o) 57 (GR (fPc p o (fun s a => decide (s[a]? = some 39)) fun s a => pQuo (qlp s (a + 1)) s a))) 58 (GR (fPc p o (fun _ _ => true) pVar))) 59 (GR (fPc p o (fun _ _ => true) pCmd))
section
variable {m : Int} (h20 : glob 5 = some [.v (.int .i64 m)]) (hs : Sents glob p o)
include h20 hs
theorem M4_ok : ∀ f, Turns Tryd.prog (mkCtx tab glob) f (M4 p o f) := by
  have hM := M3s_ok hs h20
  have hT := TL_ok hM
  refine gext_ok (gext_ok (gext_ok hM ?_) ?_) ?_
  · refine GR_ok hT (EG_ok h20) (kp := kp57) (fr := fr57) Tryd.func57 (by kernel_rfl) (by kernel_rfl) fun s a e r rs a' e' hl ha h => ?_
    unfold fPc at h
    split at h
    · split at h
      · split at h
        · rename_i hq
          cases h
          exact ⟨0, evQuoted hs s a hl ha (by simpa using hq)⟩
        · simp at h
      · simp at h
    · simp at h
  · refine GR_ok hT (EG_ok h20) (kp := kp58) (fr := fr58) Tryd.func58 (by kernel_rfl) (by kernel_rfl) fun s a e r rs a' e' hl ha h => ?_
    unfold fPc at h
    split at h
    · split at h
      · split at h
        · cases h
          exact ⟨0, evVar hs s a hl ha⟩
        · simp at h
      · simp at h
    · simp at h
  · refine GR_ok hT (EG_ok h20) (kp := kp59) (fr := fr59) Tryd.func59 (by kernel_rfl) (by kernel_rfl) fun s a e r rs a' e' hl ha h => ?_
    unfold fPc at h
    split at h
    · split at h
      · split at h
        · cases h
          exact ⟨0, evCmd hs s a hl ha⟩
        · simp at h
      · simp at h
    · simp at h
end
section
variable (hs : Sents glob p o)
include hs
set_option maxHeartbeats 8000000 in
theorem evPiece (s : List UInt8) (a : Nat) (hl : s.length < 4294967281) (ha : a < s.length) :
    gnK (TL glob (M4 p o)) EG kp41 fr41 0 Tryd.f41 [.ref (0, 0) 0] [((0, 0), .box [.d (.s s), .d (.v (.int .i64 a)), .d (.v .nilIface)])] =
      some ([encA (pOne s a).1], [((0, 0), .box [.d (.s s), .d (.v (.int .i64 (pOne s a).2.1)), .d (erD p o (pOne s a).2.2)])]) := by
  have _ := hs
  have hQ := GR_at (fPc p o (fun s a => decide (s[a]? = some 39)) fun s a => pQuo (qlp s (a + 1)) s a) s a (.v .nilIface) [] hl (by omega)
  have hV := GR_at (fPc p o (fun _ _ => true) pVar) s (a + 1) (.v .nilIface) [] hl (by omega)
  have hC := GR_at (fPc p o (fun _ _ => true) pCmd) s (a + 1) (.v .nilIface) [] hl (by omega)
  have hP := GR_at fTake s a (.v .nilIface) [.d (.fn (.func 60) [] [])] hl (by omega)
  simp only [fTake, show predOf 60 = some plnB from rfl] at hP
  simp only [fPc, if_true] at hV hC hQ
  have hg : s[a]? = some s[a] := List.getElem?_eq_getElem ha
  have hw1 : IntKind.i64.wrap ((a : Int) + 1) = ((a + 1 : Nat) : Int) := (wrap_i64 (by omega) (by omega)).trans (by omega)
  unfold pOne
  by_cases h1 : s[a] = 39
  · have h1' : s[a]? = some 39 := by rw [hg, h1]
    simp only [h1', decide_true, if_true] at hQ ⊢
    simp [Tryd.f41, fr41, gfL, M4, ha, h1, hQ, encA]
  · have h1' : ¬ s[a]? = some 39 := by rw [hg]; simpa using h1
    simp only [h1', if_false]
    by_cases h2 : s[a] = 36
    · have h2' : s[a]? = some 36 := by rw [hg, h2]
      simp only [h2', if_true]
      generalize a + 1 = a1 at *
      simp [Tryd.f41, fr41, gfL, M4, ha, h1, h2, hw1, hV, encA]
    · have h2' : ¬ s[a]? = some 36 := by rw [hg]; simpa using h2
      simp only [h2', if_false]
      by_cases h3 : s[a] = 96
      · have h3' : s[a]? = some 96 := by rw [hg, h3]
        simp only [h3', if_true]
        generalize a + 1 = a1 at *
        simp [Tryd.f41, fr41, gfL, M4, ha, h1, h2, h3, hw1, hC, encA]
      · have h3' : ¬ s[a]? = some 96 := by rw [hg]; simpa using h3
        simp only [h3', if_false]
        unfold pPln
        generalize a + runN plnB s a = b at *
        generalize subs s a b = t at *
        simp [Tryd.f41, fr41, gfL, M4, M3s, M3, M2, ha, h1, h2, h3, hP, encA, erD]
end
end Go.Ab

set_option linter.unusedVariables false
set_option linter.unusedSimpArgs false
set_option maxRecDepth 100000
namespace Go.Ab
open Go.Proofs
variable {glob : Nat → Option (List D)} {p : Nat → Addr} {o : Nat → Obj}

noncomputable def M5 (p : Nat → Addr) (o : Nat → Obj) : MAbs := gext (M4 p o) 41 (GR (fPc p o (fun s a => decide (a < s.length)) pOne))
theorem M5_ok {m : Int} (h20 : glob 5 = some [.v (.int .i64 m)]) (hs : Sents glob p o) : ∀ f, Turns Tryd.prog (mkCtx tab glob) f (M5 p o f) := by
  have hM := M4_ok h20 hs
  refine gext_ok hM ?_
  refine GR_ok (TL_ok hM) (EG_ok h20) (kp := kp41) (fr := fr41) Tryd.func41 (by kernel_rfl) (by kernel_rfl) fun s a e r rs a' e' hl ha h => ?_
  unfold fPc at h
  split at h
  · split at h
    · split at h
      · rename_i hq
        cases h
        exact ⟨0, evPiece hs s a hl (by simpa using hq)⟩
      · simp at h
    · simp at h
  · simp at h
/-- A word's datum. -/
def encW (w : List Pc) : D := .sl 4 (w.map encP)
def wordsD (p : Nat → Addr) (o : Nat → Obj) : List (List Pc) ⊕ Nat → List D
  | .inl ws => [.sl 1 (ws.map encW), .v .nilIface]
  | .inr e => [.sl 1 [], erD p o e]
theorem take_at (g : FuncId) (q : UInt8 → Bool) (hg : predOf g = some q) (s : List UInt8) (a : Nat) (e : D) (hl : s.length < 4294967281) (ha : a ≤ s.length) :
    GR fTake [.ref (0, 0) 0, .d (.fn (.func g) [] [])] [((0, 0), .box [.d (.s s), .d (.v (.int .i64 a)), .d e])] = some ([.d (.s (subs s a (a + runN q s a)))], [((0, 0), .box [.d (.s s), .d (.v (.int .i64 (a + runN q s a : Nat))), .d e])]) := by
  rw [GR_at fTake s a e _ hl ha]
  simp only [fTake, hg]
theorem piece_at (s : List UInt8) (a : Nat) (hl : s.length < 4294967281) (ha : a < s.length) :
    GR (fPc p o (fun s a => decide (a < s.length)) pOne) [.ref (0, 0) 0] [((0, 0), .box [.d (.s s), .d (.v (.int .i64 a)), .d (.v .nilIface)])] = some ([encA (pOne s a).1], [((0, 0), .box [.d (.s s), .d (.v (.int .i64 (pOne s a).2.1)), .d (erD p o (pOne s a).2.2)])]) := by
  rw [GR_at _ s a _ _ hl (by omega)]
  simp [fPc, ha]
set_option maxHeartbeats 8000000 in
/-- lex.Words -/
theorem evWords (s : List UInt8) (hl : s.length < 4294967281) :
    fnK (TL glob (M5 p o)) EG kp25 fr25 (s.length + 2) Tryd.f25 [.s s] = some (wordsD p o (pWords s)) := by
  unfold pWords
  simp [Tryd.f25]
  refine loop_rule (R := List D) (σ := Nat × List (List Pc)) (fun x => ⟨slots 55 [(0, .d (.s s)), (4, .ref (1, 9) 0), (5, .own (1, 5))], [((1, 5), .tok 1 (x.2.map encW)), ((1, 9), .box [.d (.s s), .d (.v (.int .i64 x.1)), .d (.v .nilIface)])]⟩)
    (fun x => s.length - x.1) (fun x => x.1 ≤ s.length ∧ x.2.length ≤ x.1) (fun x => some (wordsD p o (pOut s x.1 x.2))) (0, []) [0, 4, 5] (by simp [kp25]) ⟨by simp, by simp⟩ (by simp) (by simp) ?_
  rintro ⟨a, out⟩ κ' ⟨ha, ho⟩ hn he hr
  simp only at ha ho
  have hB := take_at 40 blkB rfl s a (.v .nilIface) hl ha
  have hb := runIn blkB s a ha
  have hEB : EG 40 = FP blkB := rfl
  have hlim : out.length + 1 ≤ lim := by unfold lim; omega
  unfold pOut
  have hst : ∀ h : a + runN blkB s a < s.length, blkB s[a + runN blkB s a] = false := runN_stop blkB s _ a rfl
  have hab : a ≤ a + runN blkB s a := by omega
  generalize a + runN blkB s a = b at *
  by_cases hbl : b < s.length
  · have hbl' : ¬ (s.length : Int) ≤ b := by omega
    have hbl2 : ¬ s.length ≤ b := by omega
    rw [dif_pos hbl]
    simp [Tryd.f25, gfL, M5, M4, M3s, M3, M2, hB, hbl', hbl2]
    refine loop_rule (R := List D) (σ := Nat × List Pc) (fun x => ⟨slots 55 [(0, .d (.s s)), (4, .ref (1, 9) 0), (5, .own (1, 5)), (6, .own (1, 6))], [((1, 6), .tok 4 (x.2.map encP)), ((1, 5), .tok 1 (out.map encW)), ((1, 9), .box [.d (.s s), .d (.v (.int .i64 x.1)), .d (.v .nilIface)])]⟩)
      (fun x => s.length - x.1) (fun x => x.1 ≤ s.length ∧ x.2.length ≤ x.1 ∧ b ≤ x.1 ∧ (x.1 = b ∨ b < x.1)) (fun x => some (wordsD p o (match pIn s x.1 x.2 with | .inl (w, c) => if a < c then pOut s c (out ++ [w]) else .inr 99 | .inr e => .inr e))) (b, []) [0, 4, 5, 6] (by simp [kp25]) ⟨by simp; omega, by simp, by simp, by simp⟩ (by simp only; omega) (by simp) ?_
    rintro ⟨c, w⟩ κ2 ⟨hc, hw, hbc, hcb⟩ hn2 he2 hr2
    simp only at hc hw hbc hcb
    have hlw : w.length + 1 ≤ lim := by unfold lim; omega
    by_cases hcl : c < s.length
    · have hcl' : (c : Int) < s.length := by omega
      cases hbk : blkB s[c] with
      | true =>
        have hF := FP_at blkB s[c]
        rw [hbk] at hF
        have hpe : pIn s c w = .inl (w, c) := by
          unfold pIn
          rw [dif_pos hcl, if_pos hbk]
        have hac : a < c := by
          rcases hcb with rfl | h
          · rw [hst hcl] at hbk
            simp at hbk
          · omega
        simp [hpe, hac, hcl, hcl', hEB, hF, he2, hlim]
        exact hn (c, out ++ [w]) _ ⟨hc, by simp only [List.length_append, List.length_cons, List.length_nil]; omega⟩ (by simp only; omega) (by simp [encW])
      | false =>
        have hF := FP_at blkB s[c]
        rw [hbk] at hF
        have hg := pOne_gt s c hcl hbk
        have hP := piece_at (p := p) (o := o) s c hl hcl
        by_cases h0 : (pOne s c).2.2 = 0
        · have hgt := hg.resolve_left (by simpa using h0)
          have hpe : pIn s c w = pIn s (pOne s c).2.1 (w ++ [(pOne s c).1]) := by
            conv => lhs; unfold pIn
            rw [dif_pos hcl, if_neg (by rw [hbk]; simp), if_pos h0, dif_pos hgt.1]
          rw [hpe]
          generalize pOne s c = x at *
          obtain ⟨x1, x2, x3⟩ := x
          simp only at h0 hgt hP
          subst h0
          simp only [erD, if_true, encA] at hP
          simp [hcl, hcl', hEB, hF, gfL, M5, hP, hlw]
          exact hn2 (x2, w ++ [x1]) _ ⟨hgt.2, by simp only [List.length_append, List.length_cons, List.length_nil]; omega, by simp only; omega, by simp only; omega⟩ (by simp only; omega) (by simp [encP])
        · have hpe : pIn s c w = .inr (pOne s c).2.2 := by
            unfold pIn
            rw [dif_pos hcl, if_neg (by rw [hbk]; simp), if_neg h0]
          rw [hpe]
          generalize pOne s c = x at *
          obtain ⟨x1, x2, x3⟩ := x
          simp only at h0 hP
          simp only [erD, if_neg h0, encA, sentD] at hP
          simp [hcl, hcl', hEB, hF, gfL, M5, hP, hlw, fr25, hr2, hr, wordsD, erD, h0, sentD]
    · have hcl' : ¬ (c : Int) < s.length := by omega
      have hpe : pIn s c w = .inl (w, c) := by
        unfold pIn
        rw [dif_neg hcl]
      have hac : a < c := by omega
      simp [hpe, hac, hcl, hcl', he2, hlim]
      exact hn (c, out ++ [w]) _ ⟨hc, by simp only [List.length_append, List.length_cons, List.length_nil]; omega⟩ (by simp only; omega) (by simp [encW])
  · have hbl' : (s.length : Int) ≤ b := by omega
    have hbl2 : s.length ≤ b := by omega
    rw [dif_neg hbl]
    simp [Tryd.f25, gfL, M5, M4, M3s, M3, M2, hB, hbl', hbl2, hr, wordsD]
end Go.Ab
