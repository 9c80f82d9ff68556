/- One text of a proof that a law of this seat says true for every input: words, pieces and statements. It holds of the given program under the conditions that the row prints. -/
import Derived.Test.YtaiklcijiajkaaaGreatDoorLx21
import Derived.Test.YtaiklcijiajkaaaGreatDoorLxG
set_option linter.unusedVariables false
set_option linter.unusedSimpArgs false
set_option maxRecDepth 100000
namespace Go.Ab
open Go.Proofs
variable {glob : Nat → Option (List D)} {p : Nat → Addr} {o : Nat → Obj}

theorem LSm_ok : Pure Tryz.prog (mkCtx tab glob) 23 FSm := by
  refine pure_of (T_ok glob) EF_ok Tryz.func23 (by kernel_rfl) (kp := kp23) (fr := fr23) (by kernel_rfl) fun ds rs hF => ?_
  obtain ⟨⟨a, b⟩, hw, rfl, h⟩ := liftG_some hF
  cases h
  exact ⟨0, evLSame a b hw⟩
theorem ELS_ok : ∀ f, Pure Tryz.prog (mkCtx tab glob) f (ELS f) := ext_ok none_ok LSm_ok
theorem SSE_ok : Pure Tryz.prog (mkCtx tab glob) 12 FSE := by
  refine pure_of (T_ok glob) ELS_ok Tryz.func12 (by kernel_rfl) (kp := kp12) (fr := fr12) (by kernel_rfl) fun ds rs hF => ?_
  obtain ⟨⟨a, b⟩, hw, rfl, h⟩ := liftG_some hF
  cases h
  exact ⟨0, evSSame a b hw.1 hw.2⟩
/-- A kind's word. -/
def kindW (k : Int) : List UInt8 := if k = 1 then [97, 115, 115, 105, 103, 110] else if k = 2 then [114, 117, 108, 101] else if k = 3 then [105, 110, 99, 108, 117, 100, 101] else []
def FWord : List D → Option (List D)
  | [.v (.int .i64 k)] => some [.s (kindW k)]
  | _ => none
theorem FWord_ok : Pure Tryz.prog (mkCtx tab glob) 11 FWord := by
  refine pure_of (T_ok glob) none_ok Tryz.func11 (by kernel_rfl) (kp := kp11) (fr := fr11) (by kernel_rfl) fun ds rs hF => ?_
  unfold FWord at hF
  split at hF
  · rename_i k
    cases hF
    refine ⟨0, ?_⟩
    unfold kindW
    by_cases h1 : k = 1
    · simp [Tryz.f11, h1]
    · have h1' : (k == 1) = false := by simpa using h1
      by_cases h2 : k = 2
      · simp [Tryz.f11, h2]
      · have h2' : (k == 2) = false := by simpa using h2
        by_cases h3 : k = 3
        · simp [Tryz.f11, h3]
        · have h3' : (k == 3) = false := by simpa using h3
          simp [Tryz.f11, h1, h1', h2, h2', h3, h3']
  · simp at hF
noncomputable def ELn (p : Nat → Addr) (o : Nat → Obj) : Abs := ext (ext (ext (ext (ext (ext (ext (fun _ _ => none) 5 FAl) 9 (FParse p o)) 10 FRParse) 8 (FS19 p o)) 11 FWord) 12 FSE) 13 FSE
theorem ELn_ok {m : Int} (hs : Sents glob p o) (h20 : glob 19 = some [.v (.int .i64 m)]) (h19 : glob 3 = some [.ifc 142 (.st [.v (.pointer (some ⟨22, 25, none⟩))])]) : ∀ f, Pure Tryz.prog (mkCtx tab glob) f (ELn p o f) :=
  ext_ok (ext_ok (ext_ok (ext_ok (ext_ok (ext_ok (ext_ok none_ok (FAl_ok h20)) (FParse_ok h20 hs)) FRParse_ok) (FS19_ok hs h20 h19)) FWord_ok) SSE_ok) FSE_ok
set_option maxHeartbeats 32000000 in
/-- StmtLines says true. -/
theorem evLines (ls : List Li) (k : Int) : fnK (mkCtx tab glob) (ELn p o) kp4 fr4 1000 Tryz.f4 [.sl 3 (ls.map encLi), .v (.int .i64 k)] = some [.v (.bool true)] := by
  have hEA : ELn p o 5 = FAl := rfl
  have hEP : ELn p o 9 = FParse p o := rfl
  have hER : ELn p o 10 = FRParse := rfl
  have hES : ELn p o 8 = FS19 p o := rfl
  have hEW : ELn p o 11 = FWord := rfl
  have hE1 : ELn p o 12 = FSE := rfl
  have hE2 : ELn p o 13 = FSE := rfl
  have hA : FAl [] = some [.v (.bool true)] := rfl
  have hL : ∀ i (h : i < ls.length), (ls.map encLi)[i]? = some (encLi ls[i]) := fun i h => by simp [h]
  have hT : ∀ i (h : i < ls.length), (ls.map encLi).take (i + 1) = (ls.map encLi).take i ++ [encLi ls[i]] := fun i h => by
    rw [List.take_add_one, hL i h]
    rfl
  have hLl : (ls.map encLi).length = ls.length := by simp
  by_cases h40 : 40 < ls.length
  · have h40' : (40 : Int) < ls.length := by omega
    simp [Tryz.f4, fr4, hEA, hA, h40']
  have h40' : ¬ (40 : Int) < ls.length := by omega
  have hPar : (∀ l ∈ ls, l.text.length ≤ 400) → FParse p o [.sl 3 (ls.map encLi)] = some (parseD p o (pParse ls [] false)) ∧ FRParse [.sl 3 (ls.map encLi)] = some (rpD (pParse ls [] false)) ∧ okR (pParse ls [] false) ∧ (∀ out, pParse ls [] false = .inl out → out.length ≤ 40) := fun h => by
    have hb := bulk_le 400 ls h
    have hb2 : bulk ls ≤ 4294967000 := by omega
    have h6 : ∀ l ∈ ls, l.text.length ≤ 4294966000 := fun l hl => by have := h l hl; omega
    refine ⟨FParse_at ls (by omega) hb2, FRParse_at ls (by omega) hb2, pParse_okR ls (by omega) h6, fun out ho => ?_⟩
    have := (pParse_ok ls [] false h6 (fun s hs => by simp at hs) out ho).2
    simp at this
    omega
  have hWd : FWord [.v (.int .i64 k)] = some [.s (kindW k)] := rfl
  generalize pParse ls [] false = r at hPar
  generalize ls.map encLi = L at *
  simp [Tryz.f4, fr4, hEA, hA, hLl, h40']
  refine loop_rule (R := List D) (σ := Nat) (fun i => ⟨slots 103 [(0, .d (.sl 3 L)), (1, .d (.v (.int .i64 k))), (5, .own (1, 23)), (24, .d (.sl 3 L)), (25, .d (.v (.int .i64 ls.length))), (26, .d (.v (.int .i64 i)))], [((1, 23), .tok 3 (L.take i))]⟩) (fun i => ls.length - i) (fun i => i ≤ ls.length ∧ ∀ l ∈ ls.take i, l.text.length ≤ 400) (fun _ => some [.v (.bool true)]) 0 [0, 1, 5, 24, 25, 26] (by simp [kp4]) ⟨Nat.zero_le _, fun l hl => by simp at hl⟩ (by omega) (by simp [hLl]) ?_
  rintro i κ' ⟨hi, hsh⟩ hn he hr
  have hw : IntKind.i64.wrap ((i : Int) + 1) = (i : Int) + 1 := wrap_i64 (by omega) (by omega)
  by_cases hil : i < ls.length
  · have hil' : (i : Int) < ls.length := by omega
    have hmin : min i ls.length = i := by omega
    have hlim : i + 1 ≤ lim := by unfold lim; omega
    have hg := hL i hil
    have ht := hT i hil
    have htk := List.take_succ_eq_append_getElem hil
    generalize ls[i] = l at *
    obtain ⟨tx, nm, cl⟩ := l
    simp only [encLi] at hg ht
    have hg6 := (List.getElem?_eq_some_iff.1 hg).2
    by_cases h4 : 400 < tx.length
    · have h4' : (400 : Int) < tx.length := by omega
      simp [hLl, hil, hil', hg, hg6, h4', hr, fr4]
    · have h4' : ¬ (400 : Int) < tx.length := by omega
      simp [hLl, hil, hil', hg, hg6, h4', hmin, hlim, hw, fr4]
      refine hn (i + 1) _ ⟨by omega, fun l hl => ?_⟩ (by omega) (by simp [ht])
      rw [htk] at hl
      rcases List.mem_append.1 hl with hl | hl
      · exact hsh l hl
      · rw [List.mem_singleton] at hl
        subst hl
        simp only
        omega
  · obtain rfl : i = ls.length := by omega
    have htL : L.take ls.length = L := by rw [← hLl, List.take_length]
    rw [List.take_length] at hsh
    obtain ⟨hP, hR, hok, hout⟩ := hPar hsh
    have hS := FS19_at (p := p) (o := o) r hok
    have hk : k = 1 ∨ k = 2 ∨ k = 3 ∨ k < 1 ∨ 3 < k := by omega
    cases r with
    | inr en =>
      obtain ⟨e, n⟩ := en
      simp only [parseD, rpD, List.cons_append, List.nil_append] at hP hR hS
      have z0 : IntKind.i64.wrap 0 = 0 := by decide
      have z1 : IntKind.i64.wrap 1 = 1 := by decide
      have z2 : IntKind.i64.wrap 2 = 2 := by decide
      have w1 : FWord [.v (.int .i64 1)] = some [.s [97, 115, 115, 105, 103, 110]] := rfl
      have w2 : FWord [.v (.int .i64 2)] = some [.s [114, 117, 108, 101]] := rfl
      have w3 : FWord [.v (.int .i64 3)] = some [.s [105, 110, 99, 108, 117, 100, 101]] := rfl
      have w0 : (k < 1 ∨ 3 < k) → FWord [.v (.int .i64 k)] = some [.s []] := fun h => by
        simp only [FWord, kindW]
        rw [if_neg (by omega), if_neg (by omega), if_neg (by omega)]
      rcases hk with rfl | rfl | rfl | hk | hk
      · simp [he, htL, hEP, hP, hER, hR, hES, hS, hEW, z0, z1, z2, w1]
        refine ⟨rfl, ?_⟩
        refine loop_rule (R := List D) (σ := Unit) (fun _ => ⟨slots 103 [(8, .d (.sl 10 [])), (10, .d (.sl 10 [])), (74, .d (.sl 10 [])), (75, .d (.v (.int .i64 0))), (76, .d (.v (.int .i64 0)))], []⟩) (fun _ => 0) (fun _ => True) (fun _ => some [.v (.bool true)]) () [8, 10, 74, 75, 76] (by simp [kp4]) trivial (by omega) (by simp) ?_
        intro j κ2 hj hn2 he2 hr2
        simp [he2]
      · simp [he, htL, hEP, hP, hER, hR, hES, hS, hEW, z0, z1, z2, w2]
        refine ⟨rfl, ?_⟩
        refine loop_rule (R := List D) (σ := Unit) (fun _ => ⟨slots 103 [(8, .d (.sl 10 [])), (10, .d (.sl 10 [])), (74, .d (.sl 10 [])), (75, .d (.v (.int .i64 0))), (76, .d (.v (.int .i64 0)))], []⟩) (fun _ => 0) (fun _ => True) (fun _ => some [.v (.bool true)]) () [8, 10, 74, 75, 76] (by simp [kp4]) trivial (by omega) (by simp) ?_
        intro j κ2 hj hn2 he2 hr2
        simp [he2]
      · simp [he, htL, hEP, hP, hER, hR, hES, hS, hEW, z0, z1, z2, w3]
        refine ⟨rfl, ?_⟩
        refine loop_rule (R := List D) (σ := Unit) (fun _ => ⟨slots 103 [(8, .d (.sl 10 [])), (10, .d (.sl 10 [])), (74, .d (.sl 10 [])), (75, .d (.v (.int .i64 0))), (76, .d (.v (.int .i64 0)))], []⟩) (fun _ => 0) (fun _ => True) (fun _ => some [.v (.bool true)]) () [8, 10, 74, 75, 76] (by simp [kp4]) trivial (by omega) (by simp) ?_
        intro j κ2 hj hn2 he2 hr2
        simp [he2]
      · have hw0 := w0 (.inl hk)
        have hk' : ¬ (1 : Int) ≤ k := by omega
        simp [he, htL, hEP, hP, hER, hR, hES, hS, hEW, z0, z1, z2, hw0, hk']
        refine loop_rule (R := List D) (σ := Unit) (fun _ => ⟨slots 103 [(8, .d (.sl 10 [])), (10, .d (.sl 10 [])), (74, .d (.sl 10 [])), (75, .d (.v (.int .i64 0))), (76, .d (.v (.int .i64 0)))], []⟩) (fun _ => 0) (fun _ => True) (fun _ => some [.v (.bool true)]) () [8, 10, 74, 75, 76] (by simp [kp4]) trivial (by omega) (by simp) ?_
        intro j κ2 hj hn2 he2 hr2
        simp [he2]
      · have hw0 := w0 (.inr hk)
        have hk' : (1 : Int) ≤ k := by omega
        have hk2 : ¬ k ≤ 3 := by omega
        simp [he, htL, hEP, hP, hER, hR, hES, hS, hEW, z0, z1, z2, hw0, hk', hk2]
        refine loop_rule (R := List D) (σ := Unit) (fun _ => ⟨slots 103 [(8, .d (.sl 10 [])), (10, .d (.sl 10 [])), (74, .d (.sl 10 [])), (75, .d (.v (.int .i64 0))), (76, .d (.v (.int .i64 0)))], []⟩) (fun _ => 0) (fun _ => True) (fun _ => some [.v (.bool true)]) () [8, 10, 74, 75, 76] (by simp [kp4]) trivial (by omega) (by simp) ?_
        intro j κ2 hj hn2 he2 hr2
        simp [he2]
    | inl out =>
      have ho := hout out rfl
      obtain ⟨_, hoks⟩ := hok
      simp only [parseD, rpD, List.cons_append, List.nil_append] at hP hR hS
      have hX : ∀ i (h : i < out.length), (out.map encS)[i]? = some (encS out[i]) := fun i h => by simp [h]
      have hXl : (out.map encS).length = out.length := by simp
      generalize out.map encS = S at *
      have z0 : IntKind.i64.wrap 0 = 0 := by decide
      have z1 : IntKind.i64.wrap 1 = 1 := by decide
      have z2 : IntKind.i64.wrap 2 = 2 := by decide
      have w1 : FWord [.v (.int .i64 1)] = some [.s [97, 115, 115, 105, 103, 110]] := rfl
      have w2 : FWord [.v (.int .i64 2)] = some [.s [114, 117, 108, 101]] := rfl
      have w3 : FWord [.v (.int .i64 3)] = some [.s [105, 110, 99, 108, 117, 100, 101]] := rfl
      have w0 : (k < 1 ∨ 3 < k) → FWord [.v (.int .i64 k)] = some [.s []] := fun h => by
        simp only [FWord, kindW]
        rw [if_neg (by omega), if_neg (by omega), if_neg (by omega)]
      rcases hk with rfl | rfl | rfl | hk | hk
      · simp [he, htL, hEP, hP, hER, hR, hES, hS, hEW, z0, z1, z2, w1, hXl]
        refine ⟨rfl, ?_⟩
        refine loop_rule (R := List D) (σ := Nat) (fun a => ⟨slots 103 [(8, .d (.sl 10 S)), (10, .d (.sl 10 S)), (74, .d (.sl 10 S)), (75, .d (.v (.int .i64 out.length))), (76, .d (.v (.int .i64 a)))], []⟩) (fun a => out.length - a) (fun a => a ≤ out.length) (fun _ => some [.v (.bool true)]) 0 [8, 10, 74, 75, 76] (by simp [kp4]) (Nat.zero_le _) (by omega) (by simp) ?_
        intro a κ2 ha hn2 he2 hr2
        have hwa : IntKind.i64.wrap ((a : Int) + 1) = (a : Int) + 1 := wrap_i64 (by omega) (by omega)
        by_cases hal : a < out.length
        · have hal' : (a : Int) < out.length := by omega
          have hxa := hX a hal
          have hoka := hoks _ (List.getElem_mem hal)
          have hxa6 := (List.getElem?_eq_some_iff.1 hxa).2
          generalize out[a] = x at *
          simp only [encS, smC] at hxa hxa6
          simp [hXl, hal, hal', hxa, hxa6]
          refine loop_rule (R := List D) (σ := Nat) (fun b => ⟨slots 103 [(8, .d (.sl 10 S)), (10, .d (.sl 10 S)), (14, .d (.v (.int .i64 a))), (15, .ref (1, 15) 0), (74, .d (.sl 10 S)), (75, .d (.v (.int .i64 out.length))), (76, .d (.v (.int .i64 a))), (81, .d (.sl 10 S)), (82, .d (.v (.int .i64 out.length))), (83, .d (.v (.int .i64 b)))], [((1, 15), .box [.d (.v (.int .i64 x.kind)), .d (.v (.int .i64 x.line)), .d (.s x.name), .d (.sl 1 (x.heads.map encW)), .d (.sl 1 (x.words.map encW)), .d (.v (.int .i64 x.flags)), .d (.s x.prog), .d (.s x.recipe), .d (.v (.bool x.hidden)), .d (.v (.bool x.command))])]⟩) (fun b => out.length - b) (fun b => b ≤ out.length) (fun _ => some [.v (.bool true)]) 0 [8, 10, 14, 15, 74, 75, 76, 81, 82, 83] (by simp [kp4]) (Nat.zero_le _) (by omega) (by simp) ?_
          intro b κ3 hb hn3 he3 hr3
          have hwb : IntKind.i64.wrap ((b : Int) + 1) = (b : Int) + 1 := wrap_i64 (by omega) (by omega)
          by_cases hbl : b < out.length
          · have hbl' : (b : Int) < out.length := by omega
            have hxb := hX b hbl
            have hxb6 := (List.getElem?_eq_some_iff.1 hxb).2
            generalize out[b] = y at *
            have hQ := FSE_at x y hoka
            generalize smEq x y = c at *
            simp only [encS, smC] at hxb hxb6 hQ
            simp [hXl, hal, hal', hxa, hxa6, hbl, hbl', hxb, hxb6, hE1, hE2, hQ, hwb, fr4]
            exact hn3 (b + 1) _ (by omega) (by omega) (by simp)
          · obtain rfl : b = out.length := by omega
            simp [he3, hwa]
            exact hn2 (a + 1) _ (by omega) (by omega) (by simp)
        · obtain rfl : a = out.length := by omega
          simp [he2]
      · simp [he, htL, hEP, hP, hER, hR, hES, hS, hEW, z0, z1, z2, w2, hXl]
        refine ⟨rfl, ?_⟩
        refine loop_rule (R := List D) (σ := Nat) (fun a => ⟨slots 103 [(8, .d (.sl 10 S)), (10, .d (.sl 10 S)), (74, .d (.sl 10 S)), (75, .d (.v (.int .i64 out.length))), (76, .d (.v (.int .i64 a)))], []⟩) (fun a => out.length - a) (fun a => a ≤ out.length) (fun _ => some [.v (.bool true)]) 0 [8, 10, 74, 75, 76] (by simp [kp4]) (Nat.zero_le _) (by omega) (by simp) ?_
        intro a κ2 ha hn2 he2 hr2
        have hwa : IntKind.i64.wrap ((a : Int) + 1) = (a : Int) + 1 := wrap_i64 (by omega) (by omega)
        by_cases hal : a < out.length
        · have hal' : (a : Int) < out.length := by omega
          have hxa := hX a hal
          have hoka := hoks _ (List.getElem_mem hal)
          have hxa6 := (List.getElem?_eq_some_iff.1 hxa).2
          generalize out[a] = x at *
          simp only [encS, smC] at hxa hxa6
          simp [hXl, hal, hal', hxa, hxa6]
          refine loop_rule (R := List D) (σ := Nat) (fun b => ⟨slots 103 [(8, .d (.sl 10 S)), (10, .d (.sl 10 S)), (14, .d (.v (.int .i64 a))), (15, .ref (1, 15) 0), (74, .d (.sl 10 S)), (75, .d (.v (.int .i64 out.length))), (76, .d (.v (.int .i64 a))), (81, .d (.sl 10 S)), (82, .d (.v (.int .i64 out.length))), (83, .d (.v (.int .i64 b)))], [((1, 15), .box [.d (.v (.int .i64 x.kind)), .d (.v (.int .i64 x.line)), .d (.s x.name), .d (.sl 1 (x.heads.map encW)), .d (.sl 1 (x.words.map encW)), .d (.v (.int .i64 x.flags)), .d (.s x.prog), .d (.s x.recipe), .d (.v (.bool x.hidden)), .d (.v (.bool x.command))])]⟩) (fun b => out.length - b) (fun b => b ≤ out.length) (fun _ => some [.v (.bool true)]) 0 [8, 10, 14, 15, 74, 75, 76, 81, 82, 83] (by simp [kp4]) (Nat.zero_le _) (by omega) (by simp) ?_
          intro b κ3 hb hn3 he3 hr3
          have hwb : IntKind.i64.wrap ((b : Int) + 1) = (b : Int) + 1 := wrap_i64 (by omega) (by omega)
          by_cases hbl : b < out.length
          · have hbl' : (b : Int) < out.length := by omega
            have hxb := hX b hbl
            have hxb6 := (List.getElem?_eq_some_iff.1 hxb).2
            generalize out[b] = y at *
            have hQ := FSE_at x y hoka
            generalize smEq x y = c at *
            simp only [encS, smC] at hxb hxb6 hQ
            simp [hXl, hal, hal', hxa, hxa6, hbl, hbl', hxb, hxb6, hE1, hE2, hQ, hwb, fr4]
            exact hn3 (b + 1) _ (by omega) (by omega) (by simp)
          · obtain rfl : b = out.length := by omega
            simp [he3, hwa]
            exact hn2 (a + 1) _ (by omega) (by omega) (by simp)
        · obtain rfl : a = out.length := by omega
          simp [he2]
      · simp [he, htL, hEP, hP, hER, hR, hES, hS, hEW, z0, z1, z2, w3, hXl]
        refine ⟨rfl, ?_⟩
        refine loop_rule (R := List D) (σ := Nat) (fun a => ⟨slots 103 [(8, .d (.sl 10 S)), (10, .d (.sl 10 S)), (74, .d (.sl 10 S)), (75, .d (.v (.int .i64 out.length))), (76, .d (.v (.int .i64 a)))], []⟩) (fun a => out.length - a) (fun a => a ≤ out.length) (fun _ => some [.v (.bool true)]) 0 [8, 10, 74, 75, 76] (by simp [kp4]) (Nat.zero_le _) (by omega) (by simp) ?_
        intro a κ2 ha hn2 he2 hr2
        have hwa : IntKind.i64.wrap ((a : Int) + 1) = (a : Int) + 1 := wrap_i64 (by omega) (by omega)
        by_cases hal : a < out.length
        · have hal' : (a : Int) < out.length := by omega
          have hxa := hX a hal
          have hoka := hoks _ (List.getElem_mem hal)
          have hxa6 := (List.getElem?_eq_some_iff.1 hxa).2
          generalize out[a] = x at *
          simp only [encS, smC] at hxa hxa6
          simp [hXl, hal, hal', hxa, hxa6]
          refine loop_rule (R := List D) (σ := Nat) (fun b => ⟨slots 103 [(8, .d (.sl 10 S)), (10, .d (.sl 10 S)), (14, .d (.v (.int .i64 a))), (15, .ref (1, 15) 0), (74, .d (.sl 10 S)), (75, .d (.v (.int .i64 out.length))), (76, .d (.v (.int .i64 a))), (81, .d (.sl 10 S)), (82, .d (.v (.int .i64 out.length))), (83, .d (.v (.int .i64 b)))], [((1, 15), .box [.d (.v (.int .i64 x.kind)), .d (.v (.int .i64 x.line)), .d (.s x.name), .d (.sl 1 (x.heads.map encW)), .d (.sl 1 (x.words.map encW)), .d (.v (.int .i64 x.flags)), .d (.s x.prog), .d (.s x.recipe), .d (.v (.bool x.hidden)), .d (.v (.bool x.command))])]⟩) (fun b => out.length - b) (fun b => b ≤ out.length) (fun _ => some [.v (.bool true)]) 0 [8, 10, 14, 15, 74, 75, 76, 81, 82, 83] (by simp [kp4]) (Nat.zero_le _) (by omega) (by simp) ?_
          intro b κ3 hb hn3 he3 hr3
          have hwb : IntKind.i64.wrap ((b : Int) + 1) = (b : Int) + 1 := wrap_i64 (by omega) (by omega)
          by_cases hbl : b < out.length
          · have hbl' : (b : Int) < out.length := by omega
            have hxb := hX b hbl
            have hxb6 := (List.getElem?_eq_some_iff.1 hxb).2
            generalize out[b] = y at *
            have hQ := FSE_at x y hoka
            generalize smEq x y = c at *
            simp only [encS, smC] at hxb hxb6 hQ
            simp [hXl, hal, hal', hxa, hxa6, hbl, hbl', hxb, hxb6, hE1, hE2, hQ, hwb, fr4]
            exact hn3 (b + 1) _ (by omega) (by omega) (by simp)
          · obtain rfl : b = out.length := by omega
            simp [he3, hwa]
            exact hn2 (a + 1) _ (by omega) (by omega) (by simp)
        · obtain rfl : a = out.length := by omega
          simp [he2]
      · have hw0 := w0 (.inl hk)
        have hk' : ¬ (1 : Int) ≤ k := by omega
        simp [he, htL, hEP, hP, hER, hR, hES, hS, hEW, z0, z1, z2, hw0, hk', hXl]
        refine loop_rule (R := List D) (σ := Nat) (fun a => ⟨slots 103 [(8, .d (.sl 10 S)), (10, .d (.sl 10 S)), (74, .d (.sl 10 S)), (75, .d (.v (.int .i64 out.length))), (76, .d (.v (.int .i64 a)))], []⟩) (fun a => out.length - a) (fun a => a ≤ out.length) (fun _ => some [.v (.bool true)]) 0 [8, 10, 74, 75, 76] (by simp [kp4]) (Nat.zero_le _) (by omega) (by simp) ?_
        intro a κ2 ha hn2 he2 hr2
        have hwa : IntKind.i64.wrap ((a : Int) + 1) = (a : Int) + 1 := wrap_i64 (by omega) (by omega)
        by_cases hal : a < out.length
        · have hal' : (a : Int) < out.length := by omega
          have hxa := hX a hal
          have hoka := hoks _ (List.getElem_mem hal)
          have hxa6 := (List.getElem?_eq_some_iff.1 hxa).2
          generalize out[a] = x at *
          simp only [encS, smC] at hxa hxa6
          simp [hXl, hal, hal', hxa, hxa6]
          refine loop_rule (R := List D) (σ := Nat) (fun b => ⟨slots 103 [(8, .d (.sl 10 S)), (10, .d (.sl 10 S)), (14, .d (.v (.int .i64 a))), (15, .ref (1, 15) 0), (74, .d (.sl 10 S)), (75, .d (.v (.int .i64 out.length))), (76, .d (.v (.int .i64 a))), (81, .d (.sl 10 S)), (82, .d (.v (.int .i64 out.length))), (83, .d (.v (.int .i64 b)))], [((1, 15), .box [.d (.v (.int .i64 x.kind)), .d (.v (.int .i64 x.line)), .d (.s x.name), .d (.sl 1 (x.heads.map encW)), .d (.sl 1 (x.words.map encW)), .d (.v (.int .i64 x.flags)), .d (.s x.prog), .d (.s x.recipe), .d (.v (.bool x.hidden)), .d (.v (.bool x.command))])]⟩) (fun b => out.length - b) (fun b => b ≤ out.length) (fun _ => some [.v (.bool true)]) 0 [8, 10, 14, 15, 74, 75, 76, 81, 82, 83] (by simp [kp4]) (Nat.zero_le _) (by omega) (by simp) ?_
          intro b κ3 hb hn3 he3 hr3
          have hwb : IntKind.i64.wrap ((b : Int) + 1) = (b : Int) + 1 := wrap_i64 (by omega) (by omega)
          by_cases hbl : b < out.length
          · have hbl' : (b : Int) < out.length := by omega
            have hxb := hX b hbl
            have hxb6 := (List.getElem?_eq_some_iff.1 hxb).2
            generalize out[b] = y at *
            have hQ := FSE_at x y hoka
            generalize smEq x y = c at *
            simp only [encS, smC] at hxb hxb6 hQ
            simp [hXl, hal, hal', hxa, hxa6, hbl, hbl', hxb, hxb6, hE1, hE2, hQ, hwb, fr4]
            exact hn3 (b + 1) _ (by omega) (by omega) (by simp)
          · obtain rfl : b = out.length := by omega
            simp [he3, hwa]
            exact hn2 (a + 1) _ (by omega) (by omega) (by simp)
        · obtain rfl : a = out.length := by omega
          simp [he2]
      · have hw0 := w0 (.inr hk)
        have hk' : (1 : Int) ≤ k := by omega
        have hk2 : ¬ k ≤ 3 := by omega
        simp [he, htL, hEP, hP, hER, hR, hES, hS, hEW, z0, z1, z2, hw0, hk', hk2, hXl]
        refine loop_rule (R := List D) (σ := Nat) (fun a => ⟨slots 103 [(8, .d (.sl 10 S)), (10, .d (.sl 10 S)), (74, .d (.sl 10 S)), (75, .d (.v (.int .i64 out.length))), (76, .d (.v (.int .i64 a)))], []⟩) (fun a => out.length - a) (fun a => a ≤ out.length) (fun _ => some [.v (.bool true)]) 0 [8, 10, 74, 75, 76] (by simp [kp4]) (Nat.zero_le _) (by omega) (by simp) ?_
        intro a κ2 ha hn2 he2 hr2
        have hwa : IntKind.i64.wrap ((a : Int) + 1) = (a : Int) + 1 := wrap_i64 (by omega) (by omega)
        by_cases hal : a < out.length
        · have hal' : (a : Int) < out.length := by omega
          have hxa := hX a hal
          have hoka := hoks _ (List.getElem_mem hal)
          have hxa6 := (List.getElem?_eq_some_iff.1 hxa).2
          generalize out[a] = x at *
          simp only [encS, smC] at hxa hxa6
          simp [hXl, hal, hal', hxa, hxa6]
          refine loop_rule (R := List D) (σ := Nat) (fun b => ⟨slots 103 [(8, .d (.sl 10 S)), (10, .d (.sl 10 S)), (14, .d (.v (.int .i64 a))), (15, .ref (1, 15) 0), (74, .d (.sl 10 S)), (75, .d (.v (.int .i64 out.length))), (76, .d (.v (.int .i64 a))), (81, .d (.sl 10 S)), (82, .d (.v (.int .i64 out.length))), (83, .d (.v (.int .i64 b)))], [((1, 15), .box [.d (.v (.int .i64 x.kind)), .d (.v (.int .i64 x.line)), .d (.s x.name), .d (.sl 1 (x.heads.map encW)), .d (.sl 1 (x.words.map encW)), .d (.v (.int .i64 x.flags)), .d (.s x.prog), .d (.s x.recipe), .d (.v (.bool x.hidden)), .d (.v (.bool x.command))])]⟩) (fun b => out.length - b) (fun b => b ≤ out.length) (fun _ => some [.v (.bool true)]) 0 [8, 10, 14, 15, 74, 75, 76, 81, 82, 83] (by simp [kp4]) (Nat.zero_le _) (by omega) (by simp) ?_
          intro b κ3 hb hn3 he3 hr3
          have hwb : IntKind.i64.wrap ((b : Int) + 1) = (b : Int) + 1 := wrap_i64 (by omega) (by omega)
          by_cases hbl : b < out.length
          · have hbl' : (b : Int) < out.length := by omega
            have hxb := hX b hbl
            have hxb6 := (List.getElem?_eq_some_iff.1 hxb).2
            generalize out[b] = y at *
            have hQ := FSE_at x y hoka
            generalize smEq x y = c at *
            simp only [encS, smC] at hxb hxb6 hQ
            simp [hXl, hal, hal', hxa, hxa6, hbl, hbl', hxb, hxb6, hE1, hE2, hQ, hwb, fr4]
            exact hn3 (b + 1) _ (by omega) (by omega) (by simp)
          · obtain rfl : b = out.length := by omega
            simp [he3, hwa]
            exact hn2 (a + 1) _ (by omega) (by omega) (by simp)
        · obtain rfl : a = out.length := by omega
          simp [he2]
end Go.Ab
