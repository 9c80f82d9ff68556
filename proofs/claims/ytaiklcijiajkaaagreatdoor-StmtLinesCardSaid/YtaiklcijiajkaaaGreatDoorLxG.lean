/- One text of a proof that a law of this seat says true for every input: words, pieces and statements. It holds of the given program under the conditions that the row prints. -/
import Derived.Test.YtaiklcijiajkaaaGreatDoorLxH
import Derived.Test.YtaiklcijiajkaaaGreatDoorLxF
import Derived.Test.YtaiklcijiajkaaaGreatDoorErB
import Derived.Test.YtaiklcijiajkaaaGreatDoorLx22
set_option linter.unusedVariables false
set_option linter.unusedSimpArgs false
set_option maxRecDepth 100000
namespace Go.Ab
open Go.Proofs
variable {glob : Nat → Option (List D)} {p : Nat → Addr} {o : Nat → Obj}

theorem encS_inj : ∀ a b, encS a = encS b → a = b := by
  rintro ⟨k, l, n, hs, ws, f, q, r, hd, cm⟩ ⟨k2, l2, n2, hs2, ws2, f2, q2, r2, hd2, cm2⟩ h
  simp only [encS, smC, D.st.injEq, List.cons.injEq, D.s.injEq, D.v.injEq, Value.int.injEq, Value.bool.injEq, true_and, and_true] at h
  obtain ⟨h1, rfl, rfl, h2, h3, h4, rfl, rfl, rfl, rfl⟩ := h
  obtain rfl : k = k2 := by omega
  obtain rfl : f = f2 := by omega
  obtain rfl := wl_inj _ _ h2
  obtain rfl := wl_inj _ _ h3
  rfl
noncomputable def FL19 : List D → Option (List D) := liftG Sm.ok (fun s => [encS s]) fun s => some [encS s]
theorem FL19_at (s : Sm) (h : s.ok) : FL19 [encS s] = some [encS s] :=
  liftG_enc (good := Sm.ok) (enc := fun s => [encS s]) (f := fun s => some [encS s]) (fun a b _ _ h => by
    simp only [List.cons.injEq, and_true] at h
    rw [h]) s h
noncomputable def FSE : List D → Option (List D) := liftG (fun x : Sm × Sm => x.1.ok) (fun x => [encS x.1, encS x.2]) fun x => some [.v (.bool (smEq x.1 x.2))]
theorem FSE_at (a b : Sm) (h : a.ok) : FSE [encS a, encS b] = some [.v (.bool (smEq a b))] :=
  liftG_enc (good := fun x : Sm × Sm => x.1.ok) (enc := fun x => [encS x.1, encS x.2]) (f := fun x => some [.v (.bool (smEq x.1 x.2))]) (fun x y _ _ h => by
    simp only [List.cons.injEq, and_true] at h
    rw [encS_inj _ _ h.1, encS_inj _ _ h.2]) (a, b) h
theorem FL19_ok : Pure Tryz.prog (mkCtx tab glob) 18 FL19 := by
  refine pure_of (T_ok glob) EF_ok Tryz.func18 (by kernel_rfl) (kp := kp18) (fr := fr18) (by kernel_rfl) fun ds rs hF => ?_
  obtain ⟨s, hw, rfl, h⟩ := liftG_some hF
  cases h
  exact ⟨0, evL19 s hw.1 hw.2⟩
noncomputable def F30 (p : Nat → Addr) (o : Nat → Obj) : List D → Option (List D) := liftG (fun e : Er => e.good = true) (fun e => [encE p o e]) fun e => some [.v (.int .i64 (numE e))]
section
variable (hs : Sents glob p o)
include hs
theorem F30_eq (e : Er) (he : e.good = true) : F30 p o [encE p o e] = some [.v (.int .i64 (numE e))] :=
  liftG_enc (good := fun e : Er => e.good = true) (enc := fun e => [encE p o e]) (f := fun e => some [.v (.int .i64 (numE e))]) (fun a b ha hb h => by
    simp only [List.cons.injEq, and_true] at h
    rw [encE_inj hs.inj a b ha hb h]) e he
theorem F30_ok : Pure Tryz.prog (mkCtx tab glob) 17 (F30 p o) := by
  refine pure_of (T_ok glob) (U62_ok hs) Tryz.func17 (by kernel_rfl) (kp := kp17) (fr := fr17) (by kernel_rfl) fun ds rs hF => ?_
  obtain ⟨e, he, rfl, h⟩ := liftG_some hF
  cases h
  exact ⟨20, ev30 hs e he⟩
end
theorem numE_sent : ∀ e, e < 19 → 1 ≤ e → numE (.fault 0 (.sent e)) = e := by decide
theorem numE_fault (n : Int) (e : Nat) (h1 : 1 ≤ e) (h2 : e ≤ 18) : numE (.fault n (.sent e)) = e := numE_sent e (by omega) h1
noncomputable def EM (p : Nat → Addr) (o : Nat → Obj) : Abs := ext (ext (ext (ext (fun _ _ => none) 18 FL19) 13 FSE) 17 (F30 p o)) 16 (F45 p o)
set_option maxHeartbeats 8000000 in
/-- law19.same: what says the same is the same -/
theorem evSame19 (hs : Sents glob p o) (r : List Sm ⊕ (Nat × Int)) (hr : okR r) : fnK (mkCtx tab glob) (EM p o) kp8 fr8 (4294967000 + 1) Tryz.f8 (parseD p o r ++ rpD r) = some [.v (.bool true)] := by
  have hEO : EM p o 18 = FL19 := rfl
  have hES : EM p o 13 = FSE := rfl
  have hEN : EM p o 17 = F30 p o := rfl
  have hEW : EM p o 16 = F45 p o := rfl
  cases r with
  | inr en =>
    obtain ⟨e, n⟩ := en
    obtain ⟨h1, h2⟩ := hr
    have he0 : ¬ e = 0 := by omega
    have he2 : ((e : Int) != 0) = true := by rw [bne_iff_ne]; omega
    have hg : Er.good (.fault n (.sent e)) = true := by simp [Er.good, h1, h2]
    have hN := F30_eq hs (.fault n (.sent e)) hg
    have hW := F45_eq hs (.fault n (.sent e)) hg
    rw [numE_fault n e h1 h2] at hN
    simp only [whereE, encE] at hN hW
    simp only [parseD, rpD, erD, if_neg he0, sentD, List.cons_append, List.nil_append]
    generalize hM : 4294967000 + 1 = M at *
    have hM' : 1 ≤ M := by omega
    simp [Tryz.f8, hEW, hW, hEN, hN, he2]
    refine loop_rule (R := List D) (σ := Unit) (fun _ => ⟨slots 58 [(2, .d (.sl 10 [])), (42, .d (.sl 10 [])), (43, .d (.v (.int .i64 0))), (44, .d (.v (.int .i64 0)))], []⟩) (fun _ => 0) (fun _ => True) (fun _ => some [.v (.bool true)]) () [2, 42, 43, 44] (by simp [kp8]) trivial (by omega) (by simp) ?_
    intro j κ' hj hn he hr'
    simp [he]
  | inl out =>
    obtain ⟨h1, h2⟩ := hr
    have hN := F30_eq hs .none rfl
    have hW := F45_eq hs .none rfl
    simp only [numE, whereE, encE] at hN hW
    have hL : ∀ i (h : i < out.length), (out.map encS)[i]? = some (encS out[i]) := fun i h => by simp [h]
    have hLl : (out.map encS).length = out.length := by simp
    simp only [parseD, rpD, List.cons_append, List.nil_append]
    generalize out.map encS = L at *
    generalize hM : 4294967000 + 1 = M at *
    have hM' : out.length + 1 ≤ M := by omega
    simp [Tryz.f8, hEW, hW, hEN, hN, hLl]
    refine loop_rule (R := List D) (σ := Nat) (fun i => ⟨slots 58 [(2, .d (.sl 10 L)), (42, .d (.sl 10 L)), (43, .d (.v (.int .i64 out.length))), (44, .d (.v (.int .i64 i)))], []⟩) (fun i => out.length - i) (fun i => i ≤ out.length) (fun _ => some [.v (.bool true)]) 0 [2, 42, 43, 44] (by simp [kp8]) (Nat.zero_le _) (by omega) (by simp) ?_
    intro i κ' hi hn he hr'
    have hw : IntKind.i64.wrap ((i : Int) + 1) = (i : Int) + 1 := wrap_i64 (by omega) (by omega)
    by_cases hil : i < out.length
    · have hil' : (i : Int) < out.length := by omega
      have hg := hL i hil
      have hok := h2 _ (List.getElem_mem hil)
      have hO := FL19_at out[i] hok
      have hS := FSE_at out[i] out[i] hok
      rw [smEq_refl] at hS
      generalize out[i] = x at *
      have hg6 := (List.getElem?_eq_some_iff.1 hg).2
      simp only [encS, smC] at hg hg6 hO hS
      simp [hLl, hil, hil', hg, hg6, hEO, hO, hES, hS, hw, fr8]
      exact hn (i + 1) _ (by omega) (by omega) (by simp)
    · obtain rfl : i = out.length := by omega
      simp [he]
end Go.Ab

set_option linter.unusedVariables false
set_option linter.unusedSimpArgs false
set_option maxRecDepth 100000
namespace Go.Ab
open Go.Proofs
variable {glob : Nat → Option (List D)} {p : Nat → Addr} {o : Nat → Obj}

theorem RSm_ok : Pure Tryz.prog (mkCtx tab glob) 24 FSm := by
  refine pure_of (T_ok glob) none_ok Tryz.func24 (by kernel_rfl) (kp := kp24) (fr := fr24) (by kernel_rfl) fun ds rs hF => ?_
  obtain ⟨⟨a, b⟩, hw, rfl, h⟩ := liftG_some hF
  cases h
  exact ⟨_, evRSame _ a b hw 4294967000 hw.2⟩
theorem ERS_ok : ∀ f, Pure Tryz.prog (mkCtx tab glob) f (ERS f) := ext_ok none_ok RSm_ok
theorem FSE_ok : Pure Tryz.prog (mkCtx tab glob) 13 FSE := by
  refine pure_of (T_ok glob) ERS_ok Tryz.func13 (by kernel_rfl) (kp := kp13) (fr := fr13) (by kernel_rfl) fun ds rs hF => ?_
  obtain ⟨⟨a, b⟩, hw, rfl, h⟩ := liftG_some hF
  cases h
  exact ⟨0, evRSSame a b hw.1 hw.2⟩
section
variable {m : Int} (hs : Sents glob p o) (h20 : glob 19 = some [.v (.int .i64 m)]) (h19 : glob 3 = some [.ifc 142 (.st [.v (.pointer (some ⟨22, 25, none⟩))])])
include hs
include h19
theorem EM_ok : ∀ f, Pure Tryz.prog (mkCtx tab glob) f (EM p o f) :=
  ext_ok (ext_ok (ext_ok (ext_ok none_ok FL19_ok) FSE_ok) (F30_ok hs)) (F45_ok h19)
end
noncomputable def FS19 (p : Nat → Addr) (o : Nat → Obj) : List D → Option (List D) := liftG okR (fun r => parseD p o r ++ rpD r) fun _ => some [.v (.bool true)]
theorem FS19_at (r : List Sm ⊕ (Nat × Int)) (h : okR r) : FS19 p o (parseD p o r ++ rpD r) = some [.v (.bool true)] :=
  liftG_enc (good := okR) (enc := fun r => parseD p o r ++ rpD r) (f := fun _ => some [.v (.bool true)]) (fun a b _ _ h => rfl) r h
def FAl : List D → Option (List D)
  | [] => some [.v (.bool true)]
  | _ => none
section
variable {m : Int} (hs : Sents glob p o) (h20 : glob 19 = some [.v (.int .i64 m)]) (h19 : glob 3 = some [.ifc 142 (.st [.v (.pointer (some ⟨22, 25, none⟩))])])
include h20
theorem FAl_ok : Pure Tryz.prog (mkCtx tab glob) 5 FAl := by
  have h := pure_of (T := (mkCtx tab glob).on gfL (orcS glob 10).2) (on_ok (T_ok glob) (orcS_ok h20 10).2) (orcS_ok h20 10).1 Tryz.func5 (by kernel_rfl) (kp := kp5) (fr := fr5) (by kernel_rfl) (F := FAl) fun ds rs hF => by
    unfold FAl at hF
    split at hF
    · cases hF
      exact ⟨40, ev_alive⟩
    · simp at hF
  exact h
include hs h19
theorem FS19_ok : Pure Tryz.prog (mkCtx tab glob) 8 (FS19 p o) := by
  have _ := h20
  refine pure_of (T_ok glob) (EM_ok hs h19) Tryz.func8 (by kernel_rfl) (kp := kp8) (fr := fr8) (by kernel_rfl) fun ds rs hF => ?_
  obtain ⟨r, hr, rfl, h⟩ := liftG_some hF
  cases h
  exact ⟨_, evSame19 hs r hr⟩
end
noncomputable def ET (p : Nat → Addr) (o : Nat → Obj) : Abs := ext (ext (ext (ext (fun _ _ => none) 5 FAl) 6 (FOf p o)) 7 FROf) 8 (FS19 p o)
theorem ET_ok {m : Int} (hs : Sents glob p o) (h20 : glob 19 = some [.v (.int .i64 m)]) (h19 : glob 3 = some [.ifc 142 (.st [.v (.pointer (some ⟨22, 25, none⟩))])]) : ∀ f, Pure Tryz.prog (mkCtx tab glob) f (ET p o f) :=
  ext_ok (ext_ok (ext_ok (ext_ok none_ok (FAl_ok h20)) (FOf_ok h20 hs)) FROf_ok) (FS19_ok hs h20 h19)
set_option maxHeartbeats 4000000 in
/-- StmtTexts says true. -/
theorem evTexts (text : List UInt8) : fnK (mkCtx tab glob) (ET p o) kp3 fr3 0 Tryz.f3 [.s text] = some [.v (.bool true)] := by
  have hEA : ET p o 5 = FAl := rfl
  have hEO : ET p o 6 = FOf p o := rfl
  have hER : ET p o 7 = FROf := rfl
  have hES : ET p o 8 = FS19 p o := rfl
  have hA : FAl [] = some [.v (.bool true)] := rfl
  by_cases h : 5000 < text.length
  · have h' : (5000 : Int) < text.length := by omega
    simp [Tryz.f3, hEA, hA, h']
  · have h' : ¬ (5000 : Int) < text.length := by omega
    have hO : FOf p o [.s text] = some (parseD p o (pOf text)) := by
      simp only [FOf]
      rw [if_pos (by omega)]
    have hR : FROf [.s text] = some (rpD (pOf text)) := by
      simp only [FROf]
      rw [if_pos (by omega)]
    have hS := FS19_at (p := p) (o := o) (pOf text) (pOf_okR text)
    generalize pOf text = r at hO hR hS
    cases r with
    | inl out =>
      simp only [parseD, rpD, List.cons_append, List.nil_append] at hO hR hS
      simp [Tryz.f3, hEA, hA, h', hEO, hO, hER, hR, hES, hS]
    | inr en =>
      obtain ⟨e, n⟩ := en
      simp only [parseD, rpD, List.cons_append, List.nil_append] at hO hR hS
      simp [Tryz.f3, hEA, hA, h', hEO, hO, hER, hR, hES, hS]
end Go.Ab
