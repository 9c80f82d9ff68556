/- One text of a proof that a law of this seat says true for every input: words, pieces and statements. It holds of the given program under the conditions that the row prints. -/
import Derived.Test.YtaiklcijiajkaaaDoorLx14
set_option linter.unusedVariables false
set_option linter.unusedSimpArgs false
set_option maxRecDepth 100000
namespace Go.Ab
open Go.Proofs
variable {glob : Nat → Option (List D)} {p : Nat → Addr} {o : Nat → Obj}

section
variable (hs : Sents glob p o)
include hs
set_option maxHeartbeats 16000000 in
theorem evOne (s : List UInt8) (hl : s.length < 4294967281) : fnK (mkCtx tab glob) (ES3 p o) kp14 fr14 0 Tryd.f14 [.s s] = some (smD p o (pOneS s)) := by
  have h3 := gl3 hs
  have hEC : ES3 p o 22 = F127 := rfl
  have hEW : ES3 p o 25 = FWords p o := rfl
  have hEF : ES3 p o 24 = FFind := rfl
  have hEI : ES3 p o 23 = FInc p o := rfl
  have hEA : ES3 p o 26 = FAsg p o := rfl
  have hER : ES3 p o 27 = FRul p o := rfl
  have hC : F127 [.s s, .s [60]] = some [.s (Lib.trimPrefix s [60]), .v (.bool (Lib.hasPrefix s [60]))] := rfl
  have hle : (Lib.trimPrefix s [60]).length ≤ s.length := by
    unfold Lib.trimPrefix
    split <;> simp
  have hFI := FInc_at (p := p) (o := o) (Lib.trimPrefix s [60]) (by omega)
  have hF := FFind_at s [58, 61] hl
  have hW := FWords_at (p := p) (o := o) s hl
  have hfl := rFind_lt s [58, 61] s.length 0 (by omega)
  rw [← pFind_eq] at hfl
  unfold pOneS
  cases hp : Lib.hasPrefix s [60] with
  | true =>
    rw [hp] at hC
    simp only [if_true]
    generalize Lib.trimPrefix s [60] = r at *
    cases hx : pInc r with
    | inl x =>
      rw [hx] at hFI
      simp only [smD, encS, smC] at hFI ⊢
      simp [Tryd.f14, fr14, hEC, hC, hEI, hFI]
    | inr e =>
      rw [hx] at hFI
      simp only [smD, encS, smC] at hFI ⊢
      by_cases he : e = 0
      · simp only [erD, if_pos he] at hFI ⊢
        simp [Tryd.f14, fr14, hEC, hC, hEI, hFI]
      · simp only [erD, if_neg he, sentD] at hFI ⊢
        simp [Tryd.f14, fr14, hEC, hC, hEI, hFI]
  | false =>
    rw [hp] at hC
    simp only [Bool.false_eq_true, if_false]
    generalize pFind s [58, 61] 0 = k at *
    by_cases hk : k < 0
    · rw [if_pos hk]
      cases hq : pWords s with
      | inr e =>
        have he := pWords_err s e hq
        rw [hq] at hW
        simp only [wordsD, erD, if_neg he, sentD] at hW
        simp [Tryd.f14, fr14, hEC, hC, hEF, hF, hk, hEW, hW, smD, encS, smC, Sm.z, erD, he, sentD]
      | inl ws =>
        rw [hq] at hW
        simp only [wordsD] at hW
        simp [Tryd.f14, fr14, hEC, hC, hEF, hF, hk, hEW, hW, smD, encS, smC, Sm.z, erD, sentD, h3]
    · rw [if_neg hk]
      obtain ⟨h1, h2, _⟩ := hfl.resolve_left hk
      obtain ⟨n, rfl⟩ : ∃ n : Nat, k = n := ⟨k.toNat, by omega⟩
      have hn : n < s.length := by omega
      have hk' : ¬ (n : Int) < 0 := by omega
      have c0 : (0 : Int) ≤ n := by omega
      have c1 : n ≤ s.length := by omega
      have c2 : n + 1 ≤ s.length := by omega
      have c3 : (n : Int) + 1 ≤ s.length := by omega
      have c4 : (n : Int) ≤ s.length := by omega
      have c5 : (0 : Int) ≤ (n : Int) + 1 := by omega
      have c6 : (n : Int) ≤ (n : Int) + 1 := by omega
      have t1 : ((n : Int) + 1).toNat = n + 1 := by omega
      have t2 : ((n : Int)).toNat = n := by omega
      have hw : IntKind.i64.wrap ((n : Int) + 1) = (n : Int) + 1 := wrap_i64 (by omega) (by omega)
      have htk : (s.take (n + 1)).drop n = [s[n]] := by
        rw [List.take_succ_eq_append_getElem hn, List.drop_append_of_le_length (by simp; omega)]
        simp
      have hFA := FAsg_at (p := p) (o := o) (s.take n) (s.drop (n + 1)) (by simp; omega) (by simp; omega)
      have hFR := FRul_at (p := p) (o := o) (s.take n) (s.drop (n + 1)) (by simp; omega) (by simp; omega)
      have hg : s[n]? = some s[n] := List.getElem?_eq_getElem hn
      rw [t2, hg]
      by_cases h61 : s[n] = 61
      · rw [if_pos (by rw [h61])]
        generalize pAsg (s.take n) (s.drop (n + 1)) = y at *
        cases y with
        | inl x =>
          simp only [smD, encS, smC] at hFA ⊢
          simp [Tryd.f14, fr14, hEC, hC, hEF, hF, hk', c0, c1, c2, c3, c4, c5, c6, t1, t2, hw, htk, h61, hEA, hFA]
        | inr e =>
          simp only [smD, encS, smC] at hFA ⊢
          by_cases he : e = 0
          · simp only [erD, if_pos he] at hFA ⊢
            simp [Tryd.f14, fr14, hEC, hC, hEF, hF, hk', c0, c1, c2, c3, c4, c5, c6, t1, t2, hw, htk, h61, hEA, hFA]
          · simp only [erD, if_neg he, sentD] at hFA ⊢
            simp [Tryd.f14, fr14, hEC, hC, hEF, hF, hk', c0, c1, c2, c3, c4, c5, c6, t1, t2, hw, htk, h61, hEA, hFA]
      · rw [if_neg (by simpa using h61)]
        have h61' : (s[n] == 61) = false := by simpa using h61
        generalize pRul (s.take n) (s.drop (n + 1)) = y at *
        cases y with
        | inl x =>
          simp only [smD, encS, smC] at hFR ⊢
          simp [Tryd.f14, fr14, hEC, hC, hEF, hF, hk', c0, c1, c2, c3, c4, c5, c6, t1, t2, hw, htk, h61, h61', hER, hFR]
        | inr e =>
          simp only [smD, encS, smC] at hFR ⊢
          by_cases he : e = 0
          · simp only [erD, if_pos he] at hFR ⊢
            simp [Tryd.f14, fr14, hEC, hC, hEF, hF, hk', c0, c1, c2, c3, c4, c5, c6, t1, t2, hw, htk, h61, h61', hER, hFR]
          · simp only [erD, if_neg he, sentD] at hFR ⊢
            simp [Tryd.f14, fr14, hEC, hC, hEF, hF, hk', c0, c1, c2, c3, c4, c5, c6, t1, t2, hw, htk, h61, h61', hER, hFR]
end
noncomputable def FOne (p : Nat → Addr) (o : Nat → Obj) : List D → Option (List D)
  | [.s s] => if s.length < 4294967281 then some (smD p o (pOneS s)) else none
  | _ => none
theorem FOne_at (s : List UInt8) (h : s.length < 4294967281) : FOne p o [.s s] = some (smD p o (pOneS s)) := by
  simp only [FOne]
  rw [if_pos h]
noncomputable def ES4 (p : Nat → Addr) (o : Nat → Obj) : Abs := ext (ES3 p o) 14 (FOne p o)
theorem ES4_ok {m : Int} (h20 : glob 5 = some [.v (.int .i64 m)]) (hs : Sents glob p o) : ∀ f, Pure Tryd.prog (mkCtx tab glob) f (ES4 p o f) := by
  have hE := ES3_ok h20 hs
  refine ext_ok hE ?_
  refine pure_of (T_ok glob) hE Tryd.func14 (by kernel_rfl) (kp := kp14) (fr := fr14) (by kernel_rfl) fun ds rs hF => ?_
  unfold FOne at hF
  split at hF
  · split at hF
    · rename_i h
      cases hF
      exact ⟨0, evOne hs _ h⟩
    · simp at hF
  · simp at hF
/-! ### slices of structs that may be written: their cells are data -/
theorem subL_d (fo : Id → AV) (fr : Id → Nat → AV) : ∀ ds : List D, subL fo fr (ds.map .d) = ds.map .d
  | [] => rfl
  | d :: ds => by simp only [List.map_cons, subL, AV.sub, subL_d fo fr ds]
theorem subE_app (fo : Id → AV) (fr : Id → Nat → AV) : ∀ a b : List (List AV), subE fo fr (a ++ b) = subE fo fr a ++ subE fo fr b
  | [], b => rfl
  | e :: a, b => by simp only [List.cons_append, subE, subE_app fo fr a b]
theorem idsL_app : ∀ a b : List AV, idsL (a ++ b) = idsL a ++ idsL b
  | [], b => rfl
  | x :: a, b => by simp only [List.cons_append, idsL, idsL_app a b, List.append_assoc]
theorem idsL_d : ∀ ds : List D, idsL (ds.map .d) = []
  | [] => rfl
  | d :: ds => by simp only [List.map_cons, idsL, AV.ids, idsL_d ds, List.append_nil]
def cellsA (s : Sm) : List AV := (smC s).map .d
theorem subE_cells (fo : Id → AV) (fr : Id → Nat → AV) : ∀ out : List Sm, subE fo fr (out.map cellsA) = out.map cellsA
  | [] => rfl
  | s :: r => by simp only [List.map_cons, subE, cellsA, subL_d, subE_cells fo fr r]
theorem idsL_cells : ∀ out : List Sm, idsL (out.map cellsA).flatten = []
  | [] => rfl
  | s :: r => by rw [List.map_cons, List.flatten_cons, idsL_app, cellsA, idsL_d, idsL_cells r]; rfl
theorem datas_d (o : Obs) : ∀ ds : List D, datas o (ds.map .d) = some ds
  | [] => rfl
  | d :: ds => by simp only [List.map_cons, datas, AV.data, datas_d o ds]
theorem smC_cell (s : Sm) : (smC s).all D.cell = true := rfl
theorem datasE_cells (o : Obs) : ∀ out : List Sm, datasE o true (out.map cellsA) = some (out.map encS)
  | [] => rfl
  | s :: r => by
    simp only [List.map_cons, datasE, cellsA, datas_d, datasE_cells o r, smC_cell, true_or, and_self, if_true]
    rfl
end Go.Ab
