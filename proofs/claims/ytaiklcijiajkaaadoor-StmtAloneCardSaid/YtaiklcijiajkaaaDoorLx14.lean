/- One text of a proof that a law of this seat says true for every input: words, pieces and statements. It holds of the given program under the conditions that the row prints. -/
import Derived.Test.YtaiklcijiajkaaaDoorLx13
set_option linter.unusedVariables false
set_option linter.unusedSimpArgs false
set_option maxRecDepth 100000
namespace Go.Ab
open Go.Proofs
variable {glob : Nat → Option (List D)} {p : Nat → Addr} {o : Nat → Obj}

noncomputable def FInc (p : Nat → Addr) (o : Nat → Obj) : List D → Option (List D)
  | [.s s] => if s.length < 4294967281 then some (smD p o (pInc s)) else none
  | _ => none
noncomputable def FAsg (p : Nat → Addr) (o : Nat → Obj) : List D → Option (List D)
  | [.s a, .s s] => if a.length < 4294967281 ∧ s.length < 4294967281 then some (smD p o (pAsg a s)) else none
  | _ => none
noncomputable def FRul (p : Nat → Addr) (o : Nat → Obj) : List D → Option (List D)
  | [.s a, .s s] => if a.length < 4294967281 ∧ s.length < 4294967281 then some (smD p o (pRul a s)) else none
  | _ => none
theorem FInc_at (s : List UInt8) (h : s.length < 4294967281) : FInc p o [.s s] = some (smD p o (pInc s)) := by
  simp only [FInc]
  rw [if_pos h]
theorem FAsg_at (a s : List UInt8) (ha : a.length < 4294967281) (h : s.length < 4294967281) : FAsg p o [.s a, .s s] = some (smD p o (pAsg a s)) := by
  simp only [FAsg]
  rw [if_pos ⟨ha, h⟩]
theorem FRul_at (a s : List UInt8) (ha : a.length < 4294967281) (h : s.length < 4294967281) : FRul p o [.s a, .s s] = some (smD p o (pRul a s)) := by
  simp only [FRul]
  rw [if_pos ⟨ha, h⟩]
theorem cut_le (s : List UInt8) : (Lib.cut s [58]).1.length ≤ s.length ∧ (Lib.cut s [58]).2.1.length ≤ s.length := by
  rw [colon_cut]
  split
  · simp
  · simp
    omega
theorem cut_at (s q : List UInt8) (h : s.length < 4294967281) : F153 [.s s, .s q] = some [.s (Lib.cut s q).1, .s (Lib.cut s q).2.1, .v (.bool (Lib.cut s q).2.2)] := by
  simp only [F153]
  rw [if_pos h]
section
variable (hs : Sents glob p o)
include hs
set_option maxHeartbeats 16000000 in
theorem evRul (a s : List UInt8) (hal : a.length < 4294967281) (hl : s.length < 4294967281) : fnK (mkCtx tab glob) (ES2 p o) kp27 fr27 0 Tryd.f27 [.s a, .s s] = some (smD p o (pRul a s)) := by
  have h3 := gl3 hs
  have h7 := gl7 hs
  have hEW : ES2 p o 25 = FWords p o := rfl
  have hEI : ES2 p o 19 = F93 := rfl
  have hEC : ES2 p o 45 = F153 := rfl
  have hEA : ES2 p o 46 = FAttr p o := rfl
  have hWa := FWords_at (p := p) (o := o) a hal
  have fin : ∀ (hd : List (List Pc)) (f : Nat) (q r : List UInt8), r.length < 4294967281 → ∀ z : Option (List D),
      (∀ ws, FWords p o [.s r] = some [.sl 1 (ws.map encW), .v .nilIface] → z = some (smD p o (.inl { Sm.z with kind := 2, heads := hd, flags := f, prog := q, words := ws }))) →
      (∀ e, e ≠ 0 → FWords p o [.s r] = some [.sl 1 [], .ifc 121 (.at (p e) (o e))] → z = some (smD p o (.inr e))) →
      z = some (smD p o (pTail hd f q r)) := by
    intro hd f q r hr z h1 h2
    have hW := FWords_at (p := p) (o := o) r hr
    unfold pTail
    cases hq : pWords r with
    | inr e =>
      have he := pWords_err r e hq
      rw [hq] at hW
      simp only [wordsD, erD, if_neg he, sentD] at hW
      exact h2 e he hW
    | inl ws =>
      rw [hq] at hW
      exact h1 ws hW
  unfold pRul
  cases hqa : pWords a with
  | inr e =>
    have he := pWords_err a e hqa
    rw [hqa] at hWa
    simp only [wordsD, erD, if_neg he, sentD] at hWa
    simp [Tryd.f27, fr27, hEW, hWa, smD, encS, smC, Sm.z, erD, he, sentD]
  | inl wa =>
    rw [hqa] at hWa
    cases wa with
    | nil =>
      simp only [wordsD, List.map_nil] at hWa
      simp [Tryd.f27, fr27, hEW, hWa, h3, smD, encS, smC, Sm.z, erD, sentD]
    | cons w wa =>
      simp only [wordsD, List.map_cons] at hWa
      have hne : ((wa.length : Int) + 1 == 0) = false := by rw [beq_eq_false_iff_ne]; omega
      cases s with
      | nil =>
        refine fin (w :: wa) 0 [] [] hl _ (fun ws hW => ?_) fun e he hW => ?_
        · simp [Tryd.f27, fr27, hEW, hWa, hne, hW, smD, encS, smC, Sm.z]
        · simp [Tryd.f27, fr27, hEW, hWa, hne, hW, smD, encS, smC, Sm.z, erD, he, sentD]
      | cons b r =>
        have hI : F93 [.s [32, 9], .v (.int .u8 b.toNat)] = some [.v (.int .i64 (Lib.indexByte gaps b))] := F93_at [32, 9] b
        have hix := ixb gaps b
        have hge := Lib.indexByte_ge gaps b
        generalize Lib.indexByte gaps b = ix at *
        simp only
        cases hg : gaps.contains b with
        | true =>
          rw [hg] at hix
          have hix' : ¬ ix < 0 := by have : 0 ≤ ix := by simpa using hix
                                     omega
          simp only [if_true]
          refine fin (w :: wa) 0 [] (b :: r) hl _ (fun ws hW => ?_) fun e he hW => ?_
          · simp [Tryd.f27, fr27, hEW, hWa, hne, hEI, hI, hix', hW, smD, encS, smC, Sm.z]
          · simp [Tryd.f27, fr27, hEW, hWa, hne, hEI, hI, hix', hW, smD, encS, smC, Sm.z, erD, he, sentD]
        | false =>
          rw [hg] at hix
          have hix' : ix < 0 := by have : ¬ 0 ≤ ix := by simpa using hix
                                   omega
          simp only [Bool.false_eq_true, if_false]
          have hC := cut_at (b :: r) [58] hl
          obtain ⟨hc1, hc2⟩ := cut_le (b :: r)
          generalize Lib.cut (b :: r) [58] = x at *
          obtain ⟨x1, x2, x3⟩ := x
          simp only at hC hc1 hc2 ⊢
          cases x3 with
          | false =>
            simp [Tryd.f27, fr27, hEW, hWa, hne, hEI, hI, hix', hEC, hC, h7, smD, encS, smC, Sm.z, erD, sentD]
          | true =>
            simp only [if_true]
            have hA := FAttr_at (p := p) (o := o) x1 (by omega)
            cases hpa : pAttr x1 0 0 with
            | inr e =>
              have he := pAttr_err x1 _ _ _ _ (Nat.le_refl _) hpa
              rw [hpa] at hA
              simp only [attrD, erD, if_neg he, sentD] at hA
              simp [Tryd.f27, fr27, hEW, hWa, hne, hEI, hI, hix', hEC, hC, hEA, hA, smD, encS, smC, Sm.z, erD, he, sentD]
            | inl fq =>
              obtain ⟨f, q⟩ := fq
              rw [hpa] at hA
              simp only [attrD] at hA
              refine fin (w :: wa) f q x2 (by omega) _ (fun ws hW => ?_) fun e he hW => ?_
              · simp [Tryd.f27, fr27, hEW, hWa, hne, hEI, hI, hix', hEC, hC, hEA, hA, hW, smD, encS, smC, Sm.z]
              · simp [Tryd.f27, fr27, hEW, hWa, hne, hEI, hI, hix', hEC, hC, hEA, hA, hW, smD, encS, smC, Sm.z, erD, he, sentD]
end
noncomputable def ES3 (p : Nat → Addr) (o : Nat → Obj) : Abs := ext (ext (ext (ES2 p o) 23 (FInc p o)) 26 (FAsg p o)) 27 (FRul p o)
section
variable {m : Int} (h20 : glob 5 = some [.v (.int .i64 m)]) (hs : Sents glob p o)
include h20 hs
theorem ES3_ok : ∀ f, Pure Tryd.prog (mkCtx tab glob) f (ES3 p o f) := by
  have hE := ES2_ok h20 hs
  refine ext_ok (ext_ok (ext_ok hE ?_) ?_) ?_
  · refine pure_of (T_ok glob) hE Tryd.func23 (by kernel_rfl) (kp := kp23) (fr := fr23) (by kernel_rfl) fun ds rs hF => ?_
    unfold FInc at hF
    split at hF
    · split at hF
      · rename_i h
        cases hF
        exact ⟨0, evInc hs _ h⟩
      · simp at hF
    · simp at hF
  · refine pure_of (T_ok glob) hE Tryd.func26 (by kernel_rfl) (kp := kp26) (fr := fr26) (by kernel_rfl) fun ds rs hF => ?_
    unfold FAsg at hF
    split at hF
    · split at hF
      · rename_i h
        cases hF
        exact ⟨0, evAsg hs _ _ h.1 h.2⟩
      · simp at hF
    · simp at hF
  · refine pure_of (T_ok glob) hE Tryd.func27 (by kernel_rfl) (kp := kp27) (fr := fr27) (by kernel_rfl) fun ds rs hF => ?_
    unfold FRul at hF
    split at hF
    · split at hF
      · rename_i h
        cases hF
        exact ⟨0, evRul hs _ _ h.1 h.2⟩
      · simp at hF
    · simp at hF
end
end Go.Ab
