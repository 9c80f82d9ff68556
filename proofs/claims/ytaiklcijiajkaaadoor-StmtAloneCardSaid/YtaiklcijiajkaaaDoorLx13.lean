/- One text of a proof that a law of this seat says true for every input: words, pieces and statements. It holds of the given program under the conditions that the row prints. -/
import Derived.Test.YtaiklcijiajkaaaDoorLxD
set_option linter.unusedVariables false
set_option linter.unusedSimpArgs false
set_option maxRecDepth 100000
namespace Go.Ab
open Go.Proofs
variable {glob : Nat → Option (List D)} {p : Nat → Addr} {o : Nat → Obj}

theorem pIn_err (s : List UInt8) : ∀ (n a : Nat) (w : List Pc) (e : Nat), s.length - a ≤ n → pIn s a w = .inr e → e ≠ 0
  | 0, a, w, e, hn, h => by
    unfold pIn at h
    rw [dif_neg (by omega)] at h
    simp at h
  | n + 1, a, w, e, hn, h => by
    unfold pIn at h
    by_cases ha : a < s.length
    · rw [dif_pos ha] at h
      split at h
      · simp at h
      · split at h
        · split at h
          · exact pIn_err s n _ _ e (by omega) h
          · cases h
            decide
        · rename_i h0
          cases h
          exact h0
    · rw [dif_neg ha] at h
      simp at h
theorem pOut_err (s : List UInt8) : ∀ (n a : Nat) (out : List (List Pc)) (e : Nat), s.length - a ≤ n → pOut s a out = .inr e → e ≠ 0
  | 0, a, out, e, hn, h => by
    unfold pOut at h
    rw [dif_neg (by omega)] at h
    simp at h
  | n + 1, a, out, e, hn, h => by
    unfold pOut at h
    by_cases ha : a + runN blkB s a < s.length
    · rw [dif_pos ha] at h
      split at h
      · split at h
        · exact pOut_err s n _ _ e (by omega) h
        · cases h
          decide
      · rename_i e' h0
        cases h
        exact pIn_err s _ _ _ _ (Nat.le_refl _) h0
    · rw [dif_neg ha] at h
      simp at h
theorem pWords_err (s : List UInt8) (e : Nat) (h : pWords s = .inr e) : e ≠ 0 := pOut_err s _ _ _ _ (Nat.le_refl _) h
theorem pAttr_err (s : List UInt8) : ∀ (n i f e : Nat), s.length - i ≤ n → pAttr s i f = .inr e → e ≠ 0
  | 0, i, f, e, hn, h => by
    unfold pAttr at h
    rw [dif_neg (by omega)] at h
    simp at h
  | n + 1, i, f, e, hn, h => by
    unfold pAttr at h
    by_cases hi : i < s.length
    · rw [dif_pos hi] at h
      split at h
      · split at h
        · cases h
          decide
        · split at h
          · cases h
            decide
          · simp at h
      · simp only at h
        split at h
        · cases h
          decide
        · exact pAttr_err s n _ _ e (by omega) h
    · rw [dif_neg hi] at h
      simp at h

noncomputable def FAttr (p : Nat → Addr) (o : Nat → Obj) : List D → Option (List D)
  | [.s s] => if s.length < 4294967281 then some (attrD p o (pAttr s 0 0)) else none
  | _ => none
theorem FAttr_at (s : List UInt8) (h : s.length < 4294967281) : FAttr p o [.s s] = some (attrD p o (pAttr s 0 0)) := by
  simp only [FAttr]
  rw [if_pos h]
noncomputable def ES2 (p : Nat → Addr) (o : Nat → Obj) : Abs := ext (ext (ES1 p o) 44 FHides) 46 (FAttr p o)
section
variable {m : Int} (h20 : glob 5 = some [.v (.int .i64 m)]) (hs : Sents glob p o)
include h20 hs
theorem ES2_ok : ∀ f, Pure Tryd.prog (mkCtx tab glob) f (ES2 p o f) := by
  have hE := ES1_ok h20 hs
  refine ext_ok (ext_ok hE ?_) ?_
  · refine pure_of (T_ok glob) hE Tryd.func44 (by kernel_rfl) (kp := kp44) (fr := fr44) (by kernel_rfl) fun ds rs hF => ?_
    unfold FHides at hF
    split at hF
    · split at hF
      · rename_i h
        cases hF
        exact ⟨0, evHides _ h⟩
      · simp at hF
    · simp at hF
  · refine pure_of (T_ok glob) hE Tryd.func46 (by kernel_rfl) (kp := kp46) (fr := fr46) (by kernel_rfl) fun ds rs hF => ?_
    unfold FAttr at hF
    split at hF
    · split at hF
      · rename_i h
        cases hF
        exact ⟨_, evAttr hs _ h⟩
      · simp at hF
    · simp at hF
end
/-- A statement's cells. -/
def smC (s : Sm) : List D := [.v (.int .i64 s.kind), .v (.int .i64 s.line), .s s.name, .sl 1 (s.heads.map encW), .sl 1 (s.words.map encW), .v (.int .i64 s.flags), .s s.prog, .s s.recipe, .v (.bool s.hidden), .v (.bool s.command)]
def encS (s : Sm) : D := .st (smC s)
def smD (p : Nat → Addr) (o : Nat → Obj) : Sm ⊕ Nat → List D
  | .inl s => [encS s, .v .nilIface]
  | .inr e => [encS Sm.z, erD p o e]
section
variable (hs : Sents glob p o)
include hs
theorem gl7 : glob 4 = some [.ifc 121 (.at (p 7) (o 7))] := hs.glob 7 (by decide) (by decide) (by decide)
set_option maxHeartbeats 8000000 in
theorem evInc (s : List UInt8) (hl : s.length < 4294967281) : fnK (mkCtx tab glob) (ES2 p o) kp23 fr23 0 Tryd.f23 [.s s] = some (smD p o (pInc s)) := by
  have h3 := gl3 hs
  have hEC : ES2 p o 22 = F127 := rfl
  have hET : ES2 p o 13 = FTrimG := rfl
  have hEW : ES2 p o 25 = FWords p o := rfl
  have hC : F127 [.s s, .s [124]] = some [.s (Lib.trimPrefix s [124]), .v (.bool (Lib.hasPrefix s [124]))] := rfl
  have hW := FWords_at (p := p) (o := o) s hl
  have hle : (Lib.trimPrefix s [124]).length ≤ s.length := by
    unfold Lib.trimPrefix
    split <;> simp
  have hT := FTrimG_at (Lib.trimPrefix s [124]) (by omega)
  unfold pInc
  cases hp : Lib.hasPrefix s [124] with
  | true =>
    rw [hp] at hC
    simp only [if_true]
    generalize trimG (Lib.trimPrefix s [124]) = t at *
    generalize Lib.trimPrefix s [124] = r at *
    cases t with
    | nil => simp [Tryd.f23, fr23, hEC, hET, hC, hT, h3, smD, encS, smC, Sm.z, erD, sentD]
    | cons b t => simp [Tryd.f23, fr23, hEC, hET, hC, hT, h3, smD, encS, smC, Sm.z]
  | false =>
    rw [hp] at hC
    simp only [Bool.false_eq_true, if_false]
    cases hq : pWords s with
    | inr e =>
      have he := pWords_err s e hq
      rw [hq] at hW
      simp only [wordsD, erD, if_neg he, sentD] at hW
      simp [Tryd.f23, fr23, hEC, hEW, hC, hW, h3, smD, encS, smC, Sm.z, erD, he, sentD]
    | inl ws =>
      rw [hq] at hW
      cases ws with
      | nil =>
        simp only [wordsD, List.map_nil] at hW
        simp [Tryd.f23, fr23, hEC, hEW, hC, hW, h3, smD, encS, smC, Sm.z, erD, sentD]
      | cons w ws =>
        simp only [wordsD, List.map_cons] at hW
        have hne : ((ws.length : Int) + 1 == 0) = false := by rw [beq_eq_false_iff_ne]; omega
        simp [Tryd.f23, fr23, hEC, hEW, hC, hW, h3, smD, encS, smC, Sm.z, hne]
set_option maxHeartbeats 8000000 in
theorem evAsg (a s : List UInt8) (hal : a.length < 4294967281) (hl : s.length < 4294967281) : fnK (mkCtx tab glob) (ES2 p o) kp26 fr26 0 Tryd.f26 [.s a, .s s] = some (smD p o (pAsg a s)) := by
  have h4 := gl4 hs
  have hET : ES2 p o 13 = FTrimG := rfl
  have hEW : ES2 p o 25 = FWords p o := rfl
  have hEF : ES2 p o 24 = FFind := rfl
  have hEN : ES2 p o 43 = FName := rfl
  have hEH : ES2 p o 44 = FHides := rfl
  have hT := FTrimG_at a hal
  have hle := trimG_le a
  have hN := FName_at (trimG a) (by omega)
  have hF := FFind_at s [61] hl
  have hfl := rFind_lt s [61] s.length 0 (by omega)
  rw [← pFind_eq] at hfl
  unfold pAsg
  generalize trimG a = t at *
  cases hn : namOk t with
  | false =>
    rw [hn] at hN
    simp only [Bool.false_eq_true, if_false]
    simp [Tryd.f26, fr26, hET, hT, hEN, hN, h4, smD, encS, smC, Sm.z, erD, sentD]
  | true =>
    rw [hn] at hN
    simp only [if_true]
    generalize pFind s [61] 0 = k at *
    have fin : ∀ (r : List UInt8) (hid : Bool), r.length < 4294967281 → ∀ z : Option (List D),
        (∀ ws, pWords r = .inl ws → FWords p o [.s r] = some [.sl 1 (ws.map encW), .v .nilIface] → z = some (smD p o (.inl { Sm.z with kind := 1, name := t, hidden := hid, words := ws }))) →
        (∀ e, pWords r = .inr e → e ≠ 0 → FWords p o [.s r] = some [.sl 1 [], .ifc 121 (.at (p e) (o e))] → z = some (smD p o (.inr e))) →
        z = some (smD p o (match pWords r with | .inr e => .inr e | .inl ws => .inl { Sm.z with kind := 1, name := t, hidden := hid, words := ws })) := by
      intro r hid hr z h1 h2
      have hW := FWords_at (p := p) (o := o) r hr
      cases hq : pWords r with
      | inr e =>
        have he := pWords_err r e hq
        rw [hq] at hW
        simp only [wordsD, erD, if_neg he, sentD] at hW
        exact h2 e hq he hW
      | inl ws =>
        rw [hq] at hW
        exact h1 ws hq hW
    by_cases hk : k < 0
    · have hk' : ¬ 0 ≤ k := by omega
      simp only [hk', decide_false, Bool.false_and, Bool.false_eq_true, if_false]
      refine fin s false hl _ (fun ws hq hW => ?_) fun e hq he hW => ?_
      · simp [Tryd.f26, fr26, hET, hT, hEN, hN, hEF, hF, hk', hEW, hW, smD, encS, smC, Sm.z]
      · simp [Tryd.f26, fr26, hET, hT, hEN, hN, hEF, hF, hk', hEW, hW, smD, encS, smC, Sm.z, erD, he, sentD]
    · obtain ⟨h1, h2, _⟩ := hfl.resolve_left hk
      obtain ⟨n, rfl⟩ : ∃ n : Nat, k = n := ⟨k.toNat, by omega⟩
      have hk' : (0 : Int) ≤ n := by omega
      have c1 : n ≤ s.length := by omega
      have c2 : n + 1 ≤ s.length := by omega
      have c3 : (n : Int) + 1 ≤ s.length := by omega
      have c4 : (n : Int) ≤ s.length := by omega
      have c5 : (0 : Int) ≤ (n : Int) + 1 := by omega
      have t1 : ((n : Int) + 1).toNat = n + 1 := by omega
      have t2 : ((n : Int)).toNat = n := by omega
      have hw : IntKind.i64.wrap ((n : Int) + 1) = (n : Int) + 1 := wrap_i64 (by omega) (by omega)
      have hH := FHides_at (s.take n) (by simp; omega)
      rw [t2]
      cases hh : hides (s.take n) with
      | false =>
        rw [hh] at hH
        simp only [Bool.and_false, Bool.false_eq_true, if_false]
        refine fin s false hl _ (fun ws hq hW => ?_) fun e hq he hW => ?_
        · simp [Tryd.f26, fr26, hET, hT, hEN, hN, hEF, hF, hk', c1, c4, t2, hEH, hH, hEW, hW, smD, encS, smC, Sm.z]
        · simp [Tryd.f26, fr26, hET, hT, hEN, hN, hEF, hF, hk', c1, c4, t2, hEH, hH, hEW, hW, smD, encS, smC, Sm.z, erD, he, sentD]
      | true =>
        rw [hh] at hH
        simp only [hk', decide_true, Bool.and_true, if_true]
        refine fin (s.drop (n + 1)) true (by simp; omega) _ (fun ws hq hW => ?_) fun e hq he hW => ?_
        · simp [Tryd.f26, fr26, hET, hT, hEN, hN, hEF, hF, hk', c1, c2, c3, c4, c5, t1, t2, hw, hEH, hH, hEW, hW, smD, encS, smC, Sm.z]
        · simp [Tryd.f26, fr26, hET, hT, hEN, hN, hEF, hF, hk', c1, c2, c3, c4, c5, t1, t2, hw, hEH, hH, hEW, hW, smD, encS, smC, Sm.z, erD, he, sentD]
end
end Go.Ab
