/- One text of a proof that a law of this seat says true for every input: words, pieces and statements. It holds of the given program under the conditions that the row prints. -/
import Derived.Test.YtaiklcijiajkaaaDoorLxC
set_option linter.unusedVariables false
set_option linter.unusedSimpArgs false
set_option maxRecDepth 100000
namespace Go.Ab
open Go.Proofs
variable {glob : Nat → Option (List D)} {p : Nat → Addr} {o : Nat → Obj}

theorem ixb (l : List UInt8) (c : UInt8) : decide (0 ≤ Lib.indexByte l c) = l.contains c := by
  induction l with
  | nil => rfl
  | cons b l ih =>
    unfold Lib.indexByte
    have hge := Lib.indexByte_ge l c
    by_cases h : b = c
    · simp [h]
    · have h1 : (b == c) = false := by simpa using h
      have h2 : (c == b) = false := by simpa using Ne.symm h
      rw [h1, List.contains_cons, h2, Bool.false_or, ← ih]
      simp only [Bool.false_eq_true, if_false]
      by_cases h3 : Lib.indexByte l c = -1
      · simp [h3]
      · have h4 : (Lib.indexByte l c == -1) = false := by simpa using h3
        rw [h4]
        simp only [Bool.false_eq_true, if_false]
        rw [decide_eq_decide]
        omega
theorem F93_at (l : List UInt8) (b : UInt8) : F93 [.s l, .v (.int .u8 b.toNat)] = some [.v (.int .i64 (Lib.indexByte l b))] := by
  simp [F93]
set_option maxHeartbeats 8000000 in
/-- lex.Find -/
theorem evFind (s sg : List UInt8) (hl : s.length < 4294967281) :
    fnK (TL glob (M5 p o)) EG kp24 fr24 (s.length + 2) Tryd.f24 [.s s, .s sg] = some [.v (.int .i64 (pFind s sg 0))] := by
  have hEB : EG 40 = FP blkB := rfl
  have hEI : EG 19 = F93 := rfl
  simp [Tryd.f24]
  refine loop_rule (R := List D) (σ := Nat) (fun a => ⟨slots 66 [(0, .d (.s s)), (1, .d (.s sg)), (5, .ref (1, 11) 0)], [((1, 11), .box [.d (.s s), .d (.v (.int .i64 a)), .d (.v .nilIface)])]⟩)
    (fun a => s.length - a) (fun a => a ≤ s.length) (fun a => some [.v (.int .i64 (pFind s sg a))]) 0 [0, 1, 5] (by simp [kp24]) (by omega) (by omega) (by simp) ?_
  intro a κ' ha hn he hr
  unfold pFind
  by_cases hal : a < s.length
  · have hal' : (a : Int) < s.length := by omega
    rw [dif_pos hal]
    have hF := FP_at blkB s[a]
    cases hbk : blkB s[a] with
    | true =>
      rw [hbk] at hF
      have hw : IntKind.i64.wrap ((a : Int) + 1) = (a : Int) + 1 := wrap_i64 (by omega) (by omega)
      simp [hal, hal', hEB, hF, hw]
      exact hn (a + 1) _ (by omega) (by omega) (by simp)
    | false =>
      rw [hbk] at hF
      have hg := pOne_gt s a hal hbk
      have hP := piece_at (p := p) (o := o) s a hl hal
      have hql : (pOne s a).2.2 = 0 → (pOne s a).1.k = 0 → (pOne s a).1.t.length ≤ s.length := by
        intro h0 hk
        obtain ⟨e1, e2⟩ := one_law s a
        have h0' : (rOne s a).2.2 = 0 := by rw [← e1]; exact h0
        have e := e2 h0'
        rw [e] at hk ⊢
        rw [one_plain s a h0' hk]
        unfold subs
        simp
        omega
      by_cases h0 : (pOne s a).2.2 = 0
      · have hgt := hg.resolve_left (by simpa using h0)
        rw [if_neg (by simp), if_pos h0, dif_pos hgt.1]
        generalize pOne s a = x at *
        obtain ⟨⟨k, t, f, q⟩, x2, x3⟩ := x
        simp only at h0 hgt hP hql ⊢
        subst h0
        simp only [erD, if_true, encA] at hP
        by_cases hk : k = 0
        · have hql := hql rfl hk
          subst hk
          rw [if_pos rfl]
          obtain ⟨Q, hQ⟩ : ∃ Q : Int, (match t.findIdx? (sg.contains ·) with | some i => (a : Int) + i | none => pFind s sg x2) = Q := ⟨_, rfl⟩
          have hQ' : ∀ z : Option (List D), z = some [.v (.int .i64 Q)] → z = some [.v (.int .i64 (match t.findIdx? (sg.contains ·) with | some i => (a : Int) + i | none => pFind s sg x2))] := fun z hz => by rw [hQ]; exact hz
          refine hQ' _ ?_
          simp [hal, hal', hEB, hF, gfL, M5, hP]
          refine loop_rule (R := List D) (σ := Nat) (fun i => ⟨slots 66 [(0, .d (.s s)), (1, .d (.s sg)), (5, .ref (1, 11) 0), (6, .d (.v (.int .i64 a))), (7, .ref (1, 7) 0), (51, .d (.v (.int .i64 t.length))), (52, .d (.v (.int .i64 i)))],
              [((1, 7), .box [.d (.v (.int .i64 0)), .d (.s t), .d (.s f), .d (.s q)]), ((1, 11), .box [.d (.s s), .d (.v (.int .i64 x2)), .d (.v .nilIface)])]⟩)
            (fun i => t.length - i) (fun i => i ≤ t.length ∧ ∀ j, j < i → ∀ h : j < t.length, sg.contains t[j] = false) (fun _ => some [.v (.int .i64 Q)]) 0 [0, 1, 5, 6, 7, 51, 52] (by simp [kp24]) ⟨by omega, fun j h => by omega⟩ (by omega) (by simp) ?_
          rintro i κ2 ⟨hi, hpre⟩ hn2 he2 hr2
          have hw : IntKind.i64.wrap ((i : Int) + 1) = (i : Int) + 1 := wrap_i64 (by omega) (by omega)
          have hw2 : IntKind.i64.wrap ((a : Int) + i) = (a : Int) + i := wrap_i64 (by omega) (by omega)
          by_cases hil : i < t.length
          · have hil' : (i : Int) < t.length := by omega
            have hI := F93_at sg t[i]
            have hix := ixb sg t[i]
            cases hc : sg.contains t[i] with
            | true =>
              rw [hc] at hix
              have hfi : t.findIdx? (sg.contains ·) = some i := by
                rw [List.findIdx?_eq_some_iff_getElem]
                exact ⟨hil, hc, fun j hj => by rw [hpre j hj (by omega)]; simp⟩
              have hix' : 0 ≤ Lib.indexByte sg t[i] := by simpa using hix
              rw [hfi] at hQ
              simp only at hQ
              have hwQ : IntKind.i64.wrap Q = Q := by rw [← hQ]; exact hw2
              simp [hil, hil', gfL, hEI, hI, hix', hw2, hr2, hr, hQ, hwQ]
            | false =>
              rw [hc] at hix
              have hix' : ¬ 0 ≤ Lib.indexByte sg t[i] := by simpa using hix
              simp [hil, hil', gfL, hEI, hI, hix', hw]
              exact hn2 (i + 1) _ ⟨by omega, fun j hj h => by
                rcases Nat.lt_or_ge j i with h1 | h1
                · exact hpre j h1 h
                · obtain rfl : j = i := by omega
                  exact hc⟩ (by omega) (by simp)
          · have hil' : ¬ (i : Int) < t.length := by omega
            have hfi : t.findIdx? (sg.contains ·) = none := by
              rw [List.findIdx?_eq_none_iff]
              intro x hx
              obtain ⟨j, hj, rfl⟩ := List.getElem_of_mem hx
              exact hpre j (by omega) hj
            rw [hfi] at hQ
            simp only at hQ
            rw [← hQ]
            simp [hil, hil', he2]
            exact hn x2 _ hgt.2 (by omega) (by simp)
        · rw [if_neg hk]
          have hk' : ((k : Int) != 0) = true := by rw [bne_iff_ne]; omega
          simp [hal, hal', hEB, hF, gfL, M5, hP, hk, hk']
          exact hn x2 _ hgt.2 (by omega) (by simp)
      · rw [if_neg (by simp), if_neg h0]
        generalize pOne s a = x at *
        obtain ⟨⟨k, t, f, q⟩, x2, x3⟩ := x
        simp only at h0 hP
        simp only [erD, if_neg h0, encA, sentD] at hP
        simp [hal, hal', hEB, hF, gfL, M5, hP, he]
  · have hal' : ¬ (a : Int) < s.length := by omega
    rw [dif_neg hal]
    simp [hal, hal', he]
end Go.Ab

set_option linter.unusedVariables false
set_option linter.unusedSimpArgs false
set_option maxRecDepth 100000
namespace Go.Ab
open Go.Proofs
variable {glob : Nat → Option (List D)} {p : Nat → Addr} {o : Nat → Obj}

noncomputable def FWords (p : Nat → Addr) (o : Nat → Obj) : List D → Option (List D)
  | [.s s] => if s.length < 4294967281 then some (wordsD p o (pWords s)) else none
  | _ => none
def FFind : List D → Option (List D)
  | [.s s, .s sg] => if s.length < 4294967281 then some [.v (.int .i64 (pFind s sg 0))] else none
  | _ => none
def FTrimG : List D → Option (List D)
  | [.s s] => if s.length < 4294967281 then some [.s (trimG s)] else none
  | _ => none
def FHides : List D → Option (List D)
  | [.s s] => if s.length < 4294967281 then some [.v (.bool (hides s))] else none
  | _ => none
theorem FWords_at (s : List UInt8) (h : s.length < 4294967281) : FWords p o [.s s] = some (wordsD p o (pWords s)) := by
  simp only [FWords]
  rw [if_pos h]
theorem FFind_at (s sg : List UInt8) (h : s.length < 4294967281) : FFind [.s s, .s sg] = some [.v (.int .i64 (pFind s sg 0))] := by
  simp only [FFind]
  rw [if_pos h]
theorem FTrimG_at (s : List UInt8) (h : s.length < 4294967281) : FTrimG [.s s] = some [.s (trimG s)] := by
  simp only [FTrimG]
  rw [if_pos h]
theorem FHides_at (s : List UInt8) (h : s.length < 4294967281) : FHides [.s s] = some [.v (.bool (hides s))] := by
  simp only [FHides]
  rw [if_pos h]
theorem trim_at (s cs : List UInt8) (h : s.length < 4294967281) (hc : cs.length < 4294967281) (ha : cs.all (fun b => decide (b.toNat < 128)) = true) : F98 [.s s, .s cs] = some [.s (Lib.trimS s cs)] := by
  simp only [F98]
  rw [if_pos ⟨h, hc, ha⟩]
theorem dropW_le {α : Type} (q : α → Bool) (l : List α) : (l.dropWhile q).length ≤ l.length := (List.dropWhile_sublist q).length_le
theorem trimSle (l cs : List UInt8) : (Lib.trimS l cs).length ≤ l.length := by
  unfold Lib.trimS Lib.trimLeftS Lib.trimRightS
  refine Nat.le_trans (dropW_le _ _) ?_
  rw [List.length_reverse]
  refine Nat.le_trans (dropW_le _ _) ?_
  rw [List.length_reverse]
  exact Nat.le_refl _
theorem trimG_le (l : List UInt8) : (trimG l).length ≤ l.length := trimSle l gaps
noncomputable def ES1 (p : Nat → Addr) (o : Nat → Obj) : Abs := ext (ext (ext (ext (ext EG 25 (FWords p o)) 24 FFind) 13 FTrimG) 22 F127) 45 F153
section
variable {m : Int} (h20 : glob 5 = some [.v (.int .i64 m)]) (hs : Sents glob p o)
include h20 hs
theorem ES1_ok : ∀ f, Pure Tryd.prog (mkCtx tab glob) f (ES1 p o f) := by
  have hE := EG_ok h20
  have hT := TL_ok (M5_ok h20 hs)
  refine ext_ok (ext_ok (ext_ok (ext_ok (ext_ok hE ?_) ?_) ?_) F127_ok) (F153_ok h20)
  · refine pure_of (T := TL glob (M5 p o)) hT (E := EG) hE Tryd.func25 (by kernel_rfl) (kp := kp25) (fr := fr25) (by kernel_rfl) fun ds rs hF => ?_
    unfold FWords at hF
    split at hF
    · split at hF
      · rename_i h
        cases hF
        exact ⟨_, evWords _ h⟩
      · simp at hF
    · simp at hF
  · refine pure_of (T := TL glob (M5 p o)) hT (E := EG) hE Tryd.func24 (by kernel_rfl) (kp := kp24) (fr := fr24) (by kernel_rfl) fun ds rs hF => ?_
    unfold FFind at hF
    split at hF
    · split at hF
      · rename_i h
        cases hF
        exact ⟨_, evFind _ _ h⟩
      · simp at hF
    · simp at hF
  · refine pure_of (T_ok glob) hE Tryd.func13 (by kernel_rfl) (kp := kp13) (fr := fr13) (by kernel_rfl) fun ds rs hF => ?_
    unfold FTrimG at hF
    split at hF
    · rename_i s
      split at hF
      · rename_i h
        cases hF
        refine ⟨0, ?_⟩
        have hq := trim_at s gaps h (by decide) (by decide)
        have hEQ : EG 21 = F98 := rfl
        simp [Tryd.f13, hEQ, hq, trimG]
      · simp at hF
    · simp at hF
end
theorem evHides (s : List UInt8) (h : s.length < 4294967281) : fnK (mkCtx tab glob) (ES1 p o) kp44 fr44 0 Tryd.f44 [.s s] = some [.v (.bool (hides s))] := by
  have h1 := FTrimG_at s h
  have hle := trimG_le s
  have h2 := trim_at (trimG s) [85] (by omega) (by decide) (by decide)
  have hEQ : ES1 p o 21 = F98 := rfl
  have hET : ES1 p o 13 = FTrimG := rfl
  unfold hides
  generalize trimG s = t at *
  cases t with
  | nil => simp [Tryd.f44, hET, h1]
  | cons b r =>
    generalize Lib.trimS (b :: r) [85] = u at *
    cases u with
    | nil => simp [Tryd.f44, hET, hEQ, h1, h2]
    | cons c q => simp [Tryd.f44, hET, hEQ, h1, h2]
/-! ### attributes -/
def attrD (p : Nat → Addr) (o : Nat → Obj) : (Nat × List UInt8) ⊕ Nat → List D
  | .inl (f, q) => [.st [.v (.int .i64 f), .s q], .v .nilIface]
  | .inr e => [.st [.v (.int .i64 0), .s []], erD p o e]
theorem or_wrap : ∀ f, f < 256 → ∀ b, b < 8 → IntKind.i64.wrap ((f % 2 ^ IntKind.i64.bits ||| (IntKind.i64.wrap ((2 : Int) ^ min b IntKind.i64.bits) % (2 : Int) ^ IntKind.i64.bits).toNat : Nat) : Int) = ((f ||| 1 <<< b : Nat) : Int) := by decide +kernel
section
variable (hs : Sents glob p o)
include hs
set_option maxHeartbeats 8000000 in
theorem evAttr (s : List UInt8) (hl : s.length < 4294967281) : fnK (mkCtx tab glob) (ES1 p o) kp46 fr46 (s.length + 2) Tryd.f46 [.s s] = some (attrD p o (pAttr s 0 0)) := by
  have h7 : glob 4 = some [.ifc 121 (.at (p 7) (o 7))] := hs.glob 7 (by decide) (by decide) (by decide)
  have h2 : glob 0 = some [.ifc 121 (.at (p 2) (o 2))] := hs.glob 2 (by decide) (by decide) (by decide)
  have hEI : ES1 p o 19 = F93 := rfl
  simp [Tryd.f46]
  refine loop_rule (R := List D) (σ := Nat × Nat) (fun x => ⟨slots 51 [(0, .d (.s s)), (2, .ref (1, 2) 0), (4, .ref (1, 4) 0), (8, .d (.v (.int .i64 s.length))), (9, .d (.v (.int .i64 x.1)))], [((1, 4), .box [.d (.v (.int .i64 x.2)), .d (.s [])]), ((1, 2), .box [.d (.v (.int .i64 0)), .d (.s [])])]⟩)
    (fun x => s.length - x.1) (fun x => x.1 ≤ s.length ∧ x.2 < 256) (fun x => some (attrD p o (pAttr s x.1 x.2))) (0, 0) [0, 2, 4, 8, 9] (by simp [kp46]) ⟨by simp, by simp⟩ (by simp) (by simp) ?_
  rintro ⟨i, f⟩ κ' ⟨hi, hf⟩ hn he hr
  simp only at hi hf
  have hw : IntKind.i64.wrap ((i : Int) + 1) = (i : Int) + 1 := wrap_i64 (by omega) (by omega)
  unfold pAttr
  by_cases hil : i < s.length
  · have hil' : (i : Int) < s.length := by omega
    rw [dif_pos hil]
    by_cases h80 : s[i] = 80
    · rw [if_pos h80]
      have c0 : (0 : Int) ≤ (i : Int) + 1 := by omega
      have c1 : (i : Int) + 1 ≤ s.length := by omega
      have t1 : ((i : Int) + 1).toNat = i + 1 := by omega
      have hdl : (s.drop (i + 1)).length ≤ s.length := by simp
      have htk : List.drop (i + 1) (List.take s.length s) = s.drop (i + 1) := by rw [List.take_length]
      generalize hd : s.drop (i + 1) = t at *
      cases t with
      | nil => simp [hil, hil', h80, hw, c0, c1, t1, hd, fr46, h7, hr, attrD, erD, sentD]
      | cons b r =>
        by_cases h120 : 120 < (b :: r).length
        · have h120' : (120 : Int) < (r.length : Int) + 1 := by simp only [List.length_cons] at h120; omega
          have h120'' : 120 < r.length + 1 := by simpa using h120
          simp [hil, hil', h80, hw, c0, c1, t1, hd, fr46, h2, hr, attrD, erD, sentD, h120', h120'']
        · have h120' : ¬ (120 : Int) < (r.length : Int) + 1 := by simp only [List.length_cons] at h120; omega
          have h120'' : ¬ 120 < r.length + 1 := by simpa using h120
          simp [hil, hil', h80, hw, c0, c1, t1, hd, hr, attrD, h120', h120'']
    · rw [if_neg h80]
      have hI := F93_at attrL s[i]
      obtain ⟨v1, v2⟩ := byte_all (P := fun b => b ≠ 80 → (Lib.indexByte attrL b < 0 ↔ valB b = 0) ∧ (0 ≤ Lib.indexByte attrL b → Lib.indexByte attrL b < 8 ∧ valB b = 1 <<< (Lib.indexByte attrL b).toNat)) val_ix s[i] h80
      generalize Lib.indexByte attrL s[i] = q at *
      unfold attrL at hI
      by_cases hq : q < 0
      · rw [if_pos hq]
        simp [hil, hil', h80, hEI, hI, hq, fr46, h7, hr, attrD, erD, sentD]
      · rw [if_neg hq]
        have hq8 := (v2 (by omega)).1
        obtain ⟨b, rfl⟩ : ∃ b : Nat, q = b := ⟨q.toNat, by omega⟩
        have hor := or_wrap f hf b (by omega)
        have hlt := (or_bit f hf b (by omega)).2
        have hmin : min b 64 = b := by omega
        have e1 : ((b : Int)).toNat = b := by omega
        have hq' : ¬ (b : Int) < 0 := by omega
        rw [e1]
        generalize f ||| 1 <<< b = g at *
        simp [hil, hil', h80, hEI, hI, hq', hw, hmin, hor, fr46]
        exact hn (i + 1, g) _ ⟨by simp only; omega, hlt⟩ (by simp only; omega) (by simp)
  · have hil' : ¬ (i : Int) < s.length := by omega
    simp [hil, hil', he, attrD]
end
end Go.Ab
