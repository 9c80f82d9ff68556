/- One text of a proof that a law of this seat says true for every input: words, pieces and statements. It holds of the given program under the conditions that the row prints. -/
import Derived.Test.YtaiklcijiajkaaaDoorRx8
import Derived.Test.YtaiklcijiajkaaaDoorLxE
import Derived.Test.YtaiklcijiajkaaaDoorLn16
import Derived.Test.YtaiklcijiajkaaaDoorLxH
set_option linter.unusedVariables false
set_option linter.unusedSimpArgs false
set_option maxRecDepth 100000
namespace Go.Ab
open Go.Proofs
variable {glob : Nat → Option (List D)} {p : Nat → Addr} {o : Nat → Obj}

def lnLi (l : Ln) : Li := ⟨l.text, l.num, l.cell⟩
theorem encLi_ln (ls : List Ln) : (ls.map lnLi).map encLi = ls.map encLn := by
  simp [encLi, encLn, lnLi]
/-- Lines are short. -/
theorem spm_short (xs : List (List UInt8)) (acc : List Ln) (i : Nat) (ls : List Ln) (h : spm xs acc i = .inl ls) (ha : ∀ l ∈ acc, l.text.length ≤ 400) : ∀ l ∈ ls, l.text.length ≤ 400 := by
  induction hk : xs.length - i using Nat.strongRecOn generalizing i acc with
  | _ k ih =>
    unfold spm at h
    by_cases hil : i < xs.length
    · rw [dif_pos hil] at h
      by_cases hr : recp xs[i] = true
      · rw [if_pos hr] at h
        split at h
        · simp at h
        · refine ih (xs.length - (i + 1)) (by omega) _ _ h (fun l hl => ?_) rfl
          rcases List.mem_append.1 hl with hl | hl
          · exact ha l hl
          · rw [List.mem_singleton] at hl
            subst hl
            simp only [List.length_drop]
            omega
      · rw [if_neg hr] at h
        split at h
        · simp at h
        · rename_i t n hm
          have hnx := lgm_next xs [] i t n hm
          split at h
          · simp at h
          · refine ih (xs.length - n) (by omega) _ _ h (fun l hl => ?_) rfl
            rcases List.mem_append.1 hl with hl | hl
            · exact ha l hl
            · rw [List.mem_singleton] at hl
              subst hl
              simp only
              omega
    · rw [dif_neg hil] at h
      simp only [Sum.inl.injEq] at h
      subst h
      exact ha
theorem bulk_le (c : Nat) : ∀ ls : List Li, (∀ l ∈ ls, l.text.length ≤ c) → bulk ls ≤ ls.length * (c + 1)
  | [], _ => by simp [bulk]
  | l :: r, h => by
    have h1 := h l (by simp)
    have h2 := bulk_le c r (fun l hl => h l (by simp [hl]))
    simp only [bulk, List.map_cons, List.sum_cons, List.length_cons] at h2 ⊢
    rw [Nat.add_mul]
    omega
theorem encLi_inj : ∀ a b, encLi a = encLi b → a = b := by
  rintro ⟨t, n, c⟩ ⟨t2, n2, c2⟩ h
  simp only [encLi, D.st.injEq, List.cons.injEq, D.s.injEq, D.v.injEq, Value.int.injEq, Value.bool.injEq, true_and, and_true] at h
  obtain ⟨rfl, rfl, rfl⟩ := h
  rfl
/-- Both Parse's. -/
noncomputable def FParse (p : Nat → Addr) (o : Nat → Obj) : List D → Option (List D) := lift (fun ls : List Li => [.sl 3 (ls.map encLi)]) fun ls => if ls.length ≤ 4294967000 ∧ bulk ls ≤ 4294967000 then some (parseD p o (pParse ls [] false)) else none
noncomputable def FRParse : List D → Option (List D) := lift (fun ls : List Li => [.sl 3 (ls.map encLi)]) fun ls => if ls.length ≤ 4294967000 ∧ bulk ls ≤ 4294967000 then some (rpD (pParse ls [] false)) else none
theorem lines_inj : ∀ a b : List Li, ([.sl 3 (a.map encLi)] : List D) = [.sl 3 (b.map encLi)] → a = b := fun a b h => by
  simp only [List.cons.injEq, D.sl.injEq, true_and, and_true] at h
  exact map_inj encLi_inj a b h
theorem FParse_at (ls : List Li) (h1 : ls.length ≤ 4294967000) (h2 : bulk ls ≤ 4294967000) : FParse p o [.sl 3 (ls.map encLi)] = some (parseD p o (pParse ls [] false)) :=
  (lift_enc (enc := fun ls : List Li => [.sl 3 (ls.map encLi)]) lines_inj ls).trans (if_pos ⟨h1, h2⟩)
theorem FRParse_at (ls : List Li) (h1 : ls.length ≤ 4294967000) (h2 : bulk ls ≤ 4294967000) : FRParse [.sl 3 (ls.map encLi)] = some (rpD (pParse ls [] false)) :=
  (lift_enc (enc := fun ls : List Li => [.sl 3 (ls.map encLi)]) lines_inj ls).trans (if_pos ⟨h1, h2⟩)
theorem FParse_ok {m : Int} (h20 : glob 5 = some [.v (.int .i64 m)]) (hs : Sents glob p o) : Pure Tryd.prog (mkCtx tab glob) 8 (FParse p o) := by
  refine pure_of (T := TP glob) (arrs_ok (T_ok glob) _) (ES4_ok h20 hs) Tryd.func8 (by kernel_rfl) (kp := kp8) (fr := fr8) (by kernel_rfl) fun ds rs hF => ?_
  obtain ⟨ls, rfl, hf⟩ := lift_some hF
  split at hf
  · rename_i h
    cases hf
    exact ⟨_, evParse hs ls h.1 h.2⟩
  · simp at hf
/-- What a text says: statements, or an error's number and its line. -/
def pOf (text : List UInt8) : List Sm ⊕ (Nat × Int) :=
  match (if 4000 < text.length then .inr (0, false) else spm (phys text) [] 0 : List Ln ⊕ (Nat × Bool)) with
  | .inr (n, q) => .inr (if q then 5 else 2, n)
  | .inl ls => pParse (ls.map lnLi) [] false
theorem of_bounds (text : List UInt8) (ls : List Ln) (h : (if 4000 < text.length then .inr (0, false) else spm (phys text) [] 0 : List Ln ⊕ (Nat × Bool)) = .inl ls) : (ls.map lnLi).length ≤ 4001 ∧ bulk (ls.map lnLi) ≤ 4294967000 := by
  split at h
  · simp at h
  · have h1 := phys_bounds text
    obtain ⟨r, e1, e2, e3, e4⟩ := whole_law (phys text) [] 0 ls (Nat.zero_le _) h
    simp only [List.nil_append] at e1
    subst e1
    have h2 := spm_short _ _ _ _ h (fun l hl => by simp at hl)
    have h3 : ∀ l ∈ ls.map lnLi, l.text.length ≤ 400 := fun l hl => by
      obtain ⟨x, hx, rfl⟩ := List.mem_map.1 hl
      exact h2 x hx
    have h4 := bulk_le 400 _ h3
    simp only [List.length_map] at h4 ⊢
    omega
noncomputable def EO (p : Nat → Addr) (o : Nat → Obj) : Abs := ext (ext (fun _ _ => none) 7 (F37 (sentD p o 2) (sentD p o 5))) 8 (FParse p o)
theorem F37_ok {m : Int} (h20 : glob 5 = some [.v (.int .i64 m)]) (hs : Sents glob p o) : Pure Tryd.prog (mkCtx tab glob) 7 (F37 (sentD p o 2) (sentD p o 5)) := by
  have := E5_ok h20 (hs.glob 5 (by decide) (by decide) (by decide)) (hs.glob 2 (by decide) (by decide) (by decide)) 7
  exact this
theorem EO_ok {m : Int} (h20 : glob 5 = some [.v (.int .i64 m)]) (hs : Sents glob p o) : ∀ f, Pure Tryd.prog (mkCtx tab glob) f (EO p o f) :=
  ext_ok (ext_ok none_ok (F37_ok h20 hs)) (FParse_ok h20 hs)
set_option maxHeartbeats 4000000 in
/-- stmt.Of -/
theorem evOf (text : List UInt8) (hl : text.length ≤ 5000) : fnK (mkCtx tab glob) (EO p o) kp5 fr5 0 Tryd.f5 [.s text] = some (parseD p o (pOf text)) := by
  have hES : EO p o 7 = F37 (sentD p o 2) (sentD p o 5) := rfl
  have hEP : EO p o 8 = FParse p o := rfl
  have hF := F37_at (sentD p o 2) (sentD p o 5) text (by omega)
  unfold spF at hF
  unfold pOf
  cases hr : (if 4000 < text.length then .inr (0, false) else spm (phys text) [] 0 : List Ln ⊕ (Nat × Bool)) with
  | inr nq =>
    obtain ⟨n, q⟩ := nq
    simp only [hr, spD] at hF ⊢
    cases q with
    | true =>
      simp only [if_true, sentD] at hF
      simp [Tryd.f5, hES, hF, parseD, erD, sentD]
    | false =>
      simp only [Bool.false_eq_true, if_false, sentD] at hF
      simp [Tryd.f5, hES, hF, parseD, erD, sentD]
  | inl ls =>
    simp only [hr, spD] at hF ⊢
    obtain ⟨b1, b2⟩ := of_bounds text ls hr
    have hP := FParse_at (p := p) (o := o) (ls.map lnLi) (by omega) b2
    rw [encLi_ln] at hP
    generalize pParse (ls.map lnLi) [] false = r at hP ⊢
    cases r with
    | inl out =>
      simp only [parseD] at hP ⊢
      simp [Tryd.f5, hES, hF, hEP, hP]
    | inr en =>
      obtain ⟨e, n⟩ := en
      simp only [parseD] at hP ⊢
      simp [Tryd.f5, hES, hF, hEP, hP]
noncomputable def FOf (p : Nat → Addr) (o : Nat → Obj) : List D → Option (List D)
  | [.s text] => if text.length ≤ 5000 then some (parseD p o (pOf text)) else none
  | _ => none
theorem FOf_ok {m : Int} (h20 : glob 5 = some [.v (.int .i64 m)]) (hs : Sents glob p o) : Pure Tryd.prog (mkCtx tab glob) 5 (FOf p o) := by
  refine pure_of (T_ok glob) (EO_ok h20 hs) Tryd.func5 (by kernel_rfl) (kp := kp5) (fr := fr5) (by kernel_rfl) fun ds rs hF => ?_
  unfold FOf at hF
  split at hF
  · split at hF
    · rename_i h
      cases hF
      exact ⟨0, evOf _ h⟩
    · simp at hF
  · simp at hF
/-! ### the document's -/
def F39 : List D → Option (List D)
  | [.s l] => if l.length < 4294966000 then some (r12D (spConv (if 4000 < l.length then .inr (0, false) else spm (phys l) [] 0))) else none
  | _ => none
noncomputable def FROf : List D → Option (List D)
  | [.s text] => if text.length ≤ 5000 then some (rpD (pOf text)) else none
  | _ => none
end Go.Ab

set_option linter.unusedVariables false
set_option linter.unusedSimpArgs false
namespace Go.Ab

/-! # How much a statement holds -/
theorem okW_nil : okW [] := ⟨by simp, fun w h => by simp at h⟩
theorem rW_ok (s : List UInt8) : ∀ (n a : Nat) (w : List Pc) (out : List (List Pc)), s.length - a ≤ n → a ≤ s.length → w.length ≤ a → out.length ≤ a → (∀ x ∈ out, x.length ≤ s.length) → ∀ ws, rW s a w out = .inl ws → ws.length ≤ s.length + 1 ∧ ∀ x ∈ ws, x.length ≤ s.length := by
  intro n
  have fin : ∀ (a : Nat) (w : List Pc) (out ws : List (List Pc)), a ≤ s.length → w.length ≤ a → out.length ≤ a → (∀ x ∈ out, x.length ≤ s.length) → (if w = [] then out else out ++ [w]) = ws → (ws.length ≤ a + 1 ∧ ws.length ≤ s.length + 1) ∧ ∀ x ∈ ws, x.length ≤ s.length := by
    intro a w out ws ha hw ho hx h
    subst h
    split
    · exact ⟨by omega, hx⟩
    · refine ⟨by simp; omega, fun x hm => ?_⟩
      rcases List.mem_append.1 hm with hm | hm
      · exact hx x hm
      · rw [List.mem_singleton] at hm
        subst hm
        omega
  induction n with
  | zero =>
    intro a w out hn ha hw ho hx ws h
    unfold rW at h
    rw [dif_neg (by omega)] at h
    injection h with h
    have := fin a w out ws ha hw ho hx h
    exact ⟨this.1.2, this.2⟩
  | succ n ih =>
    intro a w out hn ha hw ho hx ws h
    unfold rW at h
    by_cases hal : a < s.length
    · rw [dif_pos hal] at h
      by_cases hb : blkB s[a] = true
      · rw [if_pos hb] at h
        have hf := fin a w out _ ha hw ho hx rfl
        exact ih (a + 1) [] _ (by omega) (by omega) (by simp) hf.1.1 hf.2 ws h
      · rw [if_neg hb] at h
        have hg := rOne_gt s a hal (by simpa using hb)
        by_cases h0 : (rOne s a).2.2 = 0
        · rw [if_pos h0] at h
          have hgt := hg.resolve_left (by simpa using h0)
          rw [dif_pos hgt.1] at h
          exact ih _ _ out (by omega) hgt.2 (by simp; omega) (by omega) hx ws h
        · rw [if_neg h0] at h
          simp at h
    · rw [dif_neg hal] at h
      injection h with h
      have := fin a w out ws ha hw ho hx h
      exact ⟨this.1.2, this.2⟩
theorem rWords_ok (s : List UInt8) (hs : s.length ≤ 4294966000) (ws : List (List Pc)) (h : rWords s = .inl ws) : okW ws := by
  obtain ⟨h1, h2⟩ := rW_ok s s.length 0 [] [] (by omega) (by omega) (by simp) (by simp) (fun x h => by simp at h) ws h
  exact ⟨by omega, fun w hw => by have := h2 w hw; omega⟩
def Sm.ok (s : Sm) : Prop := okW s.heads ∧ okW s.words
theorem rTail_ok (hs : List (List Pc)) (f : Nat) (q rest : List UInt8) (h1 : okW hs) (hl : rest.length ≤ 4294966000) (s : Sm) (h : rTail hs f q rest = .inl s) : s.ok := by
  unfold rTail at h
  split at h
  · simp at h
  · rename_i ws hw
    injection h with h
    subst h
    exact ⟨h1, rWords_ok _ hl _ hw⟩
theorem rOneS_ok (t : List UInt8) (ht : t.length ≤ 4294966000) (s : Sm) (h : rOneS t = .inl s) : s.ok := by
  unfold rOneS at h
  simp only at h
  by_cases h1 : t[0]? = some 60
  · rw [if_pos h1] at h
    by_cases h2 : t[1]? = some 124
    · rw [if_pos h2] at h
      split at h
      · simp at h
      · injection h with h
        subst h
        exact ⟨okW_nil, okW_nil⟩
    · rw [if_neg h2] at h
      split at h
      · simp at h
      · simp at h
      · rename_i w ws hw
        injection h with h
        subst h
        exact ⟨okW_nil, rWords_ok _ (by simp; omega) _ hw⟩
  · rw [if_neg h1] at h
    by_cases h2 : rFind t [58, 61] 0 < 0
    · rw [if_pos h2] at h
      split at h <;> simp at h
    · rw [if_neg h2] at h
      have hr : (t.drop ((rFind t [58, 61] 0).toNat + 1)).length ≤ 4294966000 := by simp; omega
      have hk : (t.take (rFind t [58, 61] 0).toNat).length ≤ 4294966000 := by simp; omega
      generalize t.drop ((rFind t [58, 61] 0).toNat + 1) = rest at *
      generalize t.take (rFind t [58, 61] 0).toNat = hd at *
      by_cases h3 : t[(rFind t [58, 61] 0).toNat]? = some 61
      · rw [if_pos h3] at h
        split at h
        · split at h
          · simp at h
          · rename_i ws hw
            injection h with h
            subst h
            refine ⟨okW_nil, rWords_ok _ ?_ _ hw⟩
            split
            · simp; omega
            · exact hr
        · simp at h
      · rw [if_neg h3] at h
        split at h
        · simp at h
        · simp at h
        · rename_i w ws hw
          have hok := rWords_ok _ hk _ hw
          cases rest with
          | nil => exact rTail_ok _ _ _ _ hok (by simp) s h
          | cons b r =>
            simp only at h
            split at h
            · exact rTail_ok _ _ _ _ hok hr s h
            · split at h
              · simp at h
              · split at h
                · simp at h
                · exact rTail_ok _ _ _ _ hok (by simp at hr ⊢; omega) s h
theorem pParse_ok : ∀ (ls : List Li) (out : List Sm) (op : Bool), (∀ l ∈ ls, l.text.length ≤ 4294966000) → (∀ s ∈ out, s.ok) → ∀ r, pParse ls out op = .inl r → (∀ s ∈ r, s.ok) ∧ r.length ≤ out.length + ls.length
  | [], out, op, hl, ho, r, h => by
    unfold pParse at h
    injection h with h
    subst h
    exact ⟨ho, by omega⟩
  | l :: ls, out, op, hl, ho, r, h => by
    have hl' : ∀ l ∈ ls, l.text.length ≤ 4294966000 := fun x hx => hl x (by simp [hx])
    have step : ∀ out' op', (∀ s ∈ out', s.ok) → out'.length ≤ out.length + 1 → pParse ls out' op' = .inl r → (∀ s ∈ r, s.ok) ∧ r.length ≤ out.length + (l :: ls).length := fun out' op' h1 h2 h3 => by
      have := pParse_ok ls out' op' hl' h1 r h3
      exact ⟨this.1, by simp only [List.length_cons]; omega⟩
    unfold pParse at h
    split at h
    · refine step _ _ ?_ ?_ h
      · intro s hs
        unfold addRec at hs
        split at hs
        · rename_i s0 h0
          rcases List.mem_append.1 hs with hs | hs
          · exact ho s ((List.dropLast_sublist out).subset hs)
          · rw [List.mem_singleton] at hs
            subst hs
            exact ho s0 (List.mem_of_getLast? h0)
        · exact ho s hs
      · unfold addRec
        split
        · simp
        · omega
    · split at h
      · simp at h
      · split at h
        · exact step _ _ ho (by omega) h
        · split at h
          · simp at h
          · rename_i s hs
            rw [oneS_law] at hs
            have hok := rOneS_ok _ (hl l (by simp)) s hs
            refine step _ _ ?_ (by simp) h
            intro x hx
            rcases List.mem_append.1 hx with hx | hx
            · exact ho x hx
            · rw [List.mem_singleton] at hx
              subst hx
              exact hok
/-! # Which errors there are -/
theorem rOne_code (s : List UInt8) (a : Nat) : (rOne s a).2.2 ≤ 5 := by
  unfold rOne
  split
  · unfold rQuo
    split <;> simp
  · split
    · unfold rCmd
      simp only
      split <;> simp
    · split
      · unfold rDol
        simp only
        repeat' split
        all_goals simp
      · simp [pPln]
theorem rW_code (s : List UInt8) : ∀ (n a : Nat) (w : List Pc) (out : List (List Pc)) (e : Nat), s.length - a ≤ n → rW s a w out = .inr e → e ≤ 5 := by
  intro n
  induction n with
  | zero =>
    intro a w out e hn h
    unfold rW at h
    rw [dif_neg (by omega)] at h
    simp at h
  | succ n ih =>
    intro a w out e hn h
    unfold rW at h
    by_cases hal : a < s.length
    · rw [dif_pos hal] at h
      by_cases hb : blkB s[a] = true
      · rw [if_pos hb] at h
        exact ih _ _ _ e (by omega) h
      · rw [if_neg hb] at h
        have hg := rOne_gt s a hal (by simpa using hb)
        by_cases h0 : (rOne s a).2.2 = 0
        · rw [if_pos h0] at h
          have hgt := hg.resolve_left (by simpa using h0)
          rw [dif_pos hgt.1] at h
          exact ih _ _ _ e (by omega) h
        · rw [if_neg h0] at h
          injection h with h
          subst h
          exact rOne_code s a
    · rw [dif_neg hal] at h
      simp at h
theorem rWords_code (s : List UInt8) (e : Nat) (h : rWords s = .inr e) : e ≤ 18 := Nat.le_trans (rW_code s _ _ _ _ e (Nat.le_refl _) h) (by decide)
theorem rAttr_code : ∀ (l : List UInt8) (f e : Nat), rAttr l f = .inr e → e ≤ 18
  | [], f, e, h => by simp [rAttr] at h
  | b :: r, f, e, h => by
    unfold rAttr at h
    split at h
    · split at h
      · cases h
        decide
      · split at h
        · cases h
          decide
        · simp at h
    · split at h
      · cases h
        decide
      · exact rAttr_code r _ e h
theorem rTail_code (hs : List (List Pc)) (f : Nat) (q rest : List UInt8) (e : Nat) (h : rTail hs f q rest = .inr e) : e ≤ 18 := by
  unfold rTail at h
  split at h
  · rename_i e' hw
    injection h with h
    subst h
    exact rWords_code _ _ hw
  · simp at h
theorem rOneS_code (t : List UInt8) (e : Nat) (h : rOneS t = .inr e) : e ≤ 18 := by
  unfold rOneS at h
  simp only at h
  repeat' split at h
  all_goals first
    | (exact rTail_code _ _ _ _ _ h)
    | (simp at h; done)
    | (injection h with h; subst h; first | decide | (rename_i hw; exact rWords_code _ _ hw) | (rename_i hw; exact rAttr_code _ _ _ hw))
theorem pParse_code : ∀ (ls : List Li) (out : List Sm) (op : Bool) (e : Nat) (n : Int), pParse ls out op = .inr (e, n) → e ≤ 18
  | [], out, op, e, n, h => by simp [pParse] at h
  | l :: ls, out, op, e, n, h => by
    unfold pParse at h
    split at h
    · exact pParse_code ls _ _ e n h
    · split at h
      · cases h
        decide
      · split at h
        · exact pParse_code ls _ _ e n h
        · split at h
          · rename_i e' hs
            rw [oneS_law] at hs
            injection h with h
            injection h with h1 h2
            subst h1
            exact rOneS_code _ _ hs
          · exact pParse_code ls _ _ e n h
theorem pParse_ne : ∀ (ls : List Li) (out : List Sm) (op : Bool) (e : Nat) (n : Int), pParse ls out op = .inr (e, n) → e ≠ 0
  | [], out, op, e, n, h => by simp [pParse] at h
  | l :: ls, out, op, e, n, h => by
    unfold pParse at h
    split at h
    · exact pParse_ne ls _ _ e n h
    · split at h
      · cases h
        decide
      · split at h
        · exact pParse_ne ls _ _ e n h
        · split at h
          · rename_i e' hs
            injection h with h
            injection h with h1 h2
            subst h1
            exact pOneS_err _ _ hs
          · exact pParse_ne ls _ _ e n h
/-- What a text or lines may say. -/
def okR : List Sm ⊕ (Nat × Int) → Prop
  | .inl out => out.length ≤ 4294967000 ∧ ∀ s ∈ out, s.ok
  | .inr (e, _) => 1 ≤ e ∧ e ≤ 18
theorem pParse_okR (ls : List Li) (h1 : ls.length ≤ 4294967000) (h2 : ∀ l ∈ ls, l.text.length ≤ 4294966000) : okR (pParse ls [] false) := by
  cases h : pParse ls [] false with
  | inl out =>
    obtain ⟨h3, h4⟩ := pParse_ok ls [] false h2 (fun s hs => by simp at hs) out h
    exact ⟨by simp at h4; omega, h3⟩
  | inr en =>
    obtain ⟨e, n⟩ := en
    have h3 := pParse_ne _ _ _ _ _ h
    exact ⟨by omega, pParse_code _ _ _ _ _ h⟩
theorem bulk_get : ∀ (ls : List Li) (c : Nat), bulk ls ≤ c → ∀ l ∈ ls, l.text.length ≤ c
  | [], c, h, l, hl => by simp at hl
  | x :: r, c, h, l, hl => by
    simp only [bulk, List.map_cons, List.sum_cons] at h
    rcases List.mem_cons.1 hl with rfl | hl
    · omega
    · exact bulk_get r c (by simp only [bulk]; omega) l hl
theorem pOf_okR (text : List UInt8) : okR (pOf text) := by
  unfold pOf
  split
  · rename_i n q h
    cases q <;> exact ⟨by decide, by decide⟩
  · rename_i ls h
    obtain ⟨b1, b2⟩ := of_bounds text ls h
    refine pParse_okR _ (by omega) fun l hl => ?_
    split at h
    · simp at h
    · obtain ⟨x, hx, rfl⟩ := List.mem_map.1 hl
      have := spm_short _ _ _ _ h (fun l hl => by simp at hl) x hx
      simp only [lnLi]
      omega
end Go.Ab
