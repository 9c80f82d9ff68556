/- One text of a proof that a law of this seat says true for every input: an evaluator of code over data, and that it tells the truth. It holds of the given program under the conditions that the row prints. -/
import Derived.Test.YtnpbeikcgagacaaGreatDoorAbC
import Derived.Scope
import Derived.KernelRfl
set_option linter.unusedSimpArgs false
set_option linter.unusedVariables false
set_option linter.unusedSectionVars false
namespace Go.Ab

section
variable {T : Ctx} {E : Abs} {ops : Array Oper}

theorem looks_mem {o : Oper} {t : Tmp} (h : Operand.tmp t ∈ o.op.operands.toList) : t ∈ o.looksAt ops :=
  List.mem_append_left _ (List.mem_filterMap.2 ⟨_, h, rfl⟩)

/-- A slot's value is free of objects. -/
def Free (s : St) (t : Nat) : Prop := ∀ x, s.t[t]? = some x → x.ids = []
structure AlikeG (ops : Array Oper) (o : Oper) (s s' : St) : Prop where
  get : ∀ t ∈ o.looksAt ops, s'.t[t]? = s.t[t]?
  o : ∀ t ∈ o.looksAt ops, ∀ x, s.t[t]? = some x → ∀ id ∈ x.ids, lookup id s'.o = lookup id s.o
theorem AlikeG.same {ops : Array Oper} {o : Oper} {s s' : St} (h : ∀ t ∈ o.looksAt ops, s'.t[t]? = s.t[t]?) (ho : s'.o = s.o) : AlikeG ops o s s' := ⟨h, fun _ _ _ _ _ _ => by rw [ho]⟩
theorem AlikeG.free {ops : Array Oper} {o : Oper} {s s' : St} (h : ∀ t ∈ o.looksAt ops, s'.t[t]? = s.t[t]?) (hf : ∀ t ∈ o.looksAt ops, Free s t) : AlikeG ops o s s' := ⟨h, fun t ht x hx id hi => by rw [hf t ht x hx] at hi; cases hi⟩

theorem get_free {s : St} {x : Operand} (h : ∀ t, x = .tmp t → Free s t) : (s.get T x).ids = [] := by
  cases x with
  | tmp t =>
    simp only [St.get, List.getD_eq_getElem?_getD]
    cases hx : s.t[t]? with
    | none => rfl
    | some x => exact h t rfl x hx
  | const v => rfl
  | global g => simp only [St.get]; split <;> rfl
  | func f => rfl
theorem AlikeG.alike {o : Oper} {s s' : St} (h : AlikeG ops o s s') : Alike T o s s' := by
  have hget : ∀ x ∈ o.op.operands.toList, s'.get T x = s.get T x := fun x hx => by
    cases x with
    | tmp t => simp only [St.get, List.getD_eq_getElem?_getD, h.get t (looks_mem hx)]
    | const v => rfl
    | global g => rfl
    | func f => rfl
  have ho : ∀ x ∈ o.op.operands.toList, ∀ id ∈ (s.get T x).ids, lookup id s'.o = lookup id s.o := fun x hx id hi => by
    cases x with
    | tmp t =>
      simp only [St.get, List.getD_eq_getElem?_getD] at hi
      cases hx2 : s.t[t]? with
      | none => rw [hx2] at hi; simp [AV.ids] at hi
      | some y => rw [hx2] at hi; exact h.o t (looks_mem hx) y hx2 id hi
    | const v => simp [St.get, AV.ids] at hi
    | global g => simp only [St.get] at hi; split at hi <;> simp [AV.ids] at hi
    | func f => simp [St.get, AV.ids] at hi
  exact ⟨hget, fun x hx => by rw [hget x hx]; exact data_lk _ (ho x hx), ho⟩

theorem guard_same {o : Oper} {j : Nat} {want : Bool} {s s' : St} (hg : o.guard = some (j, want)) (h : ∀ t ∈ o.looksAt ops, s'.t[t]? = s.t[t]?) :
    ((ops.toList[j]?).bind (·.dst)).bind (s'.t[·]?) = ((ops.toList[j]?).bind (·.dst)).bind (s.t[·]?) := by
  rw [Array.getElem?_toList]
  cases hd : (ops[j]?).bind (·.dst) with
  | none => rfl
  | some d =>
    simp only [Option.bind_some]
    exact h d (List.mem_append_right _ (by simp [hg, hd]))

theorem valG {fr : List Nat} {o : Oper} (hb : isB T.gf ops fr o = false) (hna : ∀ x, o.op ≠ .assign x) {R : Type} {s : St} {κ : St → Option R} {r : R} (hm : isMk o = true → ∀ t ∈ o.looksAt ops, Free s t)
    (hk : opG T E ops.toList o s κ = some r) : ∃ v, κ (s.put o.dst v) = some r ∧ ∀ {R' : Type} (s' : St) (κ' : St → Option R'), AlikeG ops o s s' → opG T E ops.toList o s' κ' = κ' (s'.put o.dst v) := by
  have hop : ∀ {R : Type} {κ : St → Option R} {r : R}, opK T E o s κ = some r → ∃ v, κ (s.put o.dst v) = some r ∧ ∀ {R' : Type} (s' : St) (κ' : St → Option R'), Alike T o s s' → opK T E o s' κ' = κ' (s'.put o.dst v) := by
    intro R κ r hk
    cases hmk : isMk o with
    | false => exact val_op hb hmk hna hk
    | true =>
      have hmk' := hmk
      unfold isMk at hmk
      split at hmk
      · rename_i t x ho
        exact val_makeInterface ho (get_free fun t he => hm hmk' t (looks_mem (by simp [ho, Op.operands, he]))) hk
      · simp at hmk
  unfold opG at hk
  split at hk
  · rename_i hg
    obtain ⟨v, h1, h2⟩ := hop hk
    exact ⟨v, h1, fun s' κ' h => by unfold opG; rw [hg]; exact h2 s' κ' h.alike⟩
  · rename_i j want hg
    split at hk
    · rename_i b hb'
      split at hk
      · obtain ⟨v, h1, h2⟩ := hop hk
        exact ⟨v, h1, fun s' κ' h => by unfold opG; rw [hg]; simp only; rw [guard_same hg h.get, hb']; exact h2 s' κ' h.alike⟩
      · obtain ⟨v, h1, h2⟩ := hop hk
        exact ⟨v, h1, fun s' κ' h => by unfold opG; rw [hg]; simp only; rw [guard_same hg h.get, hb']; exact h2 s' κ' h.alike⟩
      · rename_i h3 h4
        refine ⟨_, hk, fun s' κ' h => ?_⟩
        unfold opG; rw [hg]; simp only; rw [guard_same hg h.get, hb']
        cases b <;> cases want <;> simp_all
    · rename_i vs hb'
      exact ⟨_, hk, fun s' κ' h => by unfold opG; rw [hg]; simp only; rw [guard_same hg h.get, hb']⟩
    · simp at hk

theorem turnG_step' {o : Oper} (ht : Turn T E o) {R : Type} {s : St} {κ : St → Option R} {r : R} (hk : opG T E ops.toList o s κ = some r) :
    ∃ s', κ s' = some r ∧ (∀ {R' : Type} (κ' : St → Option R'), opG T E ops.toList o s κ' = κ' s') ∧ ∀ d x, o.dst ≠ some d → s.t[d]? = some x → x.ids = [] → s'.t[d]? = some x := by
  unfold opG at hk
  split at hk
  · rename_i hg
    obtain ⟨s', h1, h2, h3⟩ := ht.step hk
    exact ⟨s', h1, fun κ' => by unfold opG; rw [hg]; exact h2 κ', h3⟩
  · rename_i j want hg
    split at hk
    · rename_i b hb'
      split at hk
      · obtain ⟨s', h1, h2, h3⟩ := ht.step hk
        exact ⟨s', h1, fun κ' => by unfold opG; rw [hg]; simp only; rw [hb']; exact h2 κ', h3⟩
      · obtain ⟨s', h1, h2, h3⟩ := ht.step hk
        exact ⟨s', h1, fun κ' => by unfold opG; rw [hg]; simp only; rw [hb']; exact h2 κ', h3⟩
      · refine ⟨_, hk, fun κ' => ?_, fun d x hd hx _ => put_keeps' hd hx⟩
        unfold opG; rw [hg]; simp only; rw [hb']
        cases b <;> cases want <;> simp_all
    · rename_i vs hb'
      exact ⟨_, hk, fun κ' => by unfold opG; rw [hg]; simp only; rw [hb'], fun d x hd hx _ => put_keeps' hd hx⟩
    · simp at hk
theorem turnG_step {fr : List Nat} {o : Oper} (hb : isB T.gf ops fr o = true) {R : Type} {s : St} {κ : St → Option R} {r : R} (hk : opG T E ops.toList o s κ = some r) :
    ∃ s', κ s' = some r ∧ (∀ {R' : Type} (κ' : St → Option R'), opG T E ops.toList o s κ' = κ' s') ∧ ∀ d x, o.dst ≠ some d → s.t[d]? = some x → x.ids = [] → s'.t[d]? = some x :=
  turnG_step' (turn_op hb) hk
theorem turnG_frame {fr : List Nat} {o : Oper} (hb : isB T.gf ops fr o = true) {R : Type} (s : St) (κ : St → Option R) (d : Tmp) (v : AV) (hd : o.dst ≠ some d) (hv : v.ids = []) (hn : d ∉ o.looksAt ops) :
    opG T E ops.toList o (s.put (some d) v) κ = opG T E ops.toList o s fun s' => κ (s'.put (some d) v) := by
  have ht := turn_op (T := T) (E := E) hb
  have hf := ht.frame s κ d v hd hv fun h => hn (looks_mem h)
  unfold opG
  cases hg : o.guard with
  | none => exact hf
  | some jw =>
    obtain ⟨j, want⟩ := jw
    simp only
    rw [guard_same (s := s) (s' := s.put (some d) v) hg fun t ht => by
      have : d ≠ t := fun e => hn (e ▸ ht)
      simp only [St.put, List.getElem?_set_ne this]]
    split
    · split
      · exact hf
      · exact hf
      · rw [put_put' hd]
    · rw [put_put' hd]
    · rfl

/-- What is free stays free. -/
def FrInv (fr : List Nat) (s : St) : Prop := (∀ d ∈ fr, d < 500000 → clear fr s (some d) = true) ∧ kGate fr s = true
theorem clear_gate {fr : List Nat} {s : St} {d : Option Tmp} (h : clear fr s d = true) : kGate fr s = true := by
  cases d with
  | none => exact h
  | some d =>
    simp only [clear, Bool.and_eq_true] at h
    exact h.2
theorem FrInv.free {fr : List Nat} {s : St} (h : FrInv fr s) {d : Nat} (hd : d ∈ fr) (hl : d < 500000) : ∃ x, s.t[d]? = some x ∧ x.ids = [] := by
  have := h.1 d hd hl
  simp only [clear, Bool.and_eq_true, Bool.or_eq_true, Bool.not_eq_true', List.contains_eq_mem, decide_eq_false_iff_not] at this
  rcases this.1.1 with h1 | h1
  · exact absurd hd h1
  · split at h1
    · rename_i x hx
      exact ⟨x, hx, by simpa using h1⟩
    · simp at h1
theorem clear_of {fr : List Nat} {s : St} {d : Nat} {x : AV} (hd : d ∈ fr) (hx : s.t[d]? = some x) (hf : x.ids = []) (hg : kGate fr s = true) : clear fr s (some d) = true := by
  simp [clear, undOk, hx, hf, hg, hd]
theorem clear_same {fr : List Nat} {s s' : St} {d : Option Nat} (h : ∀ t, d = some t → s'.t[t]? = s.t[t]?) (hg : kGate fr s' = true) (hc : clear fr s d = true) : clear fr s' d = true := by
  cases d with
  | none => exact hg
  | some d =>
    simp only [clear, undOk, h d rfl, Bool.and_eq_true] at hc ⊢
    exact ⟨hc.1, hg⟩
/-- The gate of a state whose slots are those of two that pass it. -/
theorem kGate_mix' {fr : List Nat} {s s2 s' : St} (h1 : kGate fr s = true) (h2 : kGate fr s2 = true) (h : ∀ t : Nat, (s'.t[t]? = s.t[t]? ∧ s'.o = s.o) ∨ (s'.t[t]? = s2.t[t]? ∧ s'.o = s2.o) ∨ ∃ x : AV, s'.t[t]? = some x ∧ (900000 ≤ fr.headD 0 → 500000 + t ∈ fr → pinT fr s'.o x = true) ∧ (fr.headD 0 < 900000 → kfree fr x = true)) : kGate fr s' = true := by
  simp only [kGate, Bool.and_eq_true, Bool.or_eq_true, decide_eq_true_eq] at h1 h2 ⊢
  refine ⟨?_, ?_⟩
  · by_cases hl : fr.headD 0 < 800000
    · exact .inl hl
    · refine .inr ?_
      by_cases hl2 : 900000 ≤ fr.headD 0
      · exact .inl hl2
      refine .inr ?_
      replace h1 := (h1.1.resolve_left hl).resolve_left hl2
      replace h2 := (h2.1.resolve_left hl).resolve_left hl2
      simp only [kOk, List.all_eq_true] at h1 h2 ⊢
      intro e he
      have a1 := h1 e he
      have a2 := h2 e he
      cases hr : (decide (500000 ≤ e) && decide (e < 800000)) with
      | false => rfl
      | true =>
        rw [hr] at a1 a2
        simp only [Bool.not_true, Bool.false_or] at a1 a2 ⊢
        rcases h (e - 500000) with ⟨h, _⟩ | ⟨h, _⟩ | ⟨x, hx, _, hf⟩
        · rw [h]; exact a1
        · rw [h]; exact a2
        · rw [hx]
          exact hf (by omega)
  · by_cases hl : fr.headD 0 < 900000
    · exact .inl hl
    · refine .inr ?_
      replace h1 := h1.2.resolve_left hl
      replace h2 := h2.2.resolve_left hl
      simp only [pOk, List.all_eq_true] at h1 h2 ⊢
      intro e he
      have a1 := h1 e he
      have a2 := h2 e he
      cases hr : (decide (500000 ≤ e) && decide (e < 800000)) with
      | false => rfl
      | true =>
        rw [hr] at a1 a2
        simp only [Bool.and_eq_true, decide_eq_true_eq] at hr
        simp only [Bool.not_true, Bool.false_or] at a1 a2 ⊢
        rcases h (e - 500000) with ⟨h, ho⟩ | ⟨h, ho⟩ | ⟨x, hx, hf, _⟩
        · rw [h, ho]; exact a1
        · rw [h, ho]; exact a2
        · rw [hx]
          exact hf (by omega) (by rw [show 500000 + (e - 500000) = e by omega]; exact he)
theorem free_k {fr : List Nat} {x : AV} (h : x.ids = []) : kfree fr x = true := by simp [kfree, h]
theorem kGate_mix {fr : List Nat} {s s2 s' : St} (h1 : kGate fr s = true) (h2 : kGate fr s2 = true) (h : ∀ t : Nat, (s'.t[t]? = s.t[t]? ∧ s'.o = s.o) ∨ (s'.t[t]? = s2.t[t]? ∧ s'.o = s2.o) ∨ ∃ x : AV, s'.t[t]? = some x ∧ x.ids = [] ∧ (fr.headD 0 < 900000 ∨ 500000 + t ∉ fr)) : kGate fr s' = true :=
  kGate_mix' h1 h2 fun t => (h t).imp id (.imp id fun ⟨x, hx, hf, hn⟩ => ⟨x, hx, fun h1 h2 => (hn.elim (fun h => by omega) fun h => absurd h2 h), fun _ => free_k hf⟩)
/-- The like where nothing is asked of the objects. -/
theorem kGate_mixN {fr : List Nat} (hh : fr.headD 0 < 900000) {s s2 s' : St} (h1 : kGate fr s = true) (h2 : kGate fr s2 = true) (h : ∀ t : Nat, s'.t[t]? = s.t[t]? ∨ s'.t[t]? = s2.t[t]? ∨ ∃ x : AV, s'.t[t]? = some x ∧ x.ids = []) : kGate fr s' = true := by
  simp only [kGate, Bool.and_eq_true, Bool.or_eq_true, decide_eq_true_eq] at h1 h2 ⊢
  refine ⟨?_, .inl hh⟩
  have q : kGate fr ⟨s'.t, []⟩ = true := kGate_mix (s := ⟨s.t, []⟩) (s2 := ⟨s2.t, []⟩) (by
    simp only [kGate, Bool.and_eq_true, Bool.or_eq_true, decide_eq_true_eq]
    exact ⟨h1.1, .inl hh⟩) (by
    simp only [kGate, Bool.and_eq_true, Bool.or_eq_true, decide_eq_true_eq]
    exact ⟨h2.1, .inl hh⟩) fun t => (h t).imp (fun h => ⟨h, rfl⟩) (.imp (fun h => ⟨h, rfl⟩) fun ⟨x, hx, hf⟩ => ⟨x, hx, hf, .inl hh⟩)
  simp only [kGate, Bool.and_eq_true, Bool.or_eq_true, decide_eq_true_eq] at q
  exact q.1
theorem put_o {s : St} {d : Option Tmp} {v : AV} : (s.put d v).o = s.o := by cases d <;> rfl
theorem put_other {s : St} {d : Option Tmp} {v : AV} {t : Nat} (h : d ≠ some t) : (s.put d v).t[t]? = s.t[t]? := by
  cases d with
  | none => rfl
  | some d =>
    have : d ≠ t := fun e => h (by rw [e])
    simp only [St.put, List.getElem?_set_ne this]
theorem FrInv.put {fr : List Nat} {s : St} (h : FrInv fr s) {d : Option Tmp} {v : AV} (hc : clear fr (s.put d v) d = true) : FrInv fr (s.put d v) := by
  refine ⟨fun t ht hl => ?_, clear_gate hc⟩
  by_cases he : d = some t
  · rw [← he]; exact hc
  · exact clear_same (fun t' e => by cases e; exact put_other he) (clear_gate hc) (h.1 t ht hl)
theorem FrInv.turn {fr : List Nat} {s s' : St} (h : FrInv fr s) {d : Option Tmp} (hk : ∀ t x, d ≠ some t → s.t[t]? = some x → x.ids = [] → s'.t[t]? = some x) (hc : clear fr s' d = true) : FrInv fr s' := by
  refine ⟨fun t ht hl => ?_, clear_gate hc⟩
  by_cases he : d = some t
  · rw [← he]; exact hc
  · obtain ⟨x, hx, hf⟩ := h.free ht hl
    exact clear_of ht (hk t x he hx hf) hf (clear_gate hc)
theorem put_swap {s : St} {d e : Option Tmp} {v u : AV} (h : ∀ t, d = some t → e ≠ some t) : (s.put d v).put e u = (s.put e u).put d v := by
  cases d with
  | none => rfl
  | some d => exact put_put' (h d rfl)

theorem frS {fr : List Nat} {o : Oper} {s : St} (hs : FrInv fr s) (hf : frOp ops fr o = true) : ∀ t ∈ o.looksAt ops, ∃ x, s.t[t]? = some x ∧ x.ids = [] := by
  intro t ht
  simp only [frOp, Bool.and_eq_true, List.all_eq_true, List.contains_eq_mem, decide_eq_true_eq, Nat.blt_eq] at hf
  exact hs.free (hf.1 t ht).1 (hf.1 t ht).2
theorem frT {fr : List Nat} {o : Oper} {s : St} (hs : FrInv fr s) (hf : frOp ops fr o = true) {d : Nat} (hd : o.dst = some d) : ∃ x, s.t[d]? = some x ∧ x.ids = [] := by
  simp only [frOp, Bool.and_eq_true, hd, List.contains_eq_mem, decide_eq_true_eq, Nat.blt_eq] at hf
  exact hs.free hf.2.1.1 hf.2.1.2
/-- a slot that is listed plainly is listed no other way -/
theorem frN {fr : List Nat} {o : Oper} (hf : frOp ops fr o = true) {d : Nat} (hd : o.dst = some d) : d ∈ fr ∧ (fr.headD 0 < 900000 ∨ 500000 + d ∉ fr) := by
  simp only [frOp, Bool.and_eq_true, hd, List.contains_eq_mem, decide_eq_true_eq, Nat.blt_eq, Bool.or_eq_true, Bool.not_eq_true', decide_eq_false_iff_not] at hf
  exact ⟨hf.2.1.1, hf.2.2⟩
theorem frl {fr : List Nat} {o : Oper} {s : St} (hs : FrInv fr s) (hf : frOp ops fr o = true) : ∀ t ∈ o.looksAt ops, Free s t := by
  intro t ht x hx
  obtain ⟨y, hy, hy'⟩ := frS hs hf t ht
  rw [hy] at hx
  cases hx
  exact hy'
theorem put_at {s : St} {d : Tmp} {v : AV} {t : Nat} (h : d = t) (hl : t < s.t.length) : (s.put (some d) v).t[t]? = some v := by
  subst h
  simp [St.put, hl]
/-- Two neighbours change places. -/
theorem swapO {fr : List Nat} {a i : Oper} (haa : ∀ x, a.op ≠ .assign x) (hia : ∀ x, i.op ≠ .assign x) (hap : a.apart ops i = true) (hcl : (match isB T.gf ops fr a, isB T.gf ops fr i with
      | true, true => false
      | true, false => frOp ops fr i
      | false, true => frOp ops fr a
      | false, false => (!isMk a || frOp ops fr a) && (!isMk i || frOp ops fr i)) = true) {R : Type} {s : St} {κ : St → Option R} {r : R} (hs : FrInv fr s)
    (hk : opG T E ops.toList a s (fun s1 => if clear fr s1 a.dst = true then opG T E ops.toList i s1 (fun s2 => if clear fr s2 i.dst = true then κ s2 else none) else none) = some r) :
    opG T E ops.toList i s (fun s1 => if clear fr s1 i.dst = true then opG T E ops.toList a s1 (fun s2 => if clear fr s2 a.dst = true then κ s2 else none) else none) = some r := by
  have frd : ∀ {o : Oper} {s : St} {v : AV}, frOp ops fr o = true → clear fr (s.put o.dst v) o.dst = true → o.dst = none ∨ ∃ d, o.dst = some d ∧ v.ids = [] := by
    intro o s v hf hcl
    cases hd : o.dst with
    | none => exact .inl rfl
    | some d =>
      refine .inr ⟨d, rfl, ?_⟩
      simp only [frOp, Bool.and_eq_true, hd] at hf
      rw [hd] at hcl
      have hmem : d ∈ fr := by simpa using hf.2.1.1
      simp only [clear, Bool.and_eq_true, Bool.or_eq_true, Bool.not_eq_true', List.contains_eq_mem, decide_eq_false_iff_not] at hcl
      rcases hcl.1.1 with h1 | h1
      · exact absurd hmem h1
      · split at h1
        · rename_i x hx
          simp only [St.put, List.getElem?_set, if_true] at hx
          split at hx
          · cases hx
            simpa using h1
          · simp at hx
        · simp at h1
  obtain ⟨p1, p2, p3⟩ := Oper.apart_spec hap
  have p2' : ∀ d, i.dst = some d → a.dst ≠ some d := fun d hd he => p2 d he hd
  cases hba : isB T.gf ops fr a with
  | true =>
    cases hbi : isB T.gf ops fr i with
    | true => simp [hba, hbi] at hcl
    | false =>
      simp only [hba, hbi] at hcl
      obtain ⟨s1, hk, ha', hkeep⟩ := turnG_step hba hk
      split at hk
      · rename_i hca
        have hs1 := hs.turn hkeep hca
        obtain ⟨v, hk, hi'⟩ := valG hbi hia (fun _ => frl hs1 hcl) hk
        split at hk
        · rename_i hci
          have hlook : ∀ t ∈ i.looksAt ops, s.t[t]? = s1.t[t]? := fun t ht => by
            obtain ⟨x, hx, hf⟩ := frS hs hcl t ht
            rw [hx, hkeep t x (fun he => p1 t he ht) hx hf]
          rw [hi' s _ (.free hlook (frl hs1 hcl))]
          rcases frd hcl hci with hd | ⟨d, hd, hv⟩
          · have e : ∀ s : St, s.put i.dst v = s := fun s => by rw [hd]; rfl
            simp only [e] at hk ⊢
            rw [if_pos (by rw [hd]; exact hs.2), ha', if_pos hca]
            exact hk
          · obtain ⟨x, hx, _⟩ := frT hs hcl hd
            have hlt : d < s.t.length := (List.getElem?_eq_some_iff.1 hx).1
            have hg : kGate fr (s.put i.dst v) = true := kGate_mix hs.2 hs.2 fun t => by
              by_cases he : d = t
              · exact .inr (.inr ⟨v, by rw [hd]; exact put_at he (he ▸ hlt), hv, he ▸ (frN hcl hd).2⟩)
              · exact .inl ⟨put_other (by rw [hd]; exact fun h => he (Option.some.inj h)), put_o⟩
            have hcd : clear fr (s.put i.dst v) i.dst = true := by
              rw [hd] at hg ⊢
              exact clear_of (x := v) (frN hcl hd).1 (put_at rfl hlt) hv hg
            rw [if_pos hcd, hd, turnG_frame hba s _ d v (p2' d hd) hv (p3 d hd), ha']
            rw [hd] at hk hci
            rw [if_pos (clear_same (s := s1) (fun t e => put_other fun h => p2' t (hd.trans h) e) (clear_gate hci) hca)]
            exact hk
        · simp at hk
      · simp at hk
  | false =>
    cases hbi : isB T.gf ops fr i with
    | true =>
      simp only [hba, hbi] at hcl
      obtain ⟨v, hk, ha'⟩ := valG hba haa (fun _ => frl hs hcl) hk
      split at hk
      · rename_i hca
        have fin : ∀ s1 : St, (if clear fr (s1.put a.dst v) i.dst = true then κ (s1.put a.dst v) else none) = some r → (∀ {R' : Type} (κ' : St → Option R'), opG T E ops.toList i s κ' = κ' s1) → (∀ d x, i.dst ≠ some d → s.t[d]? = some x → x.ids = [] → s1.t[d]? = some x) →
            opG T E ops.toList i s (fun s1 => if clear fr s1 i.dst = true then opG T E ops.toList a s1 (fun s2 => if clear fr s2 a.dst = true then κ s2 else none) else none) = some r := by
          intro s1 hk hi' hkeep
          split at hk
          · rename_i hci
            rw [hi']
            have hg1 : kGate fr s1 = true := kGate_mix (clear_gate hci) (clear_gate hci) fun t => by
              by_cases he : a.dst = some t
              · obtain ⟨x, hx, hf⟩ := frT hs hcl he
                exact .inr (.inr ⟨x, hkeep t x (fun h => p2 t he h) hx hf, hf, (frN hcl he).2⟩)
              · exact .inl ⟨(put_other he).symm, put_o.symm⟩
            have hci' : clear fr s1 i.dst = true := clear_same (s := s1.put a.dst v) (fun t e => (put_other fun h => p2 t h e).symm) hg1 hci
            have hs1 : FrInv fr s1 := hs.turn hkeep hci'
            have hlook : ∀ t ∈ a.looksAt ops, s1.t[t]? = s.t[t]? := fun t ht => by
              obtain ⟨x, hx, hf⟩ := frS hs hcl t ht
              rw [hx, hkeep t x (fun he => p3 t he ht) hx hf]
            rw [if_pos hci', ha' s1 _ (.free hlook (frl hs hcl))]
            have : clear fr (s1.put a.dst v) a.dst = true := by
              rcases frd hcl hca with hd | ⟨d, hd, hv⟩
              · rw [hd]; exact hg1
              · have hg := clear_gate hci
                rw [hd] at hg ⊢
                obtain ⟨x, hx, _⟩ := frT hs1 hcl hd
                have hlt : d < s1.t.length := (List.getElem?_eq_some_iff.1 hx).1
                exact clear_of (x := v) (frN hcl hd).1 (put_at rfl hlt) hv hg
            rw [if_pos this]
            exact hk
          · simp at hk
        rcases frd hcl hca with hd | ⟨d, hd, hv⟩
        · have e : ∀ s : St, s.put a.dst v = s := fun s => by rw [hd]; rfl
          rw [e] at hk
          obtain ⟨s1, hk, hi', hkeep⟩ := turnG_step hbi hk
          exact fin s1 (by rw [e]; exact hk) hi' hkeep
        · rw [hd] at hk
          rw [turnG_frame hbi s _ d v (p2 d hd) hv (p1 d hd)] at hk
          obtain ⟨s1, hk, hi', hkeep⟩ := turnG_step hbi hk
          exact fin s1 (by rw [hd]; exact hk) hi' hkeep
      · simp at hk
    | false =>
      simp only [hba, hbi, Bool.and_eq_true, Bool.or_eq_true, Bool.not_eq_true'] at hcl
      have hma : ∀ {s : St}, FrInv fr s → isMk a = true → ∀ t ∈ a.looksAt ops, Free s t := fun hs h => frl hs (hcl.1.resolve_left (by rw [h]; simp))
      have hmi : ∀ {s : St}, FrInv fr s → isMk i = true → ∀ t ∈ i.looksAt ops, Free s t := fun hs h => frl hs (hcl.2.resolve_left (by rw [h]; simp))
      obtain ⟨v, hk, ha'⟩ := valG hba haa (hma hs) hk
      split at hk
      · rename_i hca
        have hs1 := hs.put hca
        obtain ⟨u, hk, hi'⟩ := valG hbi hia (hmi hs1) hk
        split at hk
        · rename_i hci
          rw [hi' s _ (.same (fun t ht => (put_other fun h => p1 t h ht).symm) (by cases a.dst <;> rfl))]
          have hgi : kGate fr (s.put i.dst u) = true := kGate_mix hs.2 (clear_gate hci) fun t => by
            by_cases he : a.dst = some t
            · exact .inl ⟨put_other fun h => p2 t he h, put_o⟩
            · rw [put_swap p2]
              exact .inr (.inl ⟨(put_other he).symm, put_o.symm⟩)
          have h1 : clear fr (s.put i.dst u) i.dst = true := by
            rw [put_swap p2] at hci
            exact clear_same (s := (s.put i.dst u).put a.dst v) (fun t e => (put_other fun h => p2 t h e).symm) hgi hci
          rw [if_pos h1, ha' (s.put i.dst u) _ (.same (fun t ht => put_other fun h => p3 t h ht) (by cases i.dst <;> rfl))]
          rw [← put_swap p2]
          have h2 : clear fr ((s.put a.dst v).put i.dst u) a.dst = true := clear_same (fun t e => put_other fun h => p2 t e h) (clear_gate hci) hca
          rw [if_pos h2]
          exact hk
        · simp at hk
      · simp at hk

/-! ### a new box may be made before or behind what does not name it -/
mutual
theorem sub_nk {k : Id} {fo : Id → AV} {fr : Id → Nat → AV} (hfo : ∀ j, j ≠ k → fo j = .own j) (hfr : ∀ j off, j ≠ k → fr j off = .ref j off) : ∀ x : AV, k ∉ x.ids → x.sub fo fr = x
  | .d x, _ => rfl
  | .own j, h => by
    simp only [AV.ids, List.mem_singleton] at h
    simp only [AV.sub, hfo j (Ne.symm h)]
  | .tight n xs, _ => rfl
  | .ref j off, h => by
    simp only [AV.ids, List.mem_singleton] at h
    simp only [AV.sub, hfr j off (Ne.symm h)]
  | .elt j i off, h => by
    simp only [AV.ids, List.mem_singleton] at h
    simp only [AV.sub, hfo j (Ne.symm h), eltO]
  | .agg cs, h => by
    simp only [AV.ids] at h
    simp only [AV.sub, subL_nk hfo hfr cs h]
  | .tup cs, h => by
    simp only [AV.ids] at h
    simp only [AV.sub, subL_nk hfo hfr cs h]
  | .clo f as bs, h => by
    simp only [AV.ids, List.mem_append, not_or] at h
    simp only [AV.sub, subL_nk hfo hfr as h.1, subL_nk hfo hfr bs h.2]
  | .undef, _ => rfl
theorem subL_nk {k : Id} {fo : Id → AV} {fr : Id → Nat → AV} (hfo : ∀ j, j ≠ k → fo j = .own j) (hfr : ∀ j off, j ≠ k → fr j off = .ref j off) : ∀ xs : List AV, k ∉ idsL xs → subL fo fr xs = xs
  | [], _ => rfl
  | x :: xs, h => by
    simp only [idsL, List.mem_append, not_or] at h
    simp only [subL, sub_nk hfo hfr x h.1, subL_nk hfo hfr xs h.2]
end
theorem idsL_append : ∀ (xs ys : List AV), idsL (xs ++ ys) = idsL xs ++ idsL ys
  | [], _ => rfl
  | x :: xs, ys => by simp only [List.cons_append, idsL, idsL_append xs ys, List.append_assoc]
theorem subE_nk {k : Id} {fo : Id → AV} {fr : Id → Nat → AV} (hfo : ∀ j, j ≠ k → fo j = .own j) (hfr : ∀ j off, j ≠ k → fr j off = .ref j off) : ∀ es : List (List AV), k ∉ idsL es.flatten → subE fo fr es = es
  | [], _ => rfl
  | e :: es, h => by
    simp only [List.flatten_cons, idsL_append, List.mem_append, not_or] at h
    simp only [subE, subL_nk hfo hfr e h.1, subE_nk hfo hfr es h.2]
theorem subM_nk {k : Id} {fo : Id → AV} {fr : Id → Nat → AV} (hfo : ∀ j, j ≠ k → fo j = .own j) (hfr : ∀ j off, j ≠ k → fr j off = .ref j off) : ∀ es : List (D × AV), k ∉ idsM es → subM fo fr es = es
  | [], _ => rfl
  | (d, v) :: es, h => by
    simp only [idsM, List.mem_append, not_or] at h
    simp only [subM, sub_nk hfo hfr v h.1, subM_nk hfo hfr es h.2]
theorem subO_nk {k : Id} {fo : Id → AV} {fr : Id → Nat → AV} (hfo : ∀ j, j ≠ k → fo j = .own j) (hfr : ∀ j off, j ≠ k → fr j off = .ref j off) : ∀ o : Obs, (∀ p ∈ o, k ∉ p.2.idsB) → subO fo fr o = o
  | [], _ => rfl
  | (j, .box cs) :: o, h => by
    have h1 := h (j, .box cs) (by simp)
    simp only [Ob.idsB] at h1
    simp only [subO, subL_nk hfo hfr cs h1, subO_nk hfo hfr o fun p hp => h p (by simp [hp])]
  | (j, .tok n xs) :: o, h => by simp only [subO, subO_nk hfo hfr o fun p hp => h p (by simp [hp])]
  | (j, .arr g n es) :: o, h => by
    have h1 := h (j, .arr g n es) (by simp)
    simp only [Ob.idsB] at h1
    simp only [subO, subE_nk hfo hfr es h1, subO_nk hfo hfr o fun p hp => h p (by simp [hp])]
  | (j, .map es) :: o, h => by
    have h1 := h (j, .map es) (by simp)
    simp only [Ob.idsB] at h1
    simp only [subO, subM_nk hfo hfr es h1, subO_nk hfo hfr o fun p hp => h p (by simp [hp])]
theorem erase_nk {k : Id} : ∀ o : Obs, (∀ p ∈ o, p.1 ≠ k) → erase k o = o
  | [], _ => rfl
  | (j, x) :: o, h => by
    have h1 := h (j, x) (by simp)
    simp only at h1
    simp only [erase, if_neg h1, erase_nk o fun p hp => h p (by simp [hp])]
theorem freshB_spec {k : Id} {s : St} (h : freshB k s = true) : (∀ (t : Nat) (x : AV), s.t[t]? = some x → k ∉ x.ids) ∧ ∀ p ∈ s.o, p.1 ≠ k ∧ k ∉ p.2.idsB := by
  simp only [freshB, Bool.and_eq_true, List.all_eq_true, Bool.not_eq_true', beq_eq_false_iff_ne, ne_eq] at h
  refine ⟨fun t x hx => ?_, fun p hp => ?_⟩
  · have := h.1 x (List.mem_of_getElem? hx)
    simpa using this
  · have := h.2 p hp
    exact ⟨this.1, by simpa using this.2⟩
theorem freshB_of {k : Id} {s : St} (h1 : ∀ (t : Nat) (x : AV), s.t[t]? = some x → k ∉ x.ids) (h2 : ∀ p ∈ s.o, p.1 ≠ k ∧ k ∉ p.2.idsB) : freshB k s = true := by
  simp only [freshB, Bool.and_eq_true, List.all_eq_true, Bool.not_eq_true', beq_eq_false_iff_ne, ne_eq]
  refine ⟨fun x hx => ?_, fun p hp => ⟨(h2 p hp).1, by simpa using (h2 p hp).2⟩⟩
  obtain ⟨t, ht⟩ := List.mem_iff_getElem?.1 hx
  simpa using h1 t x ht
theorem zA_ids (z : D) : (zA z).ids = [] := by
  unfold zA
  split <;> rfl
theorem newBox_fresh {d : Tmp} {s : St} {zs : List D} (h : freshB (1, d) s = true) : s.newBox d (zs.map zA) = { t := s.t.set d (.ref (1, d) 0), o := ((1, d), .box (zs.map zA)) :: s.o } := by
  obtain ⟨h1, h2⟩ := freshB_spec h
  have hfo : ∀ j, j ≠ (1, d) → dropO (1, d) s j = .own j := fun j hj => by simp only [dropO, if_neg hj]
  have hfr : ∀ j off, j ≠ (1, d) → dropR (1, d) j off = .ref j off := fun j off hj => by simp only [dropR, if_neg hj]
  have hz : idsL (zs.map zA) = [] := by
    induction zs with
    | nil => rfl
    | cons z zs ih => simp only [List.map_cons, idsL, zA_ids, ih, List.append_nil]
  have ht : (1, d) ∉ idsL s.t := by
    have key : ∀ l : List AV, (∀ x ∈ l, (1, d) ∉ x.ids) → (1, d) ∉ idsL l := by
      intro l
      induction l with
      | nil => intro _; simp [idsL]
      | cons x l ih =>
        intro h
        simp only [idsL, List.mem_append, not_or]
        exact ⟨h x (by simp), ih fun y hy => h y (by simp [hy])⟩
    refine key _ fun x hx => ?_
    obtain ⟨t, ht⟩ := List.mem_iff_getElem?.1 hx
    exact h1 t x ht
  simp only [St.newBox]
  rw [subL_nk hfo hfr _ ht, subL_nk hfo hfr _ (by rw [hz]; simp), erase_nk _ fun p hp => (h2 p hp).1, subO_nk hfo hfr _ fun p hp => (h2 p hp).2]
theorem isNew_spec {fr : List Nat} {o : Oper} {d : Tmp} (h : isNew fr o = some d) : ∃ t, o.op = .alloc t ∧ o.dst = some d ∧ o.guard = none ∧ 800000 + d ∈ fr ∧ 800000 ≤ fr.headD 0 ∧ fr.headD 0 < 900000 := by
  unfold isNew at h
  split at h
  · rename_i t d' h1 h2 h3
    split at h
    · rename_i h4
      cases h
      exact ⟨t, h1, h2, h3, by simpa using h4.2.2, h4.1, h4.2.1⟩
    · cases h
  · cases h
theorem opG_new {fr : List Nat} {o : Oper} {d : Tmp} (h : isNew fr o = some d) : ∃ t, ∀ {R : Type} (s : St) (κ : St → Option R), opG T E ops.toList o s κ = if (T.td t).ok = true then κ (s.newBox d ((T.zero t).map zA)) else none := by
  obtain ⟨t, h1, h2, h3, _, _, _⟩ := isNew_spec h
  exact ⟨t, fun s κ => by unfold opG; rw [h3]; simp only [opK, h1, h2]⟩
/-- What a listed slot holds names no new box. -/
theorem gate_free {fr : List Nat} {s : St} (hg : kGate fr s = true) {d : Tmp} (hd : 800000 + d ∈ fr) (hh : 800000 ≤ fr.headD 0) (hlw : fr.headD 0 < 900000) {e : Tmp} (he : 500000 + e ∈ fr) (hl : e < 300000) {x : AV} (hx : s.t[e]? = some x) : (1, d) ∉ x.ids := by
  simp only [kGate, Bool.and_eq_true, Bool.or_eq_true, decide_eq_true_eq] at hg
  have h1 := (hg.1.resolve_left (Nat.not_lt.2 hh)).resolve_left (Nat.not_le.2 hlw)
  simp only [kOk, List.all_eq_true] at h1
  have h2 := h1 _ he
  rw [Nat.add_sub_cancel_left, hx] at h2
  have e1 : decide (500000 ≤ 500000 + e) = true := by simp
  have e2 : decide (500000 + e < 800000) = true := decide_eq_true (Nat.add_lt_add_left hl 500000)
  rw [e1, e2] at h2
  simp only [Bool.and_self, Bool.not_true, Bool.false_or, kfree, List.all_eq_true] at h2
  intro hm
  have h3 := h2 _ hm
  simp [hd] at h3
theorem kOp_spec {fr : List Nat} {o : Oper} (h : kOp fr o = true) {e : Tmp} (he : o.dst = some e) : 500000 + e ∈ fr ∧ e < 300000 := by
  simp only [kOp, he, Bool.and_eq_true, List.contains_eq_mem, decide_eq_true_eq, Nat.blt_eq] at h
  exact h
theorem callP_spec {fr : List Nat} {o : Oper} {c : Call} {f : Operand} {d : Tmp} (h : isCallP fr o = some (c, f, d)) : o.op = .call c ∧ c.callee = .value f ∧ o.dst = some d ∧ o.guard = none := by
  unfold isCallP at h
  split at h
  · rename_i c' d' h1 h2 h3
    split at h
    · rename_i f' h4
      split at h
      · cases h
        exact ⟨h1, h4, h2, h3⟩
      · cases h
    · cases h
  · cases h
theorem preB_none {fr : List Nat} {o : Oper} (h : isNew fr o = none) (h2 : isCallP fr o = none) (s : St) : preB T fr o s = true := by simp only [preB, h, h2]
theorem preB_some {fr : List Nat} {o : Oper} {d : Tmp} (h : isNew fr o = some d) (s : St) : preB T fr o s = freshB (1, d) s := by simp only [preB, h]
/-- A call's condition asks only what the call looks at. -/
theorem pre_put {fr : List Nat} {i : Oper} (hn : isNew fr i = none) {s : St} {e : Option Tmp} {v : AV} (h : ∀ d, e = some d → d ∉ i.looksAt ops) : preB T fr i (s.put e v) = preB T fr i s := by
  cases e with
  | none => rfl
  | some d =>
    simp only [preB, hn]
    cases hc : isCallP fr i with
    | none => rfl
    | some x =>
      obtain ⟨c, f, d'⟩ := x
      obtain ⟨ho, hcc, _⟩ := callP_spec hc
      have hl : ∀ x ∈ i.op.operands.toList, (s.put (some d) v).get T x = s.get T x := fun x hx => get_put (by
        rintro rfl
        exact h d rfl (looks_mem hx))
      have e1 : c.args.toList.map ((s.put (some d) v).get T) = c.args.toList.map (s.get T) := List.map_congr_left fun x hx => hl x (by
        simp only [ho, Op.operands, Call.operands, hcc]
        simp
        exact .inr (by simpa using hx))
      have e2 : (s.put (some d) v).get T f = s.get T f := hl f (by simp [ho, Op.operands, Call.operands, hcc])
      simp only [callPre, e1, e2]
      rfl
/-- What turns nothing is no such call. -/
theorem pre_plain {fr : List Nat} {o : Oper} (hn : isNew fr o = none) (hb : isB T.gf ops fr o = false) {s : St} (hp : preB T fr o s = true) : isCallP fr o = none := by
  cases hc : isCallP fr o with
  | none => rfl
  | some x =>
    obtain ⟨c, f, d⟩ := x
    obtain ⟨ho, hcc, _⟩ := callP_spec hc
    simp only [preB, hn, hc, callPre, Bool.and_eq_true] at hp
    have hg := hp.2.2.2.1
    simp only [isB, ho, hcc] at hb
    cases f with
    | func g =>
      simp only at hb
      simp [gfOf, St.get, hb] at hg
    | _ => simp at hb
theorem pre_false {fr : List Nat} {o : Oper} (hn : isNew fr o = none) (hb : isB T.gf ops fr o = false) (hc : (isCallP fr o).isSome = true) (s : St) : preB T fr o s = false := by
  cases h : preB T fr o s with
  | false => rfl
  | true =>
    rw [pre_plain hn hb h] at hc
    cases hc
theorem new_alike {o : Oper} {d : Tmp} {s : St} {zs : List D} (hf : freshB (1, d) s = true) (hd : d ∉ o.looksAt ops) : AlikeG ops o (s.newBox d (zs.map zA)) s ∧ AlikeG ops o s (s.newBox d (zs.map zA)) := by
  obtain ⟨h1, h2⟩ := freshB_spec hf
  rw [newBox_fresh hf]
  have hg : ∀ t ∈ o.looksAt ops, (s.t.set d (.ref (1, d) 0))[t]? = s.t[t]? := fun t ht => List.getElem?_set_ne fun e => hd (by rw [e]; exact ht)
  have hlk : ∀ (t : Nat) (x : AV), s.t[t]? = some x → ∀ id ∈ x.ids, lookup id (((1, d), Ob.box (zs.map zA)) :: s.o) = lookup id s.o := fun t x hx id hi => by
    have : (1, d) ≠ id := fun e => h1 t x hx (e ▸ hi)
    simp only [lookup, if_neg this]
  exact ⟨⟨fun t ht => (hg t ht).symm, fun t ht x hx id hi => (hlk t x ((hg t ht) ▸ hx) id hi).symm⟩, ⟨hg, fun t ht x hx id hi => hlk t x hx id hi⟩⟩
theorem put_new {s : St} {d : Tmp} {e : Option Tmp} {v : AV} {zs : List D} (hf : freshB (1, d) s = true) (hf2 : freshB (1, d) (s.put e v) = true) (hde : e ≠ some d) : (s.put e v).newBox d (zs.map zA) = (s.newBox d (zs.map zA)).put e v := by
  rw [newBox_fresh hf, newBox_fresh hf2]
  cases e with
  | none => rfl
  | some e =>
    have : e ≠ d := fun h => hde (by rw [h])
    simp only [St.put, List.set_comm _ _ this]
theorem set_len {s : St} {e : Option Tmp} {v : AV} : (s.put e v).t.length = s.t.length := by cases e <;> simp [St.put]
/-- What is in the slot behind a put. -/
theorem put_look {s s2 : St} {e : Tmp} {v : AV} (h : s.t.length = s2.t.length) : (s.put (some e) v).t[e]? = (s2.put (some e) v).t[e]? := by
  simp only [St.put, List.getElem?_set, if_true, h]
theorem swapN {fr : List Nat} {a i : Oper} {d : Tmp} (ha : isNew fr a = some d) (hi : isNew fr i = none) (hia : ∀ x, i.op ≠ .assign x) (p1 : d ∉ i.looksAt ops) (p2 : i.dst ≠ some d) (hib : isB T.gf ops fr i = false) (him : isMk i = false) (hk0 : kOp fr i = true)
    {R : Type} {s : St} {κ : St → Option R} {r : R} (hs : FrInv fr s) :
    ((if preB T fr a s = true then opG T E ops.toList a s (fun s1 => if clear fr s1 a.dst = true then (if preB T fr i s1 = true then opG T E ops.toList i s1 (fun s2 => if clear fr s2 i.dst = true then κ s2 else none) else none) else none) else none) = some r) ↔
    ((if preB T fr i s = true then opG T E ops.toList i s (fun s1 => if clear fr s1 i.dst = true then (if preB T fr a s1 = true then opG T E ops.toList a s1 (fun s2 => if clear fr s2 a.dst = true then κ s2 else none) else none) else none) else none) = some r) := by
  obtain ⟨t, hop⟩ := opG_new (T := T) (E := E) (ops := ops) ha
  obtain ⟨_, _, had, _, hmem, hhead, hlow⟩ := isNew_spec ha
  have hfl : ∀ {s : St} {e : Tmp} {x : AV}, kGate fr s = true → i.dst = some e → s.t[e]? = some x → (1, d) ∉ x.ids := fun hg he hx => gate_free hg hmem hhead hlow (kOp_spec hk0 he).1 (kOp_spec hk0 he).2 hx
  by_cases hcp : (isCallP fr i).isSome = true
  · simp [pre_false hi hib hcp, preB_some ha, hop, had]
  have hcp : isCallP fr i = none := by simpa using hcp
  simp only [preB_none hi hcp, if_true, preB_some ha, hop, had]
  constructor
  · intro hk
    split at hk
    · rename_i hf
      split at hk
      · rename_i ht
        split at hk
        · rename_i hca
          obtain ⟨v, hk, hal⟩ := valG hib hia (fun h => absurd h (by simp [him])) hk
          split at hk
          · rename_i hci
            rw [hal s _ (new_alike hf p1).1]
            have hlen : s.t.length = (s.newBox d ((T.zero t).map zA)).t.length := by rw [newBox_fresh hf]; simp
            have hslot : ∀ u, i.dst = some u → (s.put i.dst v).t[u]? = ((s.newBox d ((T.zero t).map zA)).put i.dst v).t[u]? := fun u hu => by rw [hu]; exact put_look hlen
            have hg : kGate fr (s.put i.dst v) = true := kGate_mixN hlow hs.2 (clear_gate hci) fun u => by
              by_cases hu : i.dst = some u
              · exact .inr (.inl (hslot u hu))
              · exact .inl (put_other hu)
            have h1 : clear fr (s.put i.dst v) i.dst = true := clear_same (fun u hu => hslot u hu) hg hci
            have hf2 : freshB (1, d) (s.put i.dst v) = true := by
              obtain ⟨q1, q2⟩ := freshB_spec hf
              refine freshB_of (fun u x hx => ?_) (by cases i.dst <;> exact q2)
              by_cases hu : i.dst = some u
              · exact hfl hg hu hx
              · rw [put_other hu] at hx
                exact q1 u x hx
            rw [if_pos h1, if_pos hf2, if_pos ht, put_new hf hf2 p2]
            have h2 : clear fr ((s.newBox d ((T.zero t).map zA)).put i.dst v) (some d) = true := clear_same (fun u hu => put_other fun h => p2 (h.trans hu.symm)) (clear_gate hci) hca
            rw [if_pos h2]
            exact hk
          · simp at hk
        · simp at hk
      · simp at hk
    · simp at hk
  · intro hk
    obtain ⟨v, hk, hal⟩ := valG hib hia (fun h => absurd h (by simp [him])) hk
    split at hk
    · rename_i hci
      split at hk
      · rename_i hf2
        split at hk
        · rename_i ht
          split at hk
          · rename_i hca
            have hf : freshB (1, d) s = true := by
              obtain ⟨q1, q2⟩ := freshB_spec hf2
              have q3 : (s.put i.dst v).o = s.o := by cases i.dst <;> rfl
              rw [q3] at q2
              refine freshB_of (fun u x hx => ?_) q2
              by_cases hu : i.dst = some u
              · exact hfl hs.2 hu hx
              · exact q1 u x (by rw [put_other hu]; exact hx)
            rw [put_new hf hf2 p2] at hk hca
            rw [if_pos hf, if_pos ht]
            have hg : kGate fr (s.newBox d ((T.zero t).map zA)) = true := kGate_mixN hlow hs.2 (clear_gate hca) fun u => by
              by_cases hu : u = d
              · subst hu
                exact .inr (.inl (put_other p2).symm)
              · rw [newBox_fresh hf]
                exact .inl (List.getElem?_set_ne (Ne.symm hu))
            have h1 : clear fr (s.newBox d ((T.zero t).map zA)) (some d) = true := clear_same (fun u hu => by cases hu; exact (put_other p2).symm) hg hca
            rw [if_pos h1, hal _ _ (new_alike hf p1).2]
            have hlen : s.t.length = (s.newBox d ((T.zero t).map zA)).t.length := by rw [newBox_fresh hf]; simp
            have h2 : clear fr ((s.newBox d ((T.zero t).map zA)).put i.dst v) i.dst = true := clear_same (fun u hu => by rw [hu]; exact (put_look hlen).symm) (clear_gate hca) hci
            rw [if_pos h2]
            exact hk
          · simp at hk
        · simp at hk
      · simp at hk
    · simp at hk
/-! ### a box made out of its order, and a call that is handed no object -/
section
variable {fo : Id → AV} {fq : Id → Nat → AV} {j : Id} (h1 : ∀ k, fo k = .own k ∨ (j ≠ k ∧ (fo k).ids = [])) (h2 : ∀ k off, fq k off = .ref k off ∨ (j ≠ k ∧ (fq k off).ids = []))
include h1 h2
mutual
theorem sub_has : ∀ x : AV, j ∈ (x.sub fo fq).ids ↔ j ∈ x.ids
  | .d x => Iff.rfl
  | .own k => by
    simp only [AV.sub]
    rcases h1 k with e | ⟨e, e2⟩
    · rw [e]
    · rw [e2]; simp [AV.ids, e]
  | .tight n xs => Iff.rfl
  | .ref k off => by
    simp only [AV.sub]
    rcases h2 k off with e | ⟨e, e2⟩
    · rw [e]
    · rw [e2]; simp [AV.ids, e]
  | .elt k i off => by
    simp only [AV.sub]
    rcases h1 k with e | ⟨e, e2⟩
    · rw [e]; rfl
    · generalize fo k = q at e2
      cases q with
      | own n => simp [AV.ids] at e2
      | _ => simp [eltO, AV.ids, e]
  | .agg cs => by simp only [AV.sub, AV.ids, subL_has cs]
  | .tup cs => by simp only [AV.sub, AV.ids, subL_has cs]
  | .clo f as bs => by simp only [AV.sub, AV.ids, List.mem_append, subL_has as, subL_has bs]
  | .undef => Iff.rfl
theorem subL_has : ∀ xs : List AV, j ∈ idsL (subL fo fq xs) ↔ j ∈ idsL xs
  | [] => Iff.rfl
  | x :: xs => by simp only [subL, idsL, List.mem_append, sub_has x, subL_has xs]
end
theorem subE_has : ∀ es : List (List AV), j ∈ idsL (subE fo fq es).flatten ↔ j ∈ idsL es.flatten
  | [] => Iff.rfl
  | e :: es => by simp only [subE, List.flatten_cons, idsL_append, List.mem_append, subL_has h1 h2 e, subE_has es]
theorem subM_has : ∀ es : List (D × AV), j ∈ idsM (subM fo fq es) ↔ j ∈ idsM es
  | [] => Iff.rfl
  | (k, v) :: es => by simp only [subM, idsM, List.mem_append, sub_has h1 h2 v, subM_has es]
theorem subB_has (ob : Ob) : j ∈ (ob.sub fo fq).idsB ↔ j ∈ ob.idsB := by
  cases ob with
  | box cs => exact subL_has h1 h2 cs
  | tok n xs => exact Iff.rfl
  | arr g n es => exact subE_has h1 h2 es
  | map es => exact subM_has h1 h2 es
end
section
variable {o : Obs} {d0 : Tmp} {rs : List AV} {o2 : Obs}
theorem shO_has {d : Tmp} (hn : ∀ p ∈ o, newId d0 p.1 = false) (k : Id) : shO o [] d0 k = .own k ∨ ((1, d) ≠ k ∧ (shO o [] d0 k).ids = []) := by
  unfold shO
  simp only [List.contains_nil, Bool.false_or, Bool.false_eq_true, if_false]
  split
  · rename_i hk
    refine .inr ⟨?_, ?_⟩
    · rintro rfl
      simp [newId] at hk
    · split <;> rfl
  · exact .inl rfl
theorem shR_has {d : Tmp} (k : Id) (off : Nat) : shR o [] d0 k off = .ref k off ∨ ((1, d) ≠ k ∧ (shR o [] d0 k off).ids = []) := by
  unfold shR
  simp only [List.contains_nil, Bool.false_eq_true, if_false]
  split
  · rename_i hk
    refine .inr ⟨?_, rfl⟩
    rintro rfl
    simp [newId] at hk
  · exact .inl rfl
/-- What a call brings names what it made. -/
theorem bkO_new {K : List Id} {d : Tmp} (k : Id) : (1, d) ∉ (bkO [] K d0 k).ids := by
  unfold bkO
  split
  · rename_i j hj
    intro h
    have := bk_newId hj
    simp only [AV.ids, List.mem_singleton] at h
    rw [← h] at this
    simp [newId] at this
  · simp [AV.ids]
theorem bkR_new {K : List Id} {d : Tmp} (k : Id) (off : Nat) : (1, d) ∉ (bkR [] K d0 k off).ids := by
  unfold bkR
  split
  · rename_i j hj
    intro h
    have := bk_newId hj
    simp only [AV.ids, List.mem_singleton] at h
    rw [← h] at this
    simp [newId] at this
  · simp [AV.ids]
section
variable {fo : Id → AV} {fq : Id → Nat → AV} {j : Id} (h1 : ∀ k, j ∉ (fo k).ids) (h2 : ∀ k off, j ∉ (fq k off).ids)
include h1 h2
mutual
theorem sub_hasN : ∀ x : AV, j ∉ (x.sub fo fq).ids
  | .d x => by simp [AV.sub, AV.ids]
  | .own k => h1 k
  | .tight n xs => by simp [AV.sub, AV.ids]
  | .ref k off => h2 k off
  | .elt k i off => by
    have := h1 k
    simp only [AV.sub]
    generalize fo k = q at this
    cases q with
    | own n => exact this
    | _ => simp [eltO, AV.ids]
  | .agg cs => by simpa only [AV.sub, AV.ids] using subL_hasN cs
  | .tup cs => by simpa only [AV.sub, AV.ids] using subL_hasN cs
  | .clo f as bs => by simpa only [AV.sub, AV.ids, List.mem_append, not_or] using ⟨subL_hasN as, subL_hasN bs⟩
  | .undef => by simp [AV.sub, AV.ids]
theorem subL_hasN : ∀ xs : List AV, j ∉ idsL (subL fo fq xs)
  | [] => by simp [subL, idsL]
  | x :: xs => by simpa only [subL, idsL, List.mem_append, not_or] using ⟨sub_hasN x, subL_hasN xs⟩
end
theorem subE_hasN : ∀ es : List (List AV), j ∉ idsL (subE fo fq es).flatten
  | [] => by simp [subE, idsL]
  | e :: es => by simpa only [subE, List.flatten_cons, idsL_append, List.mem_append, not_or] using ⟨subL_hasN h1 h2 e, subE_hasN es⟩
theorem subM_hasN : ∀ es : List (D × AV), j ∉ idsM (subM fo fq es)
  | [] => by simp [subM, idsM]
  | (k, v) :: es => by simpa only [subM, idsM, List.mem_append, not_or] using ⟨sub_hasN h1 h2 v, subM_hasN es⟩
theorem subB_hasN (ob : Ob) : j ∉ (ob.sub fo fq).idsB := by
  cases ob with
  | box cs => exact subL_hasN h1 h2 cs
  | tok n xs => simp [Ob.sub, Ob.idsB]
  | arr g n es => exact subE_hasN h1 h2 es
  | map es => exact subM_hasN h1 h2 es
end
theorem packA_ids (xs : List AV) : (packA xs).ids = idsL xs := by
  unfold packA
  split
  · simp [idsL]
  · rfl
/-- A call's state names no new box. -/
theorem after_fresh {s : St} {d : Tmp} (hn : ∀ p ∈ s.o, newId d0 p.1 = false) (hf : freshB (1, d) s = true) : freshB (1, d) (gAfter s (some d0) [] rs o2) = true := by
  obtain ⟨q1, q2⟩ := freshB_spec hf
  refine freshB_of (fun t x hx => ?_) fun p hp => ?_
  · simp only [gAfter, St.put, Option.getD_some] at hx
    by_cases ht : d0 = t
    · subst ht
      rw [List.getElem?_set] at hx
      simp only [if_true] at hx
      split at hx
      · cases hx
        rw [packA_ids]
        exact subL_hasN bkO_new bkR_new _
      · cases hx
    · rw [List.getElem?_set_ne ht, subL_getP] at hx
      cases hy : s.t[t]? with
      | none => rw [hy] at hx; cases hx
      | some y =>
        rw [hy] at hx
        cases hx
        rw [sub_has (shO_has hn) shR_has]
        exact q1 t y hy
  · have hp : p ∈ mergeO [] (backO [] (keysN o2) d0 o2) (shO s.o [] d0) (shR s.o [] d0) d0 s.o ++ newO [] (backO [] (keysN o2) d0 o2) := hp
    rcases List.mem_append.1 hp with hp | hp
    · rcases mem_mergeO.1 hp with ⟨h, _⟩ | ⟨_, h2, q, hq, e, e2⟩
      · cases h
      · rw [e2, ← e]
        exact ⟨(q2 q hq).1, by rw [subB_has (shO_has hn) shR_has]; exact (q2 q hq).2⟩
    · obtain ⟨q, hq, h3, e⟩ := mem_backO.1 (mem_newO.1 hp).1
      refine ⟨fun h => ?_, by rw [e]; exact subB_hasN bkO_new bkR_new _⟩
      have := bk_newId h3
      rw [h] at this
      simp [newId] at this
/-- The other way round, but for what lay in the call's slot. -/
theorem after_fresh' {s : St} {d : Tmp} (hn : ∀ p ∈ s.o, newId d0 p.1 = false) (hd : ∀ x, s.t[d0]? = some x → (1, d) ∉ x.ids) (hf : freshB (1, d) (gAfter s (some d0) [] rs o2) = true) : freshB (1, d) s = true := by
  obtain ⟨q1, q2⟩ := freshB_spec hf
  refine freshB_of (fun t x hx => ?_) fun p hp => ?_
  · by_cases ht : d0 = t
    · subst ht
      exact hd x hx
    · have := q1 t (x.sub (shO s.o [] d0) (shR s.o [] d0)) (by
        simp only [gAfter, St.put, Option.getD_some]
        rw [List.getElem?_set_ne ht, subL_getP, hx]
        rfl)
      rwa [sub_has (shO_has hn) shR_has] at this
  · have hp' : (p.1, p.2.sub (shO s.o [] d0) (shR s.o [] d0)) ∈ (gAfter s (some d0) [] rs o2).o := by
      show _ ∈ mergeO [] (backO [] (keysN o2) d0 o2) (shO s.o [] d0) (shR s.o [] d0) d0 s.o ++ newO [] (backO [] (keysN o2) d0 o2)
      exact List.mem_append_left _ (mem_mergeO.2 (.inr ⟨by simp, hn p hp, p, hp, rfl, rfl⟩))
    have h := q2 _ hp'
    refine ⟨h.1, ?_⟩
    have h3 := h.2
    simp only at h3
    rwa [subB_has (shO_has hn) shR_has] at h3
theorem after_new {s : St} {d : Tmp} {zs : List D} (hne : d ≠ d0) (hn : ∀ p ∈ s.o, newId d0 p.1 = false) (hf : freshB (1, d) s = true) :
    gAfter (s.newBox d (zs.map zA)) (some d0) [] rs o2 = (gAfter s (some d0) [] rs o2).newBox d (zs.map zA) := by
  rw [newBox_fresh hf, newBox_fresh (after_fresh hn hf)]
  have e1 : ∀ k, newId d0 k = true → lookup k (((1, d), Ob.box (zs.map zA)) :: s.o) = lookup k s.o := fun k hk => by
    simp only [lookup]
    rw [if_neg]
    rintro rfl
    simp [newId] at hk
  have e2 : shO (((1, d), Ob.box (zs.map zA)) :: s.o) [] d0 = shO s.o [] d0 := by
    funext k
    unfold shO
    simp only [List.contains_nil, Bool.false_or]
    split
    · rename_i hk
      rw [e1 k hk]
    · rfl
  have e3 : shR (((1, d), Ob.box (zs.map zA)) :: s.o) [] d0 = shR s.o [] d0 := by
    funext k off
    unfold shR
    simp only [List.contains_nil, Bool.false_eq_true, if_false]
  have e4 : newId d0 (1, d) = false := by simp [newId]
  have e5 : Ob.sub (shO s.o [] d0) (shR s.o [] d0) (.box (zs.map zA)) = .box (zs.map zA) := by
    simp only [Ob.sub]
    rw [subL_free]
    exact idsL_of_nil fun x hx => by obtain ⟨z, _, rfl⟩ := List.mem_map.1 hx; exact zA_ids z
  simp only [gAfter, St.put, Option.getD_some, e2, e3, subL_setP, AV.sub, mergeO, List.contains_nil, Bool.false_eq_true, if_false, e4, e5, List.cons_append]
  have e6 : shR s.o [] d0 (1, d) 0 = .ref (1, d) 0 := by
    unfold shR
    simp only [List.contains_nil, Bool.false_eq_true, if_false, e4]
  rw [e6, List.set_comm _ _ hne]
end
theorem kGateN_of {fr : List Nat} (hlow : fr.headD 0 < 900000) {s : St} (h : ∀ e, 500000 + e ∈ fr → e < 300000 → ∃ x, s.t[e]? = some x ∧ kfree fr x = true) : kGate fr s = true := by
  simp only [kGate, Bool.and_eq_true, Bool.or_eq_true, decide_eq_true_eq]
  refine ⟨.inr (.inr ?_), .inl hlow⟩
  simp only [kOk, List.all_eq_true]
  intro e he
  by_cases h1 : 500000 ≤ e
  · by_cases h2 : e < 800000
    · obtain ⟨x, hx, hk⟩ := h (e - 500000) (by rw [Nat.add_sub_cancel' h1]; exact he) (by omega)
      rw [hx]
      simp [hk]
    · simp [h2]
  · simp [h1]
theorem kGateN_at {fr : List Nat} {s : St} (hg : kGate fr s = true) (hh : 800000 ≤ fr.headD 0) (hlw : fr.headD 0 < 900000) {e : Tmp} (he : 500000 + e ∈ fr) (hl : e < 300000) : ∃ x, s.t[e]? = some x ∧ kfree fr x = true := by
  simp only [kGate, Bool.and_eq_true, Bool.or_eq_true, decide_eq_true_eq] at hg
  have h1 := (hg.1.resolve_left (Nat.not_lt.2 hh)).resolve_left (Nat.not_le.2 hlw)
  simp only [kOk, List.all_eq_true] at h1
  have h2 := h1 _ he
  have e1 : decide (500000 ≤ 500000 + e) = true := by simp
  have e2 : decide (500000 + e < 800000) = true := decide_eq_true (Nat.add_lt_add_left hl 500000)
  rw [Nat.add_sub_cancel_left, e1, e2] at h2
  simp only [Bool.and_self, Bool.not_true, Bool.false_or] at h2
  cases hx : s.t[e]? with
  | none => simp [hx] at h2
  | some x =>
    rw [hx] at h2
    exact ⟨x, rfl, h2⟩
theorem swapC {fr : List Nat} {a i : Oper} {d d0 : Tmp} {c : Call} {f : Operand} (ha : isNew fr a = some d) (hi : isNew fr i = none) (hc : isCallP fr i = some (c, f, d0)) (p1 : d ∉ i.looksAt ops) (p2 : i.dst ≠ some d) (hk0 : kOp fr i = true)
    {R : Type} {s : St} {κ : St → Option R} {r : R} (hs : FrInv fr s) :
    ((if preB T fr a s = true then opG T E ops.toList a s (fun s1 => if clear fr s1 a.dst = true then (if preB T fr i s1 = true then opG T E ops.toList i s1 (fun s2 => if clear fr s2 i.dst = true then κ s2 else none) else none) else none) else none) = some r) ↔
    ((if preB T fr i s = true then opG T E ops.toList i s (fun s1 => if clear fr s1 i.dst = true then (if preB T fr a s1 = true then opG T E ops.toList a s1 (fun s2 => if clear fr s2 a.dst = true then κ s2 else none) else none) else none) else none) = some r) := by
  obtain ⟨t, hop⟩ := opG_new (T := T) (E := E) (ops := ops) ha
  obtain ⟨_, _, had, _, hmem, hhead, hlow⟩ := isNew_spec ha
  obtain ⟨io, icc, idd, ig⟩ := callP_spec hc
  have hGi : ∀ {R' : Type} (s : St) (κ : St → Option R'), opG T E ops.toList i s κ = opK T E i s κ := fun s κ => by unfold opG; rw [ig]
  obtain ⟨k1, k2⟩ := kOp_spec hk0 idd
  have hpre : ∀ s, preB T fr i s = callPre T c f d0 s := fun s => by simp only [preB, hi, hc]
  have hne : d ≠ d0 := fun e => p2 (by rw [idd, e])
  simp only [hpre, preB_some ha, hop, had, hGi, idd]
  -- the call's condition does not ask for the box
  have hget : ∀ {s : St}, freshB (1, d) s = true → ∀ x ∈ i.op.operands.toList, (s.newBox d ((T.zero t).map zA)).get T x = s.get T x := fun hf x hx => by
    rw [newBox_fresh hf]
    cases x with
    | tmp u =>
      have : d ≠ u := by
        rintro rfl
        exact p1 (looks_mem hx)
      simp only [St.get, List.getD_eq_getElem?_getD, List.getElem?_set_ne this]
    | const v => rfl
    | global g => rfl
    | func g => rfl
  have hmemA : ∀ x, x ∈ c.args.toList → x ∈ i.op.operands.toList := fun x hx => by
    simp only [io, Op.operands, Call.operands, icc]
    simp
    exact .inr (by simpa using hx)
  have hmemF : f ∈ i.op.operands.toList := by simp [io, Op.operands, Call.operands, icc]
  have hcp : ∀ {s : St}, freshB (1, d) s = true → callPre T c f d0 (s.newBox d ((T.zero t).map zA)) = callPre T c f d0 s := fun {s} hf => by
    have e1 : c.args.toList.map ((s.newBox d ((T.zero t).map zA)).get T) = c.args.toList.map (s.get T) := List.map_congr_left fun x hx => hget hf x (hmemA x hx)
    have e2 : (s.newBox d ((T.zero t).map zA)).o = ((1, d), .box ((T.zero t).map zA)) :: s.o := by rw [newBox_fresh hf]
    have e3 : newId d0 (1, d) = false := by simp [newId]
    simp only [callPre, e1, hget hf f hmemF, e2, List.all_cons, e3, Bool.not_false, Bool.true_and]
  -- what the gate asks
  have hgate : ∀ {s : St} {rs : List AV} {o2 : Obs} {s' : St}, (∀ p ∈ s.o, newId d0 p.1 = false) → kGate fr s = true → kGate fr s' = true → s'.t[d0]? = (gAfter s (some d0) [] rs o2).t[d0]? → kGate fr (gAfter s (some d0) [] rs o2) = true := by
    intro s rs o2 s' hn hg hg' hd
    refine kGateN_of hlow fun e he hl => ?_
    by_cases h : e = d0
    · subst h
      rw [← hd]
      exact kGateN_at hg' hhead hlow he hl
    · obtain ⟨x, hx, hk⟩ := kGateN_at hg hhead hlow he hl
      refine ⟨x.sub (shO s.o [] d0) (shR s.o [] d0), ?_, ?_⟩
      · simp only [gAfter, St.put, Option.getD_some]
        rw [List.getElem?_set_ne (Ne.symm h), subL_getP, hx]
        rfl
      · simp only [kfree, List.all_eq_true] at hk ⊢
        rintro ⟨k3, k4⟩ hm
        by_cases h3 : k3 = 1
        · subst h3
          exact hk _ ((sub_has (shO_has hn) shR_has x).1 hm)
        · simp [h3]
  have hslot : ∀ {s : St} {rs : List AV} {o2 : Obs}, freshB (1, d) s = true → (gAfter (s.newBox d ((T.zero t).map zA)) (some d0) [] rs o2).t[d0]? = (gAfter s (some d0) [] rs o2).t[d0]? := fun {s rs o2} hf => by
    have e0 : (s.newBox d ((T.zero t).map zA)).t.length = s.t.length := by rw [newBox_fresh hf]; simp
    simp only [gAfter, St.put, Option.getD_some, List.getElem?_set, if_true, subL_lenP, e0]
  have hslot2 : ∀ {s : St}, freshB (1, d) s = true → (s.newBox d ((T.zero t).map zA)).t[d0]? = s.t[d0]? := fun {s} hf => by
    rw [newBox_fresh hf]
    exact List.getElem?_set_ne hne
  constructor
  · intro hk
    split at hk
    case isFalse => simp at hk
    rename_i hf
    split at hk
    case isFalse => simp at hk
    rename_i ht
    split at hk
    case isFalse => simp at hk
    rename_i hca
    split at hk
    case isFalse => simp at hk
    rename_i hp
    rw [hcp hf] at hp
    obtain ⟨q, hq⟩ := call_eq (T := T) (E := E) io icc idd hp
    have hn := callPre_new hp
    rw [hq _ _ (hget hf)] at hk
    cases q with
    | none => simp at hk
    | some q =>
      obtain ⟨rs, o2⟩ := q
      simp only at hk
      split at hk
      case isFalse => simp at hk
      rename_i hci
      rw [if_pos hp, hq s _ fun _ _ => rfl]
      simp only
      have hg : kGate fr (gAfter s (some d0) [] rs o2) = true := hgate hn hs.2 (clear_gate hci) (hslot hf)
      rw [if_pos (clear_same (fun u hu => by cases hu; exact (hslot hf).symm) hg hci), if_pos (after_fresh hn hf), if_pos ht, ← after_new hne hn hf]
      have h2 : clear fr (gAfter (s.newBox d ((T.zero t).map zA)) (some d0) [] rs o2) (some d) = true := by
        refine clear_same (s := s.newBox d ((T.zero t).map zA)) (fun u hu => ?_) (clear_gate hci) hca
        cases hu
        rw [after_new hne hn hf, newBox_fresh (after_fresh hn hf), newBox_fresh hf]
        simp only [gAfter, St.put, Option.getD_some, List.getElem?_set, if_true, List.length_set, subL_lenP]
      rw [if_pos h2]
      exact hk
  · intro hk
    split at hk
    case isFalse => simp at hk
    rename_i hp
    obtain ⟨q, hq⟩ := call_eq (T := T) (E := E) io icc idd hp
    have hn := callPre_new hp
    rw [hq s _ fun _ _ => rfl] at hk
    cases q with
    | none => simp at hk
    | some q =>
      obtain ⟨rs, o2⟩ := q
      simp only at hk
      split at hk
      case isFalse => simp at hk
      rename_i hci
      split at hk
      case isFalse => simp at hk
      rename_i hf2
      split at hk
      case isFalse => simp at hk
      rename_i ht
      split at hk
      case isFalse => simp at hk
      rename_i hca
      have hf : freshB (1, d) s = true := after_fresh' hn (fun x hx => gate_free hs.2 hmem hhead hlow k1 k2 hx) hf2
      rw [← after_new hne hn hf] at hk hca
      rw [if_pos hf, if_pos ht]
      have e1 : (gAfter (s.newBox d ((T.zero t).map zA)) (some d0) [] rs o2).t[d]? = (s.newBox d ((T.zero t).map zA)).t[d]? := by
        rw [after_new hne hn hf, newBox_fresh (after_fresh hn hf), newBox_fresh hf]
        simp only [gAfter, St.put, Option.getD_some, List.getElem?_set, if_true, List.length_set, subL_lenP]
      have hg : kGate fr (s.newBox d ((T.zero t).map zA)) = true := kGate_mixN hlow hs.2 (clear_gate hca) fun u => by
        by_cases hu : u = d
        · subst hu
          exact .inr (.inl e1.symm)
        · rw [newBox_fresh hf]
          exact .inl (List.getElem?_set_ne (Ne.symm hu))
      rw [if_pos (clear_same (fun u hu => by cases hu; exact e1.symm) hg hca), hcp hf, if_pos hp, hq _ _ (hget hf)]
      simp only
      rw [if_pos (clear_same (fun u hu => by cases hu; exact hslot hf) (clear_gate hca) hci)]
      exact hk
theorem isApp_spec {fr : List Nat} {o : Oper} {d : Tmp} (h : isApp fr o = some d) : ((∃ c, o.op = .call c ∧ c.callee = .builtin .append) ∨ (∃ c f, o.op = .call c ∧ c.callee = .value f ∧ isCallP fr o = some (c, f, d)) ∨ ∃ t, o.op = .makeMap t none) ∧ o.dst = some d ∧ o.guard = none ∧ 900000 ≤ fr.headD 0 ∧ 800000 + d ∈ fr := by
  unfold isApp at h
  split at h
  · rename_i c d' h1 h2 h3
    split at h
    · rename_i h5
      split at h
      · rename_i h4
        cases h
        exact ⟨.inl ⟨c, h1, h5⟩, h2, h3, h4.1, by simpa using h4.2⟩
      · cases h
    · rename_i f h5
      split at h
      · rename_i h4
        cases h
        refine ⟨.inr (.inl ⟨c, f, h1, h5, ?_⟩), h2, h3, h4.1, by simpa using h4.2⟩
        simp only [isCallP, h1, h2, h3, h5]
        rw [if_pos (.inl h4)]
      · cases h
    · cases h
  · rename_i t d' h1 h2 h3
    split at h
    · rename_i h4
      cases h
      exact ⟨.inr (.inr ⟨t, h1⟩), h2, h3, h4.1, by simpa using h4.2⟩
    · cases h
  · cases h
theorem isApp_new {fr : List Nat} {o : Oper} {d : Tmp} (h : isApp fr o = some d) : isNew fr o = none := by
  cases hn : isNew fr o with
  | none => rfl
  | some e =>
    obtain ⟨t, h1, _⟩ := isNew_spec hn
    rcases (isApp_spec h).1 with ⟨c, h2, _⟩ | ⟨c, f, h2, _⟩ | ⟨t', h2⟩ <;> rw [h1] at h2 <;> cases h2
theorem isApp_cases {fr : List Nat} {op : Oper} {d0 : Tmp} (hi : isApp fr op = some d0) {R : Type} {s : St} (hp : preB T fr op s = true) {κ : St → Option R} {r : R} (hk : opK T E op s κ = some r) :
    ∃ (F : St → St) (fo : Id → AV) (fr : Id → Nat → AV), AppF F d0 s.o fo fr ∧ κ (F s) = some r ∧ ∀ s' : St, s'.o = s.o → (∀ x ∈ op.op.operands.toList, s'.get T x = s.get T x) → ∀ {R' : Type} (κ' : St → Option R'), opK T E op s' κ' = κ' (F s') := by
  have hn := isApp_new hi
  obtain ⟨h, hd, _⟩ := isApp_spec hi
  rcases h with ⟨c, h1, h2⟩ | ⟨c, f, h1, h2, h3⟩ | ⟨t, h1⟩
  · exact app_cases h1 h2 hd hk
  · simp only [preB, hn, h3] at hp
    exact call_cases h1 h2 hd hp hk
  · exact map_cases h1 hd hk
theorem isRd_spec {fr : List Nat} {o : Oper} (h : isRd fr o = true) : isRdOp o.op = true ∧ o.guard = none ∧ (∀ t, Operand.tmp t ∈ rdArgs o → 500000 + t ∈ fr ∧ t < 300000) ∧ ∃ d, o.dst = some d ∧ d ∉ fr ∧ d < 300000 := by
  simp only [isRd, Bool.and_eq_true, Option.isNone_iff_eq_none] at h
  obtain ⟨⟨⟨h1, h2⟩, h3⟩, h4⟩ := h
  refine ⟨h1, h2, fun t ht => ?_, ?_⟩
  · rw [List.all_eq_true] at h3
    have := h3 _ ht
    simpa only [Bool.and_eq_true, List.contains_eq_mem, decide_eq_true_eq, Nat.blt_eq] using this
  · cases hd : o.dst with
    | none => simp [hd] at h4
    | some d =>
      rw [hd] at h4
      simp only [Bool.and_eq_true, Bool.not_eq_true', List.contains_eq_mem, decide_eq_false_iff_not, Nat.blt_eq] at h4
      exact ⟨d, rfl, h4⟩
theorem rdArgs_sub {o : Oper} {x : Operand} (h : x ∈ rdArgs o) : x ∈ o.op.operands.toList := by
  unfold rdArgs at h
  split at h
  · simp at h
  · exact h
/-- What a listed slot holds. -/
theorem gate_pin {fr : List Nat} {s : St} (hg : kGate fr s = true) (hh : 900000 ≤ fr.headD 0) {e : Tmp} (he : 500000 + e ∈ fr) (hl : e < 300000) : ∃ x, s.t[e]? = some x ∧ pinT fr s.o x = true := by
  simp only [kGate, Bool.and_eq_true, Bool.or_eq_true, decide_eq_true_eq] at hg
  have h2 := hg.2.resolve_left (by omega)
  simp only [pOk, List.all_eq_true] at h2
  have a2 := h2 _ he
  have e1 : decide (500000 ≤ 500000 + e) = true := by simp
  have e2 : decide (500000 + e < 800000) = true := decide_eq_true (Nat.add_lt_add_left hl 500000)
  rw [e1, e2, Nat.add_sub_cancel_left] at a2
  simp only [Bool.and_self, Bool.not_true, Bool.false_or] at a2
  cases hx : s.t[e]? with
  | none => simp [hx] at a2
  | some x =>
    rw [hx] at a2
    exact ⟨x, rfl, a2⟩
theorem pinT_ref {fr : List Nat} {o : Obs} {id : Id} {off : Nat} (h : pinT fr o (.ref id off) = true) {d : Tmp} (hd : 800000 + d ∈ fr) : (∃ cs, lookup id o = some (.box cs)) ∧ id ≠ (1, d) := by
  simp only [pinT, Bool.and_eq_true] at h
  refine ⟨?_, ?_⟩
  · have h1 := h.1
    split at h1
    · rename_i cs hc
      exact ⟨cs, hc⟩
    · simp at h1
  · rintro rfl
    have h2 := h.2
    simp [hd] at h2
theorem pinT_of {fr : List Nat} {o o' : Obs} {id : Id} {off off' : Nat} (h : pinT fr o (.ref id off) = true) {cs : List AV} (hb : lookup id o' = some (.box cs)) : pinT fr o' (.ref id off') = true := by
  simp only [pinT, Bool.and_eq_true] at h ⊢
  rw [hb]
  exact ⟨rfl, h.2⟩
section
variable {F : St → St} {d0 : Tmp} {s : St} {fo : Id → AV} {fr' : Id → Nat → AV} {fr : List Nat} (hF : AppF F d0 s.o fo fr') (im : 800000 + d0 ∈ fr)
include hF im
theorem pin_fwd {x : AV} (h : pinT fr s.o x = true) : pinT fr (F s).o (x.sub fo fr') = true := by
  cases x with
  | ref id off =>
    obtain ⟨⟨cs, hc⟩, hne⟩ := pinT_ref h im
    rw [AV.sub, hF.fx id cs hne hc]
    exact pinT_of h (hF.box s rfl id cs hne hc)
  | d y => cases y <;> exact h
  | undef => rfl
  | _ => simp [pinT] at h
theorem pin_back {x : AV} (h : pinT fr (F s).o (x.sub fo fr') = true) (hu : x.sub fo fr' ≠ .undef) : pinT fr s.o x = true ∧ x ≠ .undef := by
  cases x with
  | ref id off =>
    rcases hF.rf id off with e | e
    · rw [AV.sub, e] at h
      obtain ⟨⟨cs, hc⟩, hne⟩ := pinT_ref h im
      obtain ⟨cs', hc'⟩ := hF.back s rfl id cs hne ⟨off, e⟩ hc
      exact ⟨pinT_of h hc', by simp⟩
    · rw [AV.sub, e] at hu
      exact absurd rfl hu
  | d y => exact ⟨by cases y <;> exact h, by simp⟩
  | undef => exact absurd rfl hu
  | own k =>
    rw [AV.sub] at h hu
    rcases hF.ow k with ⟨j, e⟩ | ⟨n, xs, e⟩ | e
    · rw [e] at h; simp [pinT] at h
    · rw [e] at h; simp [pinT] at h
    · exact absurd e hu
  | elt k i off =>
    rw [AV.sub] at h hu
    rcases hF.ow k with ⟨j, e⟩ | ⟨n, xs, e⟩ | e
    · rw [e] at h; simp [pinT, eltO] at h
    · rw [e] at hu; exact absurd rfl hu
    · rw [e] at hu; exact absurd rfl hu
  | tight n xs => rw [AV.sub] at h; simp [pinT] at h
  | agg cs => rw [AV.sub] at h; simp [pinT] at h
  | tup cs => rw [AV.sub] at h; simp [pinT] at h
  | clo f as bs => rw [AV.sub] at h; simp [pinT] at h
end
theorem swapP {fr : List Nat} {a i : Oper} {d0 : Tmp} (ha : isRd fr a = true) (hi : isApp fr i = some d0) (hap : a.apart ops i = true) {R : Type} {s : St} {κ : St → Option R} {r : R} (hs : FrInv fr s) (hp : preB T fr i s = true) :
    opG T E ops.toList a s (fun s1 => if clear fr s1 a.dst = true then opG T E ops.toList i s1 (fun s2 => if clear fr s2 i.dst = true then κ s2 else none) else none) = some r ↔
    opG T E ops.toList i s (fun s1 => if clear fr s1 i.dst = true then opG T E ops.toList a s1 (fun s2 => if clear fr s2 a.dst = true then κ s2 else none) else none) = some r := by
  obtain ⟨ro, rg, rl, d, rd, rm, rb⟩ := isRd_spec ha
  obtain ⟨io, idd, ig, hh, im⟩ := isApp_spec hi
  obtain ⟨p1, p2, p3⟩ := Oper.apart_spec hap
  have hGa : ∀ {R' : Type} (s : St) (κ : St → Option R'), opG T E ops.toList a s κ = opK T E a s κ := fun s κ => by unfold opG; rw [rg]
  have hGi : ∀ {R' : Type} (s : St) (κ : St → Option R'), opG T E ops.toList i s κ = opK T E i s κ := fun s κ => by unfold opG; rw [ig]
  simp only [hGa, hGi, rd, idd]
  have hne : d ≠ d0 := fun e => p2 d rd (by rw [idd, e])
  have hop : ∀ x ∈ rdArgs a, pinT fr s.o (s.get T x) = true := by
    intro x hx
    cases x with
    | tmp t =>
      obtain ⟨m, l⟩ := rl t hx
      obtain ⟨y, hy, h1⟩ := gate_pin hs.2 hh m l
      simp only [St.get, List.getD_eq_getElem?_getD, hy, Option.getD_some]
      exact h1
    | const v => simp only [St.get]; unfold ofConst; split <;> rfl
    | global g => simp only [St.get]; split <;> rfl
    | func f => rfl
  have hgetI : ∀ (v : AV), ∀ x ∈ i.op.operands.toList, (s.put (some d) v).get T x = s.get T x := fun v x hx => by
    refine get_put ?_
    rintro rfl
    exact p1 d rd (looks_mem hx)
  -- both orders, once the append's form is known
  have both : ∀ {F : St → St} {fo : Id → AV} {fr' : Id → Nat → AV}, AppF F d0 s.o fo fr' → (∃ v, (∀ {R : Type} (κ : St → Option R), opK T E a s κ = κ (s.put (some d) v)) ∧ ∀ {R : Type} (κ : St → Option R), opK T E a (F s) κ = κ ((F s).put (some d) (v.sub fo fr'))) ∨
      ((∀ {R : Type} (κ : St → Option R), opK T E a s κ = none) ∧ ∀ {R : Type} (κ : St → Option R), opK T E a (F s) κ = none) := by
    intro F fo fr' hF
    rw [← rd]
    refine rd_both ro (fun x hx => ?_) hF.ow hF.rf (fun x hx id off hv => ?_) (fun x hx id i off hv => ?_)
    · cases x with
      | tmp t =>
        have ht : t ≠ d0 := fun e => p3 d0 idd (e ▸ looks_mem hx)
        simp only [St.get, List.getD_eq_getElem?_getD, hF.t s rfl t ht]
        cases s.t[t]? <;> rfl
      | const v => rfl
      | global g => simp only [St.get]; split <;> rfl
      | func f => rfl
    · have h1 := hop x hx
      rw [hv] at h1
      obtain ⟨⟨cs, hc⟩, hn⟩ := pinT_ref h1 im
      exact ⟨hF.fx id cs hn hc, cs, hc, hF.box s rfl id cs hn hc⟩
    · have h1 := hop x hx
      rw [hv] at h1
      simp [pinT] at h1
  -- the slot that is written may be listed
  have hslot : ∀ {w : St} {v : AV} {y : AV}, w.t[d]? = some y → (w.put (some d) v).t[d]? = some v := fun h => by
    simp [St.put, (List.getElem?_eq_some_iff.1 h).1]
  have hund : ∀ {w : St} {v : AV}, undOk fr (w.put (some d) v) d = true → 500000 + d ∈ fr → (∃ y, w.t[d]? = some y) → v ≠ .undef := by
    intro w v h hm ⟨y, hy⟩ hv
    subst hv
    simp only [undOk, hslot hy, Bool.or_eq_true, decide_eq_true_eq, List.contains_eq_mem, Bool.not_eq_true', decide_eq_false_iff_not] at h
    rcases h with h | h | h | h
    · omega
    · exact rm h
    · exact h hm
    · simp at h
  have hund2 : ∀ {w : St} {v : AV}, (500000 + d ∈ fr → v ≠ .undef ∧ ∃ y, w.t[d]? = some y) → undOk fr (w.put (some d) v) d = true := by
    intro w v h
    simp only [undOk, Bool.or_eq_true, decide_eq_true_eq, List.contains_eq_mem, Bool.not_eq_true', decide_eq_false_iff_not]
    by_cases hm : 500000 + d ∈ fr
    · obtain ⟨h1, y, hy⟩ := h hm
      refine .inr (.inr (.inr ?_))
      rw [hslot hy]
      cases v <;> first | rfl | exact absurd rfl h1
    · exact .inr (.inr (.inl hm))
  have hclear : ∀ {w : St} {v : AV}, undOk fr (w.put (some d) v) d = true → kGate fr (w.put (some d) v) = true → clear fr (w.put (some d) v) (some d) = true := fun h1 h2 => by
    simp only [clear, List.contains_eq_mem, decide_eq_false rm, Bool.not_false, Bool.true_or, h1, h2, Bool.and_self]
  have hcl2 : ∀ {w : St}, clear fr w (some d) = true → undOk fr w d = true ∧ kGate fr w = true := fun h => by
    simp only [clear, Bool.and_eq_true] at h
    exact ⟨h.1.2, h.2⟩
  have hFd : ∀ {F : St → St} {fo : Id → AV} {fr' : Id → Nat → AV}, AppF F d0 s.o fo fr' → ∀ {y : AV}, s.t[d]? = some y → (F s).t[d]? = some (y.sub fo fr') := by
    intro F fo fr' hF y hy
    rw [hF.t s rfl d hne, hy]
    rfl
  constructor
  · intro hk
    obtain ⟨v0, h0⟩ : ∃ v0, ∀ {R : Type} (κ : St → Option R), opK T E a s κ = κ (s.put (some d) v0) := by
      have := rd_both (T := T) (E := E) ro (s := s) (s' := s) (fo := .own) (fr := .ref) (fun x hx => (AV.sub_id _).symm) (fun k => .inl ⟨k, rfl⟩) (fun k off => .inl rfl) (fun x hx id off hv => by
        have h1 := hop x hx
        rw [hv] at h1
        obtain ⟨⟨cs, hc⟩, hn⟩ := pinT_ref h1 im
        exact ⟨fun off => rfl, cs, hc, by rw [subL_id]; exact hc⟩) (fun x hx id i off hv => by
        have h1 := hop x hx
        rw [hv] at h1
        simp [pinT] at h1)
      rcases this with ⟨v, h1, _⟩ | ⟨h1, _⟩
      · exact ⟨v, fun κ => by rw [h1, rd]⟩
      · rw [h1] at hk; simp at hk
    rw [h0] at hk
    split at hk
    case isFalse => simp at hk
    rename_i hca
    obtain ⟨F, fo, fr', hF, hk, hev⟩ := isApp_cases hi (by rw [pre_put (ops := ops) (isApp_new hi) (e := some d) fun t e => by cases e; exact p1 d rd]; exact hp) hk
    have hF : AppF F d0 s.o fo fr' := hF
    obtain ⟨v, h1, h2⟩ : ∃ v, (∀ {R : Type} (κ : St → Option R), opK T E a s κ = κ (s.put (some d) v)) ∧ ∀ {R : Type} (κ : St → Option R), opK T E a (F s) κ = κ ((F s).put (some d) (v.sub fo fr')) := by
      rcases both hF with h | ⟨h, _⟩
      · exact h
      · have e := h0 (R := St) some
        rw [h] at e
        simp at e
    have hv : s.put (some d) v0 = s.put (some d) v := by
      have e := h0 (R := St) some
      rw [h1] at e
      exact (Option.some.inj e).symm
    rw [hv] at hk hca hev
    have hFs := hF.put s d v rfl hne
    rw [hFs] at hk
    split at hk
    case isFalse => simp at hk
    rename_i hci
    rw [hev s rfl fun x hx => (hgetI v x hx).symm]
    have hgi := clear_gate hci
    have hg : kGate fr (F s) = true := kGate_mix' hgi hgi fun t => by
      by_cases he : t = d
      · subst he
        cases hy : s.t[t]? with
        | none =>
          refine .inl ⟨?_, put_o.symm⟩
          have : (F s).t[t]? = none := by rw [hF.t s rfl t hne, hy]; rfl
          rw [this]
          simp only [St.put, List.getElem?_set, if_true]
          rw [if_neg (by have := List.getElem?_eq_none_iff.1 this; omega)]
        | some y =>
          refine .inr (.inr ⟨_, hFd hF hy, fun _ hm => ?_, fun h => by omega⟩)
          obtain ⟨y', hy', hp⟩ := gate_pin hs.2 hh hm rb
          rw [hy] at hy'
          cases hy'
          exact pin_fwd (s := s) hF im hp
      · exact .inl ⟨(put_other fun h => he (Option.some.inj h).symm).symm, put_o.symm⟩
    rw [if_pos (clear_same (fun t e => by cases e; exact (put_other fun h => hne (Option.some.inj h)).symm) hg hci), h2]
    have hd2 : clear fr ((F s).put (some d) (v.sub fo fr')) (some d) = true := by
      refine hclear (hund2 fun hm => ?_) hgi
      obtain ⟨y, hy, _⟩ := gate_pin hs.2 hh hm rb
      obtain ⟨z, hz, hzp⟩ := gate_pin (clear_gate hca) hh hm rb
      rw [hslot hy] at hz
      cases hz
      have hu := hund (hcl2 hca).1 hm ⟨y, hy⟩
      refine ⟨fun e => ?_, _, hFd hF hy⟩
      cases v with
      | ref id off =>
        obtain ⟨⟨cs, hc⟩, hn⟩ := pinT_ref hzp im
        rw [AV.sub, hF.fx id cs hn hc] at e
        simp at e
      | d y => simp [AV.sub] at e
      | undef => exact hu rfl
      | _ => simp [pinT] at hzp
    rw [if_pos hd2]
    exact hk
  · intro hk
    obtain ⟨F, fo, fr', hF, hk, hev⟩ := isApp_cases hi hp hk
    split at hk
    case isFalse => simp at hk
    rename_i hci
    rcases both hF with ⟨v, h1, h2⟩ | ⟨_, h⟩
    case inr => rw [h] at hk; simp at hk
    rw [h2] at hk
    split at hk
    case isFalse => simp at hk
    rename_i hca
    rw [h1]
    have hFs := hF.put s d v rfl hne
    have hgs : kGate fr (s.put (some d) v) = true := kGate_mix' hs.2 hs.2 fun t => by
      by_cases he : t = d
      · subst he
        cases hy : s.t[t]? with
        | none =>
          refine .inl ⟨?_, put_o⟩
          simp only [St.put, List.getElem?_set, if_true]
          rw [if_neg (by have := List.getElem?_eq_none_iff.1 hy; omega)]
        | some y =>
          refine .inr (.inr ⟨v, hslot hy, fun _ hm => ?_, fun h => by omega⟩)
          obtain ⟨z, hz, hzp⟩ := gate_pin (clear_gate hca) hh hm rb
          rw [hslot (hFd hF hy)] at hz
          cases hz
          exact (pin_back (s := s) hF im hzp (hund (hcl2 hca).1 hm ⟨_, hFd hF hy⟩)).1
      · exact .inl ⟨put_other fun h => he (Option.some.inj h).symm, put_o⟩
    have hcs : clear fr (s.put (some d) v) (some d) = true := by
      refine hclear (hund2 fun hm => ?_) hgs
      obtain ⟨y, hy, _⟩ := gate_pin hs.2 hh hm rb
      obtain ⟨z, hz, hzp⟩ := gate_pin (clear_gate hca) hh hm rb
      rw [hslot (hFd hF hy)] at hz
      cases hz
      exact ⟨(pin_back (s := s) hF im hzp (hund (hcl2 hca).1 hm ⟨_, hFd hF hy⟩)).2, y, hy⟩
    rw [if_pos hcs, hev (s.put (some d) v) rfl (hgetI v), hFs]
    rw [if_pos (clear_same (s := F s) (fun t e => by cases e; exact put_other fun h => hne (Option.some.inj h)) (clear_gate hca) hci)]
    exact hk
theorem kGate_bx {fr : List Nat} {t : List AV} {o o' : Obs} (h : ∀ k, isBx (lookup k o') = isBx (lookup k o)) : kGate fr ⟨t, o'⟩ = kGate fr ⟨t, o⟩ := by
  have hp : ∀ x, pinT fr o' x = pinT fr o x := fun x => by
    cases x with
    | ref id off =>
      have := h id
      simp only [pinT]
      congr 1
    | d y => cases y <;> rfl
    | _ => rfl
  have : pOk fr ⟨t, o'⟩ = pOk fr ⟨t, o⟩ := by
    unfold pOk
    simp only [hp]
  simp only [kGate, this]
  rfl
/-- A store and what looks at slots alone change places. -/
theorem swapS {fr : List Nat} {a i : Oper} (ha : isMv fr a = true) (hi : isSt i = true) (hap : a.apart ops i = true) {R : Type} {s : St} {κ : St → Option R} {r : R} (hs : FrInv fr s) :
    opG T E ops.toList a s (fun s1 => if clear fr s1 a.dst = true then opG T E ops.toList i s1 (fun s2 => if clear fr s2 i.dst = true then κ s2 else none) else none) = some r ↔
    opG T E ops.toList i s (fun s1 => if clear fr s1 i.dst = true then opG T E ops.toList a s1 (fun s2 => if clear fr s2 a.dst = true then κ s2 else none) else none) = some r := by
  obtain ⟨t, x, y, io, idd, ig⟩ := isSt_spec hi
  simp only [isMv, Bool.and_eq_true, Option.isNone_iff_eq_none] at ha
  obtain ⟨⟨ro, rg⟩, h4⟩ := ha
  obtain ⟨d, rd, rm⟩ : ∃ d, a.dst = some d ∧ d ∉ fr := by
    cases hd : a.dst with
    | none => simp [hd] at h4
    | some d =>
      rw [hd] at h4
      exact ⟨d, rfl, by simpa using h4⟩
  obtain ⟨p1, p2, p3⟩ := Oper.apart_spec hap
  have hGa : ∀ {R' : Type} (s : St) (κ : St → Option R'), opG T E ops.toList a s κ = opK T E a s κ := fun s κ => by unfold opG; rw [rg]
  have hGi : ∀ {R' : Type} (s : St) (κ : St → Option R'), opG T E ops.toList i s κ = opK T E i s κ := fun s κ => by unfold opG; rw [ig]
  simp only [hGa, hGi, rd, idd]
  have hgetI : ∀ (v : AV), ∀ x ∈ i.op.operands.toList, (s.put (some d) v).get T x = s.get T x := fun v x hx => by
    refine get_put ?_
    rintro rfl
    exact p1 d rd (looks_mem hx)
  have hgetO : ∀ (o' : Obs), ∀ x ∈ a.op.operands.toList, St.get T ⟨s.t, o'⟩ x = s.get T x := fun o' x _ => by cases x <;> rfl
  have hclear : ∀ {t : List AV} {o o' : Obs}, clear fr ⟨t, o⟩ (some d) = true → kGate fr ⟨t, o'⟩ = true → clear fr ⟨t, o'⟩ (some d) = true := fun h1 h2 => by
    simp only [clear, undOk, Bool.and_eq_true] at h1 ⊢
    exact ⟨h1.1, h2⟩
  rcases mv_cases (T := T) (E := E) ro s with ⟨v, hv⟩ | hv
  · rw [rd] at hv
    constructor
    · intro hk
      rw [hv s fun _ _ => rfl] at hk
      split at hk
      case isFalse => simp at hk
      rename_i hca
      obtain ⟨o', hk, hb, hev⟩ := store_cases io idd hk
      have hb' : ∀ k, isBx (lookup k o') = isBx (lookup k s.o) := hb
      split at hk
      case isFalse => simp at hk
      rename_i hci
      rw [hev s rfl fun x hx => (hgetI v x hx).symm]
      have h1 : clear fr ⟨s.t, o'⟩ none = true := (kGate_bx hb').trans hs.2
      rw [if_pos h1, hv _ (hgetO o')]
      have h2 : clear fr (St.put ⟨s.t, o'⟩ (some d) v) (some d) = true := hclear (t := s.t.set d v) (o := s.o) hca hci
      rw [if_pos h2]
      exact hk
    · intro hk
      obtain ⟨o', hk, hb, hev⟩ := store_cases io idd hk
      split at hk
      case isFalse => simp at hk
      rename_i hci
      rw [hv _ (hgetO o')] at hk
      split at hk
      case isFalse => simp at hk
      rename_i hca
      rw [hv s fun _ _ => rfl]
      have hca' : clear fr ⟨s.t.set d v, o'⟩ (some d) = true := hca
      have h1 : clear fr (s.put (some d) v) (some d) = true := hclear (t := s.t.set d v) (o := o') hca' ((kGate_bx hb).symm.trans (clear_gate hca'))
      rw [if_pos h1, hev (s.put (some d) v) rfl (hgetI v)]
      have h2 : clear fr ⟨s.t.set d v, o'⟩ none = true := clear_gate hca'
      have h3 : clear fr ⟨(s.put (some d) v).t, o'⟩ none = true := h2
      rw [if_pos h3]
      exact hk
  · constructor
    · intro hk
      rw [hv s fun _ _ => rfl] at hk
      simp at hk
    · intro hk
      obtain ⟨o', hk, hb, hev⟩ := store_cases io idd hk
      split at hk
      · rw [hv _ (hgetO o')] at hk
        simp at hk
      · simp at hk
/-- Two neighbours change places. -/
theorem swap {fr : List Nat} {a i : Oper} (haa : ∀ x, a.op ≠ .assign x) (hia : ∀ x, i.op ≠ .assign x) (hc : comm T.gf ops fr a i = true) {R : Type} {s : St} {κ : St → Option R} {r : R} (hs : FrInv fr s)
    (hk : (if preB T fr a s = true then opG T E ops.toList a s (fun s1 => if clear fr s1 a.dst = true then (if preB T fr i s1 = true then opG T E ops.toList i s1 (fun s2 => if clear fr s2 i.dst = true then κ s2 else none) else none) else none) else none) = some r) :
    (if preB T fr i s = true then opG T E ops.toList i s (fun s1 => if clear fr s1 i.dst = true then (if preB T fr a s1 = true then opG T E ops.toList a s1 (fun s2 => if clear fr s2 a.dst = true then κ s2 else none) else none) else none) else none) = some r := by
  unfold comm at hc
  rw [Bool.and_eq_true] at hc
  obtain ⟨hap, hc⟩ := hc
  obtain ⟨p1, p2, p3⟩ := Oper.apart_spec hap
  cases ha : isNew fr a with
  | some d =>
    cases hi : isNew fr i with
    | some e => simp [ha, hi] at hc
    | none =>
      simp only [ha, hi, Bool.and_eq_true, Bool.or_eq_true, Bool.not_eq_true'] at hc
      obtain ⟨_, _, had, _⟩ := isNew_spec ha
      rcases hc.2 with h | h
      · exact (swapN ha hi hia (p1 d had) (p2 d had) h.1 h.2 hc.1 hs).1 hk
      · obtain ⟨⟨c, f, d0⟩, h⟩ := Option.isSome_iff_exists.1 h
        exact (swapC ha hi h (p1 d had) (p2 d had) hc.1 hs).1 hk
  | none =>
    cases hi : isNew fr i with
    | some e =>
      simp only [ha, hi, Bool.and_eq_true, Bool.or_eq_true, Bool.not_eq_true'] at hc
      obtain ⟨_, _, hid, _⟩ := isNew_spec hi
      rcases hc.2 with h | h
      · exact (swapN hi ha haa (p3 e hid) (fun h => p2 e h hid) h.1 h.2 hc.1 hs).2 hk
      · obtain ⟨⟨c, f, d0⟩, h⟩ := Option.isSome_iff_exists.1 h
        exact (swapC hi ha h (p3 e hid) (fun h => p2 e h hid) hc.1 hs).2 hk
    | none =>
      simp only [ha, hi] at hc
      have hpa : i.apart ops a = true := by
        simp only [Oper.apart, Bool.and_eq_true]
        refine ⟨?_, ?_⟩
        · cases hd : i.dst with
          | none => rfl
          | some d =>
            have h3 : a.dst ≠ some d := fun h => p2 d h hd
            simp [p3 d hd, h3]
        · cases hd : a.dst with
          | none => rfl
          | some d => simp [p1 d hd]
      -- the order alone
      have main : preB T fr a s = true → preB T fr i s = true → opG T E ops.toList a s (fun s1 => if clear fr s1 a.dst = true then opG T E ops.toList i s1 (fun s2 => if clear fr s2 i.dst = true then κ s2 else none) else none) = some r →
          opG T E ops.toList i s (fun s1 => if clear fr s1 i.dst = true then opG T E ops.toList a s1 (fun s2 => if clear fr s2 a.dst = true then κ s2 else none) else none) = some r := by
        intro pa pi hk
        by_cases hx : (isRd fr a && (isApp fr i).isSome) = true
        · rw [Bool.and_eq_true, Option.isSome_iff_exists] at hx
          obtain ⟨h1, d0, h2⟩ := hx
          exact (swapP h1 h2 hap hs pi).1 hk
        by_cases hy : ((isApp fr a).isSome && isRd fr i) = true
        · rw [Bool.and_eq_true, Option.isSome_iff_exists] at hy
          obtain ⟨⟨d0, h2⟩, h1⟩ := hy
          exact (swapP h1 h2 hpa hs pa).2 hk
        by_cases hz : (isMv fr a && isSt i) = true
        · rw [Bool.and_eq_true] at hz
          exact (swapS hz.1 hz.2 hap hs).1 hk
        by_cases hw : (isSt a && isMv fr i) = true
        · rw [Bool.and_eq_true] at hw
          exact (swapS hw.2 hw.1 hpa hs).2 hk
        rw [Bool.not_eq_true] at hx hy hz hw
        rw [hx, hy, hz, hw] at hc
        simp only [Bool.or_false] at hc
        exact swapO haa hia hap hc hs hk
      split at hk
      case isFalse => simp at hk
      rename_i pa
      cases hba : isB T.gf ops fr a with
      | false =>
        -- what turns nothing goes ahead: it only puts
        have hmk : isMk a = true → ∀ t ∈ a.looksAt ops, Free s t := fun hm => by
          have hf : frOp ops fr a = true := by
            rw [hba] at hc
            cases hbi : isB T.gf ops fr i with
            | false => rw [hbi] at hc; simpa [hm] using (Bool.and_eq_true_iff.1 hc).1
            | true =>
              rw [hbi] at hc
              simp only [Bool.or_eq_true, Bool.and_eq_true] at hc
              rcases hc with h | ⟨h, _⟩ | ⟨h, _⟩
              · exact h
              · have := (isRd_spec h).1
                unfold isMk at hm
                split at hm
                · rename_i e; rw [e] at this; simp [isRdOp] at this
                · simp at hm
              · simp only [isMv, Bool.and_eq_true] at h
                have := h.1.1
                unfold isMk at hm
                split at hm
                · rename_i e; rw [e] at this; simp [isMvOp] at this
                · simp at hm
          exact frl hs hf
        obtain ⟨v, _, hv⟩ := valG hba haa hmk hk
        have hv := fun {R' : Type} (κ' : St → Option R') => hv (R' := R') s κ' (.same (fun _ _ => rfl) rfl)
        have hpp : preB T fr i (s.put a.dst v) = preB T fr i s := pre_put hi p1
        have pi : preB T fr i s = true := by
          rw [hv] at hk
          split at hk
          · split at hk
            · rename_i h; rw [← hpp]; exact h
            · simp at hk
          · simp at hk
        have hk2 := main pa pi (by
          rw [hv] at hk ⊢
          rw [hpp, if_pos pi] at hk
          exact hk)
        rw [if_pos pi]
        have hca := pre_plain ha hba pa
        simp only [preB_none ha hca, if_true]
        exact hk2
      | true =>
        cases hbi : isB T.gf ops fr i with
        | true => rw [hba, hbi] at hc; simp at hc
        | false =>
          have hci : isCallP fr i = none := by
            obtain ⟨s1, h1, _⟩ := turnG_step hba hk
            split at h1
            · split at h1
              · exact pre_plain hi hbi (by assumption)
              · simp at h1
            · simp at h1
          simp only [preB_none hi hci, if_true] at hk ⊢
          have hk2 := main pa (preB_none hi hci s) hk
          have hmk : isMk i = true → ∀ t ∈ i.looksAt ops, Free s t := fun hm => by
            have hf : frOp ops fr i = true := by
              rw [hba, hbi] at hc
              simp only [Bool.or_eq_true, Bool.and_eq_true] at hc
              rcases hc with h | ⟨_, h⟩ | ⟨_, h⟩
              · exact h
              · have := (isRd_spec h).1
                unfold isMk at hm
                split at hm
                · rename_i e; rw [e] at this; simp [isRdOp] at this
                · simp at hm
              · simp only [isMv, Bool.and_eq_true] at h
                have := h.1.1
                unfold isMk at hm
                split at hm
                · rename_i e; rw [e] at this; simp [isMvOp] at this
                · simp at hm
            exact frl hs hf
          obtain ⟨v, _, hv⟩ := valG hbi hia hmk hk2
          have hv := fun {R' : Type} (κ' : St → Option R') => hv (R' := R') s κ' (.same (fun _ _ => rfl) rfl)
          have hpp : preB T fr a (s.put i.dst v) = preB T fr a s := pre_put ha p3
          rw [hv] at hk2 ⊢
          rw [hpp, if_pos pa]
          exact hk2
theorem mv_dst (fr : List Nat) (o : Oper) : (mv fr o).dst = o.dst := by
  unfold mv
  split
  · rfl
  · split <;> rfl
  · rfl
  · rfl
  · rfl
theorem mv_guard (fr : List Nat) (o : Oper) : (mv fr o).guard = o.guard := by
  unfold mv
  split
  · rfl
  · split <;> rfl
  · rfl
  · rfl
  · rfl
theorem mv_new (fr fr' : List Nat) (o : Oper) : isNew fr (mv fr' o) = isNew fr o := by
  unfold mv
  split
  · rename_i x h
    simp only [isNew, h]
  · rename_i t y d h1 h2
    split
    · simp only [isNew, h1]
    · rfl
  · rename_i t n ps h1
    simp only [isNew, h1]
  · rename_i t x lo hi mx h1
    simp only [isNew, h1]
  · rfl
theorem mv_callP (fr fr' : List Nat) (o : Oper) : isCallP fr (mv fr' o) = isCallP fr o := by
  unfold mv
  split
  · rename_i x h
    simp only [isCallP, h]
  · rename_i t y d h1 h2
    split
    · simp only [isCallP, h1]
    · rfl
  · rename_i t n ps h1
    simp only [isCallP, h1]
  · rename_i t x lo hi mx h1
    simp only [isCallP, h1]
  · rfl
theorem mv_pre (fr : List Nat) (o : Oper) (s : St) : preB T fr (mv fr o) s = preB T fr o s := by simp only [preB, mv_new, mv_callP]
theorem mv_not (fr : List Nat) (o : Oper) : ∀ x, (mv fr o).op ≠ .assign x := by
  intro x
  unfold mv
  split
  · simp
  · rename_i t y d h1 h2
    split
    · simp [h1]
    · simp [h1]
  · rename_i t n ps h1
    simp [h1]
  · rename_i t x lo hi mx h1
    simp [h1]
  · rename_i h h' h'' h3
    exact fun e => h x e
theorem mv_exec (fr : List Nat) (o : Oper) (ρ : Operand → Value) : execOp ρ (mv fr o) = execOp ρ o := by
  unfold mv
  split
  · rename_i x h
    simp only [execOp, h]
  · rename_i t y d h1 h2
    split
    · simp only [execOp, h1]
    · rfl
  · rename_i t n ps h1
    simp only [execOp, h1]
  · rename_i t x lo hi mx h1
    simp only [execOp, h1]
  · rfl

theorem stepG {f0 : List Nat} {o : Oper} (hna : ∀ x, o.op ≠ .assign x) {R : Type} {s : St} {κ : St → Option R} {r : R} (hk : opG T E ops.toList o s κ = some r) :
    ∃ s', κ s' = some r ∧ (∀ {R' : Type} (κ' : St → Option R'), opG T E ops.toList o s κ' = κ' s') ∧ ∀ {fr : List Nat}, FrInv fr s → clear fr s' o.dst = true → FrInv fr s' := by
  cases hb : isB T.gf ops f0 o with
  | true =>
    obtain ⟨s', h1, h2, h3⟩ := turnG_step hb hk
    exact ⟨s', h1, h2, fun hs hc => hs.turn h3 hc⟩
  | false =>
    cases hm : isMk o with
    | false =>
      obtain ⟨v, h1, h2⟩ := valG hb hna (fun h => absurd h (by simp [hm])) hk
      exact ⟨_, h1, fun κ' => h2 s κ' (.same (fun _ _ => rfl) rfl), fun hs hc => hs.put hc⟩
    | true =>
      unfold isMk at hm
      split at hm
      · rename_i t x ho
        obtain ⟨s', h1, h2, h3⟩ := turnG_step' (turn_makeInterface ho) hk
        exact ⟨s', h1, h2, fun hs hc => hs.turn h3 hc⟩
      · simp at hm
/-! what comes before, the short way -/
theorem nubN_mem {k : Nat} : ∀ {l seen : List Nat}, k ∈ nubN seen l → k ∈ l
  | [], _, h => by simp [nubN] at h
  | j :: r, seen, h => by
    simp only [nubN] at h
    split at h
    · exact List.mem_cons_of_mem _ (nubN_mem h)
    · rcases List.mem_cons.1 h with rfl | h
      · exact List.mem_cons_self
      · exact List.mem_cons_of_mem _ (nubN_mem h)
theorem upsGo_anc {ops : Array Oper} : ∀ (r : List Oper) (acc : List (List Nat)), ops.toList.drop acc.length = r → (∀ (i : Nat) (up : List Nat), acc[i]? = some up → ∀ a ∈ up, ∀ n, i < n → a ∈ anc ops n i) →
    ∀ (i : Nat) (up : List Nat), (upsGo r acc)[i]? = some up → ∀ a ∈ up, ∀ n, i < n → a ∈ anc ops n i
  | [], acc, _, h => h
  | o :: r, acc, hd, h => by
    have ho : ops[acc.length]? = some o := by
      rw [← Array.getElem?_toList]
      have := congrArg (fun l => l[0]?) hd
      simpa using this
    refine upsGo_anc r (acc ++ [upOne o acc]) ?_ fun i up hi a ha n hn => ?_
    · rw [List.length_append, List.length_singleton, ← List.drop_drop, hd]
      rfl
    · by_cases hlt : i < acc.length
      · rw [List.getElem?_append_left hlt] at hi
        exact h i up hi a ha n hn
      · rw [List.getElem?_append_right (by omega)] at hi
        have hie : i = acc.length := by
          have := (List.getElem?_eq_some_iff.1 hi).1
          simp at this
          omega
        subst hie
        simp only [Nat.sub_self, List.getElem?_cons_zero, Option.some.injEq] at hi
        subst hi
        have hm := nubN_mem ha
        obtain ⟨e, he, hm⟩ := List.mem_flatMap.1 hm
        obtain ⟨n, rfl⟩ : ∃ m, n = m + 1 := ⟨n - 1, by omega⟩
        simp only [anc, ho]
        refine List.mem_flatMap.2 ⟨e, he, ?_⟩
        rcases List.mem_cons.1 hm with rfl | hm
        · exact List.mem_cons_self
        · refine List.mem_cons_of_mem _ ?_
          cases hq : acc[e.on]? with
          | none => rw [hq] at hm; cases hm
          | some up =>
            rw [hq] at hm
            have := (List.getElem?_eq_some_iff.1 hq).1
            exact h e.on up hq a hm n (by omega)
theorem drawOk_slow {gf : FuncId → Bool} {fr : List Nat} {ops : Array Oper} (h : drawOk gf fr ops = true) : drawOkS gf fr ops = true := by
  unfold drawOk at h
  unfold drawOkS
  simp only [List.all_eq_true] at h ⊢
  intro i hi
  have h1 := h i hi
  have hlt : i < ops.size := List.mem_range.1 hi
  split at h1
  · rename_i oi hoi
    simp only [Bool.and_eq_true, List.all_eq_true] at h1 ⊢
    refine ⟨h1.1, fun a ha => ?_⟩
    have h2 := h1.2 a ha
    rw [Bool.or_eq_true] at h2 ⊢
    rcases h2 with h2 | h2
    · left
      rw [List.contains_iff_mem] at h2 ⊢
      cases hq : (upsGo ops.toList [])[i]? with
      | none => rw [hq] at h2; cases h2
      | some up =>
        rw [hq] at h2
        exact upsGo_anc ops.toList [] rfl (fun i up hi => by simp at hi) i up hq a h2 ops.size hlt
    · exact .inr h2
  · rfl
/-- What may go ahead goes ahead. -/
theorem front {fr : List Nat} {R : Type} {κ : St → Option R} {r : R} {i : Oper} {B : List Oper} : ∀ (A : List Oper) (s : St), FrInv fr s → (∀ a ∈ A, comm T.gf ops fr (mv fr a) (mv fr i) = true) → dopsK T E fr ops.toList (A ++ i :: B) s κ = some r → dopsK T E fr ops.toList (i :: (A ++ B)) s κ = some r
  | [], s, _, _, hk => hk
  | a :: A, s, hs, hc, hk => by
    simp only [List.cons_append, dopsK] at hk
    split at hk
    case isFalse => simp at hk
    rename_i hpa
    obtain ⟨s1, hk, hst, hfr⟩ := stepG (f0 := fr) (mv_not fr a) hk
    split at hk
    · rename_i hcl
      have hs1 := hfr hs (by rw [mv_dst]; exact hcl)
      have ih := front A s1 hs1 (fun b hb => hc b (by simp [hb])) hk
      simp only [dopsK] at ih
      have hboth : (if preB T fr (mv fr a) s = true then opG T E ops.toList (mv fr a) s (fun s1 => if clear fr s1 (mv fr a).dst = true then (if preB T fr (mv fr i) s1 = true then opG T E ops.toList (mv fr i) s1 (fun s2 => if clear fr s2 (mv fr i).dst = true then dopsK T E fr ops.toList (A ++ B) s2 κ else none) else none) else none) else none) = some r := by
        rw [mv_pre, if_pos hpa, hst, mv_dst, if_pos hcl, mv_dst, mv_pre]
        exact ih
      have := swap (mv_not fr a) (mv_not fr i) (hc a (by simp)) hs hboth
      simp only [mv_dst, mv_pre] at this
      simp only [List.cons_append, dopsK]
      exact this
    · simp at hk

theorem anc_listed {U : List Nat} (hdown : ∀ (j : Nat) (o : Oper), ops[j]? = some o → j ∉ U → ∀ e ∈ o.after, Region.binds .any e = true → e.on ∉ U) : ∀ (n i : Nat) (o : Oper), ops[i]? = some o → (∀ e ∈ o.after, Region.binds .any e = true → e.on ∉ U) → ∀ a ∈ anc ops n i, a ∉ U
  | 0, i, o, _, _, a, ha => by simp [anc] at ha
  | n + 1, i, o, ho, he, a, ha => by
    simp only [anc, ho, List.mem_flatMap, List.mem_filter] at ha
    obtain ⟨e, ⟨hmem, hb⟩, ha⟩ := ha
    have hon := he e (by simpa using hmem) hb
    rcases List.mem_cons.1 ha with rfl | ha
    · exact hon
    · cases hoe : ops[e.on]? with
      | none =>
        cases n with
        | zero => simp [anc] at ha
        | succ n => simp [anc, hoe] at ha
      | some oe => exact anc_listed hdown n e.on oe hoe (hdown e.on oe hoe hon) a ha

section
variable {P : Program} (hT : TOk P T) (hE : ∀ f, Pure P T f (E f))
include hT hE

theorem any_sound {fr : List Nat} {R : Type} {N : Mut} {X : Fm} {w0 : World} {Q : Exit → Act → World → Prop} {κ : St → Option R} {r : R} (hd0 : drawOk T.gf fr ops = true)
    (hn : ∀ γ' w' s' a', SR T N w0 X γ' w' s' a' → κ s' = some r → Q .normal a' w') :
    ∀ (fuel : Nat) (U : List Nat) (listed : Array Bool) (γ : Gam) (w : World) (s : St) (a : Act), U.length ≤ fuel → U.Pairwise (· < ·) → (∀ j ∈ U, j < ops.size) → (∀ j, j < ops.size → listed[j]? = some (decide (j ∉ U))) →
      (∀ (j : Nat) (o : Oper), ops[j]? = some o → j ∉ U → ∀ e ∈ o.after, Region.binds .any e = true → e.on ∉ U) →
      FrInv fr s → SR T N w0 X γ w s a → dopsK T E fr ops.toList (U.filterMap (ops[·]?)) s κ = some r → wpAny P .any ops Q fuel listed a w := by
  have hd := drawOk_slow hd0
  have hon : ∀ (j : Nat) (o : Oper), ops[j]? = some o → ∀ e ∈ o.after, Region.binds .any e = true → e.on < j := by
    intro j o ho e he hb
    have hlt := (Array.getElem?_eq_some_iff.1 ho).1
    simp only [drawOkS, List.all_eq_true, List.mem_range] at hd
    have := hd j hlt
    simp only [ho, Bool.and_eq_true, List.all_eq_true] at this
    have := this.1 e (by simpa using he)
    simpa [hb] using this
  have hcomm : ∀ (i a : Nat) (oi oa : Oper), ops[i]? = some oi → ops[a]? = some oa → a < i → a ∉ anc ops ops.size i → comm T.gf ops fr (mv fr oa) (mv fr oi) = true := by
    intro i a oi oa hi ha hlt hna
    have hil := (Array.getElem?_eq_some_iff.1 hi).1
    simp only [drawOkS, List.all_eq_true, List.mem_range] at hd
    have := hd i hil
    simp only [hi, Bool.and_eq_true, List.all_eq_true, List.mem_range] at this
    have := this.2 a hlt
    simpa [hna, ha] using this
  have hready : ∀ (U : List Nat) (listed : Array Bool), (∀ j, j < ops.size → listed[j]? = some (decide (j ∉ U))) → ∀ i, i ∈ Region.ready .any ops listed ↔ i < ops.size ∧ i ∈ U ∧ ∀ o, ops[i]? = some o → ∀ e ∈ o.after, Region.binds .any e = true → e.on ∉ U := by
    intro U listed hl i
    rw [mem_ready]
    constructor
    · rintro ⟨h1, o, ho, h2⟩
      have hlt := (Array.getElem?_eq_some_iff.1 ho).1
      refine ⟨hlt, ?_, fun o' ho' e he hb => ?_⟩
      · simpa [hl i hlt] using h1
      · have : o = o' := by rw [ho] at ho'; exact Option.some.inj ho'
        subst this
        have hlt' : e.on < ops.size := Nat.lt_trans (hon i o ho e he hb) hlt
        simpa [hl e.on hlt'] using h2 e he hb
    · rintro ⟨hlt, h1, h2⟩
      have ho : ops[i]? = some ops[i] := Array.getElem?_eq_getElem hlt
      refine ⟨by simpa [hl i hlt] using h1, _, ho, fun e he hb => ?_⟩
      have hlt' : e.on < ops.size := Nat.lt_trans (hon i _ ho e he hb) hlt
      simpa [hl e.on hlt'] using h2 _ ho e he hb
  have hdone : ∀ (U : List Nat) (listed : Array Bool) (γ : Gam) (w : World) (s : St) (a : Act), U.Pairwise (· < ·) → (∀ j ∈ U, j < ops.size) → (∀ j, j < ops.size → listed[j]? = some (decide (j ∉ U))) → SR T N w0 X γ w s a → dopsK T E fr ops.toList (U.filterMap (ops[·]?)) s κ = some r → Region.ready .any ops listed = [] → Q .normal a w := by
    intro U listed γ w s a hp hlt hl h hk hr
    cases U with
    | nil =>
      simp only [List.filterMap_nil, dopsK] at hk
      exact hn γ w s a h hk
    | cons i U =>
      exfalso
      have : i ∈ Region.ready .any ops listed := by
        rw [hready _ _ hl]
        refine ⟨hlt i (by simp), by simp, fun o ho e he hb hmem => ?_⟩
        have h1 := hon i o ho e he hb
        rcases List.mem_cons.1 hmem with h2 | h2
        · omega
        · have := List.rel_of_pairwise_cons hp h2
          omega
      rw [hr] at this
      simp at this
  intro fuel
  induction fuel with
  | zero =>
    intro U listed γ w s a hlen hp hlt hl hdown hs h hk
    have : U = [] := List.eq_nil_of_length_eq_zero (by omega)
    subst this
    have hr : Region.ready .any ops listed = [] := List.eq_nil_iff_forall_not_mem.2 fun i hi => by
      rw [hready _ _ hl] at hi
      simp at hi
    exact ⟨hr, hdone [] listed γ w s a hp hlt hl h hk hr⟩
  | succ fuel ih =>
    intro U listed γ w s a hlen hp hlt hl hdown hs h hk
    refine ⟨hdone U listed γ w s a hp hlt hl h hk, fun i hi => ?_⟩
    rw [hready _ _ hl] at hi
    obtain ⟨hil, hiU, hpre⟩ := hi
    have ho : ops[i]? = some ops[i] := Array.getElem?_eq_getElem hil
    obtain ⟨A, B, rfl⟩ := List.append_of_mem hiU
    have hA : ∀ a ∈ A, a < i := fun a ha => (List.pairwise_append.1 hp).2.2 a ha i (by simp)
    have hB : ∀ b ∈ B, i < b := fun b hb => List.rel_of_pairwise_cons (List.pairwise_append.1 hp).2.1 hb
    have hup := anc_listed hdown ops.size i _ ho (hpre _ ho)
    have hf := front (T := T) (E := E) (ops := ops) (fr := fr) (κ := κ) (r := r) (i := ops[i]) (B := B.filterMap (ops[·]?)) (A.filterMap (ops[·]?)) s hs (by
      intro oa hoa
      obtain ⟨a, ha, hoa⟩ := List.mem_filterMap.1 hoa
      exact hcomm i a _ oa ho hoa (hA a ha) fun hmem => hup a hmem (by simp [ha])) (by
      rw [List.filterMap_append, List.filterMap_cons, ho] at hk
      exact hk)
    rw [← List.filterMap_append] at hf
    simp only [dopsK] at hf
    split at hf
    case isFalse => simp at hf
    unfold wpOp
    simp only [ho]
    have hmem : ∀ j, j ∈ A ++ B ↔ j ∈ A ++ i :: B ∧ j ≠ i := by
      intro j
      simp only [List.mem_append, List.mem_cons]
      constructor
      · rintro (h | h)
        · have := hA j h
          exact ⟨.inl h, by omega⟩
        · have := hB j h
          exact ⟨.inr (.inr h), by omega⟩
      · rintro ⟨h | h | h, hne⟩
        · exact .inl h
        · exact absurd h hne
        · exact .inr h
    obtain ⟨s1, hf1, hst, hfr⟩ := stepG (f0 := fr) (mv_not fr ops[i]) hf
    have hf' : opG T E ops.toList (mv fr ops[i]) s (fun s' => open Classical in if s' = s1 then some r else none) = some r := by
      rw [hst]
      simp
    have step := opG_sound hT hE (ops := ops) (o := mv fr ops[i]) (Q := Q) (next := wpAny P .any ops Q fuel (listed.setIfInBounds i true)) h hf' (fun γ' w' s' a' h' hk'' => by
      have hs1 : s' = s1 := by
        by_cases he : s' = s1
        · exact he
        · simp [he] at hk''
      subst hs1
      have hk' := hf1
      split at hk'
      · rename_i hcl
        refine ih (A ++ B) _ γ' w' s' a' (by simp at hlen ⊢; omega) ?_ ?_ ?_ ?_ ?_ h' hk'
        · exact hp.sublist (by simp)
        · exact fun j hj => hlt j ((hmem j).1 hj).1
        · intro j hj
          by_cases hji : i = j
          · subst hji
            have : i < listed.size := by
              have := hl i hj
              exact (Array.getElem?_eq_some_iff.1 this).1
            rw [Array.getElem?_setIfInBounds_self_of_lt this]
            congr 1
            simp only [hmem]
            simp
          · rw [Array.getElem?_setIfInBounds_ne hji, hl j hj]
            congr 1
            have := hmem j
            simp only [this, Ne.symm hji, ne_eq, not_false_eq_true, and_true]
        · intro j o ho' hj e he hb hin
          by_cases hji : j = i
          · subst hji
            exact hpre o ho' e he hb ((hmem _).1 hin).1
          · exact hdown j o ho' (fun h => hj ((hmem j).2 ⟨h, hji⟩)) e he hb ((hmem _).1 hin).1
        · exact hfr hs (by rw [mv_dst]; exact hcl)
      · simp at hk')
    have hw : Region.wanted (mv fr ops[i]) = Region.wanted ops[i] := by
      funext y
      simp only [Region.wanted, mv_guard]
    have hwp : ∀ K, (mv fr ops[i]).wp P a w K Q = ops[i].wp P a w K Q := fun K => by
      simp only [Oper.wp, mv_exec]
      unfold Oper.upon
      simp only [mv_dst]
    have hask : (mv fr ops[i]).asks P a w = ops[i].asks P a w := by
      simp only [Oper.asks, mv_exec]
    rw [hw, hwp, hask, mv_dst] at step
    exact step

theorem draw_sound {id : Nat} {fr : List Nat} {R : Type} {N : Mut} {X : Fm} {w0 w : World} {γ : Gam} {s : St} {a : Act} {Q : Exit → Act → World → Prop} {κ : St → Option R} {r : R}
    (hd : drawOk T.gf fr ops = true) (hn : ∀ γ' w' s' a', SR T N w0 X γ' w' s' a' → κ s' = some r → Q .normal a' w') (h : SR T N w0 X γ w s a) (hk : drawK T E fr ops s κ = some r) : (Code.region id ops true).wp P Q a w := by
  unfold drawK at hk
  split at hk
  · rename_i hf
    simp only [Bool.and_eq_true, List.all_eq_true, Bool.or_eq_true, decide_eq_true_eq] at hf
    replace hf := hf.2
    have hall : (List.range ops.size).filterMap (ops[·]?) = ops.toList := by
      apply List.ext_getElem?
      intro k
      have : (List.range ops.size).filterMap (ops[·]?) = (List.range ops.size).filterMap (fun i => ops.toList[i]?) := by simp
      rw [this]
      have h2 : ∀ (l : List Oper), (List.range l.length).filterMap (fun i => l[i]?) = l := by
        intro l
        induction l with
        | nil => rfl
        | cons x l ih =>
          rw [List.length_cons, List.range_succ_eq_map, List.filterMap_cons]
          simp only [List.getElem?_cons_zero, List.filterMap_map, Function.comp_def, List.getElem?_cons_succ]
          rw [ih]
      rw [← Array.length_toList, h2]
    refine wp_region_any hT.mixed (any_sound hT hE hd hn ops.size (List.range ops.size) _ γ _ s a (by simp) List.pairwise_lt_range (by simp) ?_ ?_ ?_ (h.world (Chg.drew w)) (by rw [hall]; exact hk))
    · intro j hj
      simp [hj]
    · intro j o ho hj
      have := (Array.getElem?_eq_some_iff.1 ho).1
      simp [this] at hj
    · exact ⟨fun d hd hl => (hf.1 d hd).resolve_left (by omega), hf.2⟩
  · simp at hk
end
end
end Go.Ab

namespace Go.Ab

/-! ### scopes: jumps back to labels -/
/-- From a label's place on, within a scope. -/
def ScopeGo (P : Program) (c rest : Code) (Q : Exit → Act → World → Prop) (a : Act) (w : World) : Prop :=
  ∀ b k cs, ∃ e a' w', Q e a' w' ∧ Arrives P (lone (b.at a (.code rest :: .inScope c :: k)) cs w) b k cs e a' w'
/-- What a piece of a scope owes. -/
def inScopeQ (P : Program) (c : Code) (Q : Exit → Act → World → Prop) : Exit → Act → World → Prop
  | .goto l, a, w => ∃ rest, findLabel c l = some rest ∧ ScopeGo P c rest Q a w
  | e, a, w => Q e a w
theorem scopeGo_of {P : Program} {c rest : Code} {Q : Exit → Act → World → Prop} {a : Act} {w : World} (h : rest.wp P (inScopeQ P c Q) a w) : ScopeGo P c rest Q a w := by
  intro b k cs
  obtain ⟨e, a₁, w₁, hq, harr⟩ := h b (.inScope c :: k) cs
  cases e with
  | normal => exact ⟨.normal, a₁, w₁, hq, Steps.trans harr (.one step_inScope)⟩
  | exit id => exact ⟨.exit id, a₁, w₁, hq, fun k' hk => harr k' (by simp [exitTo, hk])⟩
  | goto l =>
    obtain ⟨rest', hf, hgo⟩ := hq
    obtain ⟨e₂, a₂, w₂, hq₂, harr₂⟩ := hgo b k cs
    exact ⟨e₂, a₂, w₂, hq₂, .of_steps (harr _ (by simp [gotoIn, hf])) harr₂⟩
  | ret => exact ⟨_, a₁, w₁, hq, harr⟩
  | panic ch => exact ⟨_, a₁, w₁, hq, harr⟩
  | outgrown => exact ⟨_, a₁, w₁, hq, harr⟩
theorem scope_wp {P : Program} {c : Code} {Q : Exit → Act → World → Prop} {a : Act} {w : World} (h : c.wp P (inScopeQ P c Q) a w) : (Code.scope c).wp P Q a w := by
  intro b k cs
  obtain ⟨e, a₁, w₁, hq, harr⟩ := scopeGo_of h b k cs
  exact ⟨e, a₁, w₁, hq, .of_steps (.one step_scope) harr⟩
def JmpOk (P : Program) (T : Ctx) {R : Type} (N : Mut) (X : Fm) (w0 : World) (r : R) (jmp : Jmp R) (fr : Nat → List Nat) : Prop :=
  ∀ (c rest : Code) (l : Nat) (κ : Ex → St → Option R) (Q : Exit → Act → World → Prop) (γ : Gam) (w : World) (s : St) (a : Act), drawsOk T.gf fr c = true → findLabel c l = some rest →
    SR T N w0 X γ w s a → jmp c rest s κ = some r → (∀ e γ' w' s' a', SR T N w0 X γ' w' s' a' → κ e s' = some r → Q e.to a' w') → ScopeGo P c rest Q a w
theorem drawsOk_label {gf : FuncId → Bool} {fr : Nat → List Nat} : ∀ {c rest : Code} {l : Nat}, drawsOk gf fr c = true → findLabel c l = some rest → drawsOk gf fr rest = true
  | .seq x y, rest, l, hd, hf => by
    simp only [drawsOk, Bool.and_eq_true] at hd
    simp only [findLabel] at hf
    split at hf
    · rename_i r hr
      simp only [Option.some.injEq] at hf
      subst hf
      simp only [drawsOk, Bool.and_eq_true]
      exact ⟨drawsOk_label hd.1 hr, hd.2⟩
    · exact drawsOk_label hd.2 hf
  | .label l', rest, l, hd, hf => by
    simp only [findLabel] at hf
    split at hf
    · simp only [Option.some.injEq] at hf
      subst hf
      rfl
    · simp at hf
  | .skip, rest, l, hd, hf => by simp [findLabel] at hf
  | .region _ _ _, rest, l, hd, hf => by simp [findLabel] at hf
  | .cond _ _ _, rest, l, hd, hf => by simp [findLabel] at hf
  | .block _ _, rest, l, hd, hf => by simp [findLabel] at hf
  | .loop _, rest, l, hd, hf => by simp [findLabel] at hf
  | .scope _, rest, l, hd, hf => by simp [findLabel] at hf
  | .exit _, rest, l, hd, hf => by simp [findLabel] at hf
  | .ret, rest, l, hd, hf => by simp [findLabel] at hf
  | .rangeFunc .., rest, l, hd, hf => by simp [findLabel] at hf
  | .goto _, rest, l, hd, hf => by simp [findLabel] at hf
  | .refuse _, rest, l, hd, hf => by simp [findLabel] at hf

section
variable {P : Program} {T : Ctx} (hT : TOk P T) {E : Abs} (hE : ∀ f, Pure P T f (E f))
include hT hE

theorem code_soundG {fr : Nat → List Nat} {R : Type} {N : Mut} {X : Fm} {w0 : World} {r : R} (jmp : Jmp R) (hj : JmpOk P T N X w0 r jmp fr) (kp : Nat → List Nat) (n : Nat) : ∀ (c : Code) (κ : Ex → St → Option R) (Q : Exit → Act → World → Prop) (γ : Gam) (w : World) (s : St) (a : Act),
    drawsOk T.gf fr c = true → SR T N w0 X γ w s a → codeG T E jmp kp fr n c s κ = some r → (∀ e γ' w' s' a', SR T N w0 X γ' w' s' a' → κ e s' = some r → Q e.to a' w') → c.wp P Q a w
  | .skip, κ, Q, γ, w, s, a, hd, h, hk, hn => by
    simp only [codeG] at hk
    exact wp_skip (hn .normal γ w s a h hk)
  | .label l, κ, Q, γ, w, s, a, hd, h, hk, hn => by
    simp only [codeG] at hk
    exact wp_label (hn .normal γ w s a h hk)
  | .region id ops false, κ, Q, γ, w, s, a, hd, h, hk, hn => by
    simp only [codeG] at hk
    refine wp_region ?_
    have := opsK_sound hT hE (κ := κ .normal) (Q := Q) (fun γ' w' s' a' h' hk' => hn .normal γ' w' s' a' h' hk') ops.toList 0 γ w s a (by simp) h hk
    rw [List.range_eq_range']
    simpa using this
  | .region id ops true, κ, Q, γ, w, s, a, hd, h, hk, hn => by
    simp only [codeG] at hk
    simp only [drawsOk, Bool.or_eq_true] at hd
    rcases hd with hd | hd
    · have : drawK T E (fr id) ops s (κ .normal) = none := by unfold drawK; rw [hd]; rfl
      rw [this] at hk
      cases hk
    exact draw_sound hT hE hd (κ := κ .normal) (fun γ' w' s' a' h' hk' => hn .normal γ' w' s' a' h' hk') h hk
  | .seq x y, κ, Q, γ, w, s, a, hd, h, hk, hn => by
    simp only [codeG] at hk
    simp only [drawsOk, Bool.and_eq_true] at hd
    refine wp_seq (code_soundG jmp hj kp n x _ _ γ w s a hd.1 h hk fun e γ' w' s' a' h' hk' => ?_)
    cases e with
    | normal => exact code_soundG jmp hj kp n y _ _ γ' w' s' a' hd.2 h' hk' hn
    | exit i => exact hn (.exit i) γ' w' s' a' h' hk'
    | goto l => exact hn (.goto l) γ' w' s' a' h' hk'
    | ret => exact hn .ret γ' w' s' a' h' hk'
  | .cond c x y, κ, Q, γ, w, s, a, hd, h, hk, hn => by
    simp only [codeG] at hk
    simp only [drawsOk, Bool.and_eq_true] at hd
    split at hk
    · rename_i t hc
      have hcv := h.get c
      rw [hc] at hcv
      simp only [RV, Rd] at hcv
      cases t with
      | true => exact wp_cond_true hcv (code_soundG jmp hj kp n x _ _ γ w s a hd.1 h hk hn)
      | false => exact wp_cond_false hcv (code_soundG jmp hj kp n y _ _ γ w s a hd.2 h hk hn)
    · simp at hk
  | .block id c, κ, Q, γ, w, s, a, hd, h, hk, hn => by
    simp only [codeG] at hk
    refine wp_block (code_soundG jmp hj kp n c _ _ γ w s a (by simpa only [drawsOk] using hd) h hk fun e γ' w' s' a' h' hk' => ?_)
    cases e with
    | normal => exact hn .normal γ' w' s' a' h' hk'
    | exit i =>
      simp only [Ex.to, Exit.inBlock]
      simp only at hk'
      split at hk'
      · rename_i e
        rw [if_pos e]
        exact hn .normal γ' w' s' a' h' hk'
      · rename_i e
        rw [if_neg e]
        exact hn (.exit i) γ' w' s' a' h' hk'
    | goto l => exact hn (.goto l) γ' w' s' a' h' hk'
    | ret => exact hn .ret γ' w' s' a' h' hk'
  | .loop c, κ, Q, γ, w, s, a, hd, h, hk, hn => by
    simp only [codeG] at hk
    refine wp_loop_rounds n (iter_sound (c := c) (fun κ' Q' γ w s a h hk hn => ?_) hn n γ w s a h hk)
    obtain ⟨s', h', hk'⟩ := h.keep _ hk
    exact code_soundG jmp hj kp n c _ _ γ w s' a (by simpa only [drawsOk] using hd) h' hk' hn
  | .scope c, κ, Q, γ, w, s, a, hd, h, hk, hn => by
    simp only [codeG] at hk
    simp only [drawsOk] at hd
    refine scope_wp (code_soundG jmp hj kp n c _ _ γ w s a hd h hk fun e γ' w' s' a' h' hk' => ?_)
    cases e with
    | normal => exact hn .normal γ' w' s' a' h' hk'
    | exit i => exact hn (.exit i) γ' w' s' a' h' hk'
    | ret => exact hn .ret γ' w' s' a' h' hk'
    | goto l =>
      simp only at hk'
      split at hk'
      · rename_i rest hf
        obtain ⟨s2, h2, hk2⟩ := h'.keep _ hk'
        exact ⟨rest, hf, hj c rest l κ Q γ' w' s2 a' hd hf h2 hk2 hn⟩
      · simp at hk'
  | .exit i, κ, Q, γ, w, s, a, hd, h, hk, hn => by
    simp only [codeG] at hk
    exact wp_exit (hn (.exit i) γ w s a h hk)
  | .ret, κ, Q, γ, w, s, a, hd, h, hk, hn => by
    simp only [codeG] at hk
    exact wp_ret (hn .ret γ w s a h hk)
  | .rangeFunc .., κ, Q, γ, w, s, a, hd, h, hk, hn => by simp [codeG] at hk
  | .goto l, κ, Q, γ, w, s, a, hd, h, hk, hn => by
    simp only [codeG] at hk
    exact wp_goto (hn (.goto l) γ w s a h hk)
  | .refuse why, κ, Q, γ, w, s, a, hd, h, hk, hn => by simp [codeG] at hk

theorem runG_ok {R : Type} {N : Mut} {X : Fm} {w0 : World} {r : R} (kp fr : Nat → List Nat) (n : Nat) : ∀ m : Nat, JmpOk P T N X w0 r (runG T E kp fr n m) fr
  | 0 => fun c rest l κ Q γ w s a _ _ _ hk _ => by simp [runG] at hk
  | m + 1 => fun c rest l κ Q γ w s a hd hf h hk hn => by
    simp only [runG] at hk
    refine scopeGo_of (code_soundG hT hE _ (runG_ok kp fr n m) kp n rest _ _ γ w s a (drawsOk_label hd hf) h hk fun e γ' w' s' a' h' hk' => ?_)
    cases e with
    | normal => exact hn .normal γ' w' s' a' h' hk'
    | exit i => exact hn (.exit i) γ' w' s' a' h' hk'
    | ret => exact hn .ret γ' w' s' a' h' hk'
    | goto l' =>
      simp only at hk'
      split at hk'
      · rename_i rest' hf'
        obtain ⟨s2, h2, hk2⟩ := h'.keep _ hk'
        exact ⟨rest', hf', runG_ok kp fr n m c rest' l' κ Q γ' w' s2 a' hd hf' h2 hk2 hn⟩
      · simp at hk'
theorem code_sound {R : Type} {N : Mut} {X : Fm} {w0 : World} {r : R} (kp fr : Nat → List Nat) (n : Nat) (c : Code) (κ : Ex → St → Option R) (Q : Exit → Act → World → Prop) (γ : Gam) (w : World) (s : St) (a : Act)
    (hd : drawsOk T.gf fr c = true) (h : SR T N w0 X γ w s a) (hk : codeK T E kp fr n c s κ = some r) (hn : ∀ e γ' w' s' a', SR T N w0 X γ' w' s' a' → κ e s' = some r → Q e.to a' w') : c.wp P Q a w :=
  code_soundG hT hE _ (runG_ok hT hE kp fr n n) kp n c κ Q γ w s a hd h hk hn
end

section
variable {P : Program} {T : Ctx} (hT : TOk P T) {E : Abs} (hE : ∀ f, Pure P T f (E f))

theorem resD_ok {N : Mut} {X : Fm} {w0 w : World} {γ : Gam} {s : St} {a : Act} (h : SR T N w0 X γ w s a) {x : AV} {u : Value} {d : D} (hx : RV γ s.o (all γ N s.o) w x u) (hd : resD s x = some d) : Rd N w d u := by
  have hk : Keep (all γ N s.o) N w w := (Chg.refl (fun _ _ => False) w).keep (fun _ _ hf => hf.elim) fun b i _ hm => .inl hm
  unfold resD at hd
  split at hd
  · rename_i i off
    simp only [RV] at hx
    obtain ⟨b, hb, rfl⟩ := hx
    split at hd
    · rename_i cs hl
      split at hd
      · rename_i ds hds
        split at hd
        · rename_i hcell
          simp only [Option.some.injEq] at hd
          subst hd
          obtain ⟨b', arr, ty, hb', hh, hvs⟩ := h.inv.obs _ (lookup_mem hl)
          have hbb : b' = b := by
            have : some b' = some b := by rw [← hb', hb]
            injection this
          subst hbb
          have hrd := datas_ok h.inv _ _ _ (RVL_drop off hvs) hds
          simp only [Rd]
          refine ⟨_, rfl, ?_⟩
          have h1 := RdC_of N w hh (fun j => h.inv.sep _ (lookup_mem hl) b' hb j) ds (arr.toList.drop off) off (RdL.keep hk _ _ hrd) (by simpa using hcell) fun i u hi => by simpa [List.getElem?_drop] using hi
          have h2 := (RdC_shift N w ds ⟨b', 0, none⟩ off 0).2 (by simpa using h1)
          simpa [add_plain] using h2
        · simp at hd
      · simp at hd
    · simp at hd
  · rename_i k
    split at hd
    · rename_i g n es hl
      split at hd
      · rename_i xs hxs
        simp only [Option.some.injEq] at hd
        subst hd
        simp only [RV] at hx
        obtain ⟨ob, l, hl', hs, rfl⟩ := hx
        rw [hl] at hl'
        injection hl' with hl'
        subst hl'
        simp only [Ob.sl, Option.some.injEq] at hs
        subst hs
        obtain ⟨h1, h2⟩ := datasE_ok s.o g n es xs hxs (arr_n h hl)
        have hro := h.inv.obs _ (lookup_mem hl)
        simp only [RO] at hro
        cases hb : (γ k).b with
        | none =>
          rw [hb] at hro
          obtain ⟨rfl, hval⟩ := hro
          simp only [slVal, tokVal, hb, hval, Rd]
          exact ⟨none, _, _, rfl, h2.2, by simp, fun _ => rfl, fun p hp => by simp at hp⟩
        | some b =>
          rw [hb] at hro
          obtain ⟨arr, ty, hh, hcap, hsz, hn, us, rest, e3, hv⟩ := hro
          have hrd := RdL.keep hk _ _ (datas_ok h.inv _ _ _ hv h1)
          simp only [slVal, tokVal, hb, hcap.2, Rd]
          refine ⟨_, _, _, rfl, h2.2, hcap.1, fun hn => by simp at hn, fun p hp => ?_⟩
          simp only [Option.some.injEq] at hp
          subst hp
          refine (RdE_flat ..).2 ⟨h2.1.1, RdC_of N w hh (fun j => h.inv.sep _ (lookup_mem hl) b hb j) _ us 0 hrd h2.1.2 fun i u hi => ?_⟩
          have hil := (List.getElem?_eq_some_iff.1 hi).1
          have : arr.toList[i]? = some u := by rw [e3, List.getElem?_append_left hil, hi]
          simpa using this
      · simp at hd
    · exact Rd.keep hk _ _ (data_ok h.inv _ _ _ hx hd)
  · exact Rd.keep hk _ _ (data_ok h.inv _ _ _ hx hd)

def resOne (tmps : Array Value) : ResultVar → Sem Value
  | .tmp t => pure (tmps.getD t undef)
  | .cell b t => do loadVar t (← asAddr (tmps.getD b undef))
theorem results_eq (fn : Func) (tmps : Array Value) : results fn tmps = (fn.results.mapM (resOne tmps)) >>= fun vs => pure (if h : vs.size = 1 then vs[0] else .tuple vs) := by
  unfold results
  congr 1

include hT in
theorem resK_ok {N : Mut} {X : Fm} {w0 w : World} {γ : Gam} {s : St} {a : Act} (h : SR T N w0 X γ w s a) : ∀ (vs : List ResultVar) (ds : List D), resK T s vs = some ds → ∃ us : List Value, RdL N w ds us ∧
    (vs.mapM (resOne a.tmps)).run P w = .ok us w
  | [], ds, hk => by
    simp only [resK, Option.some.injEq] at hk
    subst hk
    exact ⟨[], by simp [RdL], by simp⟩
  | .tmp t :: r, ds, hk => by
    simp only [resK] at hk
    split at hk
    · rename_i x xs hx hxs
      simp only [Option.some.injEq] at hk
      subst hk
      obtain ⟨us, h1, h2⟩ := resK_ok h r xs hxs
      have hg := h.get (.tmp t)
      simp only [St.get, Act.eval] at hg
      refine ⟨a.tmps.getD t undef :: us, ?_, ?_⟩
      · simp only [RdL]
        exact ⟨_, _, rfl, resD_ok h hg hx, h1⟩
      · rw [List.mapM_cons]
        simp only [Sem.run_bind, resOne, Sem.run_pure, Result.andThen_ok, h2]
    · simp at hk
  | .cell b t :: r, ds, hk => by
    simp only [resK] at hk
    split at hk
    · rename_i i off hb
      split at hk
      · rename_i cs hl
        split at hk
        · rename_i hfit
          split at hk
          · rename_i x xs hx hxs
            simp only [Option.some.injEq] at hk
            subst hk
            obtain ⟨us, h1, h2⟩ := resK_ok h r xs hxs
            have hg := h.get (.tmp b)
            simp only [St.get, Act.eval] at hg
            rw [hb] at hg
            simp only [RV] at hg
            obtain ⟨bl, hbl, he⟩ := hg
            obtain ⟨b', arr, ty, hb', hh, hvs⟩ := h.inv.obs _ (lookup_mem hl)
            have hbb : b' = bl := by
              have : some b' = some bl := by rw [← hb', hbl]
              injection this
            subst hbb
            have hlen : arr.toList.length = cs.length := RVL_length hvs
            have hsub := RVL_take (T.sz t) (RVL_drop off hvs)
            have hto := td_ok hfit.2.2
            have hrun := run_loadVar hT w hto hfit.2.1 ⟨b', off, none⟩ ((arr.toList.drop off).take (T.sz t)) (by simp at hlen ⊢; omega) fun j u hu => by
              rw [add_plain]
              simp only [World.cell?, hh]
              rw [List.getElem?_take] at hu
              split at hu
              · simpa [List.getElem?_drop] using hu
              · simp at hu
            refine ⟨(if (T.td t).agg = true then .agg ((arr.toList.drop off).take (T.sz t)).toArray else ((arr.toList.drop off).take (T.sz t)).headD undef) :: us, ?_, ?_⟩
            · simp only [RdL]
              exact ⟨_, _, rfl, resD_ok h (valA_ok hfit.2.1 hsub (by simp; omega)) hx, h1⟩
            · rw [List.mapM_cons]
              simp only [Sem.run_bind, resOne, he, asAddr, Sem.run_pure, Result.andThen_ok, hrun, h2]
          · simp at hk
        · simp at hk
      · simp at hk
    · simp at hk

include hT hE

/-- THE EVALUATOR IS SOUND: what it gives for data is what the function gives. -/
theorem fn_sound {f : FuncId} {fn : Func} (kp fr : Nat → List Nat) (n : Nat) (hf : P.funcs[f]? = some fn) (hname : (fn.name == "runtime.NumGoroutine") = false) (hdr : ∀ c, fn.body = some c → drawsOk T.gf fr c = true) : Pure P T f (fnK T E kp fr n fn) := by
  intro ds rs hk
  unfold fnK at hk
  split at hk
  · rename_i c hc
    refine ⟨⟨fn, hf, hname, by rw [hc]; rfl⟩, fun N w vs hN hG hv => ?_⟩
    refine calls_of_wp hf hc ?_
    have hall : ∀ (γ : Gam) b i, all γ N [] b i ↔ N b i := by
      intro γ b i
      constructor
      · rintro (hm | ⟨p, hp, _⟩)
        · exact hm
        · simp at hp
      · exact .inl
    have hk0 : Keep N (all (fun _ => ⟨none, 0, .slice none 0 0, 0⟩) N []) w w := ⟨fun _ _ _ h _ => h, fun b i _ hm hm' => hm ((hall _ b i).1 hm'), fun _ _ _ => rfl⟩
    have hinit : SR T N w ⟨fun _ _ => False, fun _ _ _ => False⟩ (fun _ => ⟨none, 0, .slice none 0 0, 0⟩) w { t := ds.map .d ++ List.replicate (fn.ntmps - ds.length) (.d (.v undef)), o := [] } { tmps := vs.toArray ++ Array.replicate (fn.ntmps - vs.toArray.size) undef, defers := [] } := by
      refine ⟨⟨by simp, by simp, by simp, hN, by simp⟩, ?_, rfl, Chg.refl _ w, ?_, fun _ _ _ hz => hz.elim, fun g cs hg => RdC.keep hk0 _ _ _ (hG g cs hg)⟩
      · have hlen := RdL_length hv
        have h1 : ∀ (xs ys : List AV) (us us' : List Value), RVL (fun _ => ⟨none, 0, .slice none 0 0, 0⟩) [] (all (fun _ => ⟨none, 0, .slice none 0 0, 0⟩) N []) w xs us → RVL (fun _ => ⟨none, 0, .slice none 0 0, 0⟩) [] (all (fun _ => ⟨none, 0, .slice none 0 0, 0⟩) N []) w ys us' → RVL (fun _ => ⟨none, 0, .slice none 0 0, 0⟩) [] (all (fun _ => ⟨none, 0, .slice none 0 0, 0⟩) N []) w (xs ++ ys) (us ++ us') := by
          intro xs
          induction xs with
          | nil =>
            intro ys us us' h1 h2
            simp only [RVL] at h1
            subst h1
            simpa using h2
          | cons x xs ih =>
            intro ys us us' h1 h2
            simp only [RVL] at h1
            obtain ⟨u, us0, rfl, h3, h4⟩ := h1
            simp only [List.cons_append, RVL]
            exact ⟨_, _, rfl, h3, ih ys us0 us' h4 h2⟩
        have h2 : ∀ k, RVL (fun _ => ⟨none, 0, .slice none 0 0, 0⟩) [] (all (fun _ => ⟨none, 0, .slice none 0 0, 0⟩) N []) w (List.replicate k (.d (.v undef))) (List.replicate k undef) := by
          intro k
          induction k with
          | zero => simp [RVL]
          | succ k ih =>
            simp only [List.replicate_succ, RVL]
            exact ⟨_, _, rfl, by simp only [RV, Rd], ih⟩
        have h3 := h1 _ _ _ _ (RVL_data.2 (RdL.keep hk0 _ _ hv)) (h2 (fn.ntmps - ds.length))
        have e : (vs.toArray ++ Array.replicate (fn.ntmps - vs.toArray.size) undef).toList = vs ++ List.replicate (fn.ntmps - ds.length) undef := by
          simp [hlen]
        rw [e]
        exact h3
      · rintro b i ⟨p, hp, _⟩
        simp at hp
    refine code_sound hT hE kp fr n c _ _ _ w _ _ (hdr c hc) hinit hk fun e γ' w' s' a' h' hk' => ?_
    have fin : resK T s' fn.results.toList = some rs → a'.defers = [] ∧ ∃ v, (results fn a'.tmps).run P w' = .ok v w' ∧ ∃ us, RdL N w' rs us ∧ Ending.returned v = .returned (pack us) ∧ Chg (fun _ _ => False) w w' := by
      intro hres
      obtain ⟨us, h1, h2⟩ := resK_ok (P := P) hT h' _ _ hres
      refine ⟨h'.defers, pack us, ?_, us, h1, rfl, h'.chg⟩
      rw [results_eq, Array.mapM_eq_mapM_toList]
      simp only [Sem.run_bind, Sem.run_map, h2, Result.andThen_ok, Sem.run_pure]
      congr 1
      match us with
      | [] => rfl
      | [u] => rfl
      | u :: v :: us => simp [pack]
    cases e with
    | normal => exact fin hk'
    | exit i => simp at hk'
    | goto l => simp at hk'
    | ret => exact fin hk'
  · simp at hk

omit hT hE in
theorem outK_len {s : St} : ∀ (vs : List ResultVar) {xs : List AV}, outK T s vs = some xs → xs.length = vs.length
  | [], xs, h => by
    simp only [outK, Option.some.injEq] at h
    subst h
    rfl
  | .tmp t :: r, xs, h => by
    simp only [outK] at h
    split at h
    · rename_i ys hy
      cases h
      simp [outK_len r hy]
    · cases h
  | .cell b t :: r, xs, h => by
    simp only [outK] at h
    split at h
    · split at h
      · split at h
        · split at h
          · rename_i ys hy
            cases h
            simp [outK_len r hy]
          · cases h
        · cases h
      · cases h
    · cases h
omit hE in
theorem outK_ok {N : Mut} {X : Fm} {w0 w : World} {γ : Gam} {s : St} {a : Act} (h : SR T N w0 X γ w s a) : ∀ (vs : List ResultVar) (xs : List AV), outK T s vs = some xs → ∃ us : List Value, RVL γ s.o (all γ N s.o) w xs us ∧
    (vs.mapM (resOne a.tmps)).run P w = .ok us w
  | [], xs, hk => by
    simp only [outK, Option.some.injEq] at hk
    subst hk
    exact ⟨[], by simp [RVL], by simp⟩
  | .tmp t :: r, xs, hk => by
    simp only [outK] at hk
    split at hk
    · rename_i ys hy
      cases hk
      obtain ⟨us, h1, h2⟩ := outK_ok h r ys hy
      have hg := h.get (.tmp t)
      simp only [St.get, Act.eval] at hg
      refine ⟨a.tmps.getD t undef :: us, ?_, ?_⟩
      · simp only [RVL]
        exact ⟨_, _, rfl, hg, h1⟩
      · rw [List.mapM_cons]
        simp only [Sem.run_bind, resOne, Sem.run_pure, Result.andThen_ok, h2]
    · cases hk
  | .cell b t :: r, xs, hk => by
    simp only [outK] at hk
    split at hk
    · rename_i i off hb
      split at hk
      · rename_i cs hl
        split at hk
        · rename_i hfit
          split at hk
          · rename_i ys hy
            cases hk
            obtain ⟨us, h1, h2⟩ := outK_ok h r ys hy
            have hg := h.get (.tmp b)
            simp only [St.get, Act.eval] at hg
            rw [hb] at hg
            simp only [RV] at hg
            obtain ⟨bl, hbl, he⟩ := hg
            obtain ⟨b', arr, ty, hb', hh, hvs⟩ := h.inv.obs _ (lookup_mem hl)
            have hbb : b' = bl := by
              have : some b' = some bl := by rw [← hb', hbl]
              injection this
            subst hbb
            have hlen : arr.toList.length = cs.length := RVL_length hvs
            have hsub := RVL_take (T.sz t) (RVL_drop off hvs)
            have hto := td_ok hfit.2.2
            have hrun := run_loadVar hT w hto hfit.2.1 ⟨b', off, none⟩ ((arr.toList.drop off).take (T.sz t)) (by simp at hlen ⊢; omega) fun j u hu => by
              rw [add_plain]
              simp only [World.cell?, hh]
              rw [List.getElem?_take] at hu
              split at hu
              · simpa [List.getElem?_drop] using hu
              · simp at hu
            refine ⟨(if (T.td t).agg = true then .agg ((arr.toList.drop off).take (T.sz t)).toArray else ((arr.toList.drop off).take (T.sz t)).headD undef) :: us, ?_, ?_⟩
            · simp only [RVL]
              exact ⟨_, _, rfl, valA_ok hfit.2.1 hsub (by simp; omega), h1⟩
            · rw [List.mapM_cons]
              simp only [Sem.run_bind, resOne, he, asAddr, Sem.run_pure, Result.andThen_ok, hrun, h2]
          · cases hk
        · cases hk
      · cases hk
    · cases hk

/-- THE EVALUATOR IS SOUND, for a function that turns what it is handed. -/
theorem gn_sound {f : FuncId} {fn : Func} (kp fr : Nat → List Nat) (n : Nat) (hf : P.funcs[f]? = some fn) (hname : (fn.name == "runtime.NumGoroutine") = false) (hdr : ∀ c, fn.body = some c → drawsOk T.gf fr c = true) : Turns P T f (gnK T E kp fr n fn) := by
  intro as o rs o' hk
  unfold gnK at hk
  split at hk
  · rename_i c hc
    refine ⟨⟨fn, hf, hname, by rw [hc]; rfl⟩, fun γ N w vs hz hinv hv hG => ?_⟩
    refine calls_of_wp hf hc ?_
    have hinit : SR T N w ⟨own γ o, fun id b q => (γ id).b = some b ∧ ∃ ob, lookup id o = some ob ∧ ob.kd = q ∧ q ≠ 0⟩ γ w { t := as ++ List.replicate (fn.ntmps - as.length) (.d (.v undef)), o := o } { tmps := vs.toArray ++ Array.replicate (fn.ntmps - vs.toArray.size) undef, defers := [] } := by
      refine ⟨hinv, ?_, rfl, Chg.refl _ w, fun b i hm => .inl hm, fun id b q h => ⟨hz _ (lookup_mem h.2.choose_spec.1), h⟩, hG⟩
      have hlen := RVL_length hv
      have h2 : ∀ k, RVL γ o (all γ N o) w (List.replicate k (.d (.v undef))) (List.replicate k undef) := by
        intro k
        induction k with
        | zero => simp [RVL]
        | succ k ih =>
          simp only [List.replicate_succ, RVL]
          exact ⟨_, _, rfl, by simp only [RV, Rd], ih⟩
      have h3 := RVL_append hv (h2 (fn.ntmps - as.length))
      have e : (vs.toArray ++ Array.replicate (fn.ntmps - vs.toArray.size) undef).toList = vs ++ List.replicate (fn.ntmps - as.length) undef := by
        simp [hlen]
      rw [e]
      exact h3
    refine code_sound hT hE kp fr n c _ _ _ w _ _ (hdr c hc) hinit hk fun e γ' w' s' a' h' hk' => ?_
    have fin : (match outK T s' fn.results.toList with
      | some rs => leave rs s'.o (reachN s'.o 4 (idsL rs ++ zeroIds s'.o))
      | none => none) = some (rs, o') → a'.defers = [] ∧ ∃ v, (results fn a'.tmps).run P w' = .ok v w' ∧ ∃ γ' us, Inv γ' N o' w' ∧ RVL γ' o' (all γ' N o') w' rs us ∧ Ending.returned v = .returned (pack us) ∧ Chg (own γ o) w w' ∧ (∀ b i, own γ' o' b i → own γ o b i ∨ w.heap.size ≤ b) ∧
      ∀ id ob, lookup id o = some ob → ob.kd ≠ 0 → (γ' id).b = (γ id).b ∧ ∃ ob', lookup id o' = some ob' ∧ ob'.kd = ob.kd := by
      intro hres
      split at hres
      · rename_i rs' hrs'
        unfold leave at hres
        split at hres
        · rename_i hcl
          injection hres with hres
          injection hres with e1 e2
          subst e1 e2
          obtain ⟨us, h1, h2⟩ := outK_ok (P := P) hT h' _ _ hrs'
          generalize hids : reachN s'.o 4 (idsL rs' ++ zeroIds s'.o) = ids at hcl
          have hsub : ∀ k ∈ idsL rs', k ∈ ids := fun k hk => by
            rw [← hids]
            simp [reachN, hk]
          have hown : ∀ b i, own γ' (pickO ids s'.o) b i → own γ' s'.o b i := fun b i ⟨p, hp, hb, hm⟩ => ⟨p, mem_pickO hp, hb, hm⟩
          have hkk : Keep (all γ' N s'.o) (all γ' N (pickO ids s'.o)) w' w' := Keep.less fun b i hm => hm.imp id (hown b i)
          have hd : ∀ x u, Rd (all γ' N s'.o) w' x u → Rd (all γ' N (pickO ids s'.o)) w' x u := fun x u => Rd.keep hkk x u
          refine ⟨h'.defers, pack us, ?_, γ', us, ?_, RVL.pick hd _ _ (fun k hk => lookup_pickO ids k (.inr (by simpa using hsub k hk)) _) h1, rfl, h'.chg, fun b i hm => h'.fresh b i (hown b i hm), fun id ob hl hkd => ?_⟩
          · rw [results_eq, Array.mapM_eq_mapM_toList]
            simp only [Sem.run_bind, Sem.run_map, h2, Result.andThen_ok, Sem.run_pure]
            congr 1
            match us with
            | [] => rfl
            | [u] => rfl
            | u :: v :: us => simp [pack]
          · refine ⟨pickO_nodup h'.inv.keys, fun p hp q hq b => h'.inv.apart p (mem_pickO hp) q (mem_pickO hq) b, fun p hp => h'.inv.sep p (mem_pickO hp), h'.inv.old, fun p hp => ?_⟩
            have hro := h'.inv.obs p (mem_pickO hp)
            obtain ⟨j, ob⟩ := p
            cases ob with
            | box cs =>
              obtain ⟨b, arr, ty, e, hh, hv⟩ := hro
              exact ⟨b, arr, ty, e, hh, RVL.pick hd _ _ (fun k hk => lookup_pickO ids k (closedO_ok hcl hp k hk) _) hv⟩
            | tok n xs =>
              simp only [RO] at hro ⊢
              cases hg : (γ' j).b with
              | none => rw [hg] at hro; exact ⟨hd _ _ hro.1, hro.2⟩
              | some b =>
                rw [hg] at hro
                obtain ⟨arr, ty, hb, h1, h2, h3⟩ := hro
                exact ⟨arr, ty, hb, h1, h2, RdE.keep hkk _ _ _ _ h3⟩
            | arr g n es =>
              simp only [RO] at hro ⊢
              cases hg : (γ' j).b with
              | none => rw [hg] at hro; exact hro
              | some b =>
                rw [hg] at hro
                obtain ⟨arr, ty, hb, h1, h2, h3, us, rest, e, h4⟩ := hro
                exact ⟨arr, ty, hb, h1, h2, h3, us, rest, e, RVL.pick hd _ _ (fun k hk => lookup_pickO ids k (closedO_okA hcl hp k hk) _) h4⟩
            | map es =>
              obtain ⟨b, ents, clock, e, hh, h1, h2, h3⟩ := hro
              exact ⟨b, ents, clock, e, hh, h1, h2, RVL.pick hd _ _ (fun k hk => lookup_pickO ids k (closedO_okM hcl hp k hk) _) h3⟩
          · obtain ⟨b, hb'⟩ : ∃ b, (γ id).b = some b := by
              have hro := hinv.obs _ (lookup_mem hl)
              cases ob with
              | box cs =>
                obtain ⟨b, arr, ty, hb, _⟩ := hro
                exact ⟨b, hb⟩
              | map es =>
                obtain ⟨b, ents, clock, hb, _⟩ := hro
                exact ⟨b, hb⟩
              | tok n xs => exact absurd rfl hkd
              | arr g n es => exact absurd rfl hkd
            obtain ⟨h3, h4, ob', h5, h6, _⟩ := h'.pin id b ob.kd ⟨hb', ob, hl, rfl, hkd⟩
            exact ⟨h4.trans hb'.symm, ob', by rw [lookup_pickO ids id (.inl h3), h5], h6⟩
        · cases hres
      · cases hres
    cases e with
    | normal => exact fin hk'
    | exit i => simp at hk'
    | goto l => simp at hk'
    | ret => exact fin hk'
  · simp at hk

end
end Go.Ab

namespace Go.Ab

/-- Types that are told out of a list. -/
structure TI where
  td : TD
  sz : Nat
  zero : List D
  eq : List EK := []
  cmp : Bool := false
  has : List (TypeId × Bool) := []
  meth : List (String × FuncId) := []

def mkCtx (tab : List TI) (glob : Nat → Option (List D)) : Ctx where
  gf _ := false
  small _ := false
  wr _ := false
  mf _ _ _ := none
  td t := (tab.getD t { td := .other, sz := 0, zero := [] }).td
  sz t := (tab.getD t { td := .other, sz := 0, zero := [] }).sz
  zero t := (tab.getD t { td := .other, sz := 0, zero := [] }).zero
  glob := glob
  eqt t := (tab.getD t { td := .other, sz := 0, zero := [] }).eq
  cmp t := (tab.getD t { td := .other, sz := 0, zero := [] }).cmp
  has t i := ((tab.getD t { td := .other, sz := 0, zero := [] }).has.find? (·.1 == i)).map (·.2)
  meth t n := ((tab.getD t { td := .other, sz := 0, zero := [] }).meth.find? (·.1 == n)).map (·.2)

def fieldsB (tab : List TI) : List (TypeId × Nat) → List Field → Bool
  | [], [] => true
  | (t, o) :: fs, f :: gs => t == f.type && o == f.offset && (tab.getD t { td := .other, sz := 0, zero := [] }).td.ok && (tab.getD t { td := .other, sz := 0, zero := [] }).sz != 0 && fieldsB tab fs gs
  | _, _ => false
def tdB (tab : List TI) : TD → Option TypeDesc → Bool
  | .int k, some (.int k') => k == k'
  | .bool, some .bool => true
  | .str, some .string => true
  | .slice e, some (.slice e') => e == e' && (tab.getD e { td := .other, sz := 0, zero := [] }).td.ok
  | .strct fs, some (.struct a) => fieldsB tab fs a.toList
  | .ptr e, some (.pointer e') => e == e'
  | .iface em, some (.interface ms) => ms.isEmpty == em
  | .func, some (.func _ _ _) => true
  | .map k e, some (.map k' e') => k == k' && e == e'
  | .arr n e, some (.array n' e') => n == n' && e == e' && (tab.getD e { td := .other, sz := 0, zero := [] }).td.ok
  | .other, _ => true
  | _, _ => false
def cellB : D → Value → Bool
  | .v (.int k n), .int k' n' => k == k' && n == n'
  | .v (.bool b), .bool b' => b == b'
  | .v (.pointer none), .pointer none => true
  | .v .nilFunc, .nilFunc => true
  | .v .nilIface, .nilIface => true
  | .v (.map none), .map none => true
  | .s [], .string b => b.data.isEmpty
  | .sl _ [], .slice none 0 0 => true
  | _, _ => false
def cellsB : List D → List Value → Bool
  | [], [] => true
  | d :: ds, v :: vs => cellB d v && cellsB ds vs
  | _, _ => false
def infoB (x : TI) : Option TypeInfo → Bool
  | some i => i.size == x.sz && Nat.ble i.bytes 4096 && (match i.zero with
    | some z => cellsB x.zero z.cells.toList && x.zero.length == x.sz && (match x.td.agg, z with | true, .agg _ => true | true, _ => false | false, .agg _ => false | false, _ => true)
    | none => false)
  | none => false
def tabB (P : Program) (tab : List TI) : Nat → List TI → Bool
  | _, [] => true
  | t, x :: r => (match x.td with | .other => true | d => tdB tab d (P.underlying t) && infoB x (P.info? t)) && tabB P tab (t + 1) r

theorem fieldsB_ok {tab : List TI} {glob : Nat → Option (List D)} : ∀ {fs : List (TypeId × Nat)} {gs : List Field}, fieldsB tab fs gs = true → gs.map (fun f => (f.type, f.offset)) = fs ∧ ∀ f ∈ fs, (mkCtx tab glob).td f.1 ≠ .other ∧ (mkCtx tab glob).sz f.1 ≠ 0
  | [], [], _ => by simp
  | [], _ :: _, h => by simp [fieldsB] at h
  | (t, o) :: fs, [], h => by simp [fieldsB] at h
  | (t, o) :: fs, f :: gs, h => by
    simp only [fieldsB, Bool.and_eq_true, beq_iff_eq, bne_iff_ne] at h
    obtain ⟨⟨⟨⟨h1, h2⟩, h3⟩, h4⟩, h5⟩ := h
    obtain ⟨h6, h7⟩ := fieldsB_ok (glob := glob) h5
    refine ⟨by simp [h1, h2, h6], fun g hg => ?_⟩
    rcases List.mem_cons.1 hg with rfl | hg
    · exact ⟨td_ok h3, h4⟩
    · exact h7 g hg

theorem tdB_ok {P : Program} {tab : List TI} {glob : Nat → Option (List D)} {t : TypeId} (h : tdB tab ((mkCtx tab glob).td t) (P.underlying t) = true) : tdOk P (mkCtx tab glob) t := by
  unfold tdOk
  revert h
  generalize (mkCtx tab glob).td t = d
  generalize P.underlying t = u
  intro h
  cases d with
  | int k =>
    cases u with
    | none => simp [tdB] at h
    | some u => cases u <;> simp [tdB] at h; subst h; rfl
  | bool =>
    cases u with
    | none => simp [tdB] at h
    | some u => cases u <;> simp [tdB] at h; rfl
  | str =>
    cases u with
    | none => simp [tdB] at h
    | some u => cases u <;> simp [tdB] at h; rfl
  | slice e =>
    cases u with
    | none => simp [tdB] at h
    | some u =>
      cases u <;> simp only [tdB, Bool.and_eq_true, beq_iff_eq, Bool.false_eq_true] at h
      exact ⟨by rw [h.1], td_ok h.2⟩
  | strct fs =>
    cases u with
    | none => simp [tdB] at h
    | some u =>
      cases u <;> simp only [tdB, Bool.false_eq_true] at h
      exact ⟨_, rfl, fieldsB_ok h⟩
  | ptr e =>
    cases u with
    | none => simp [tdB] at h
    | some u => cases u <;> simp [tdB] at h; subst h; rfl
  | iface em =>
    cases u with
    | none => simp [tdB] at h
    | some u =>
      cases u <;> simp only [tdB, beq_iff_eq, Bool.false_eq_true] at h
      exact ⟨_, rfl, h⟩
  | func =>
    cases u with
    | none => simp [tdB] at h
    | some u => cases u <;> simp [tdB] at h; exact ⟨_, _, _, rfl⟩
  | map k e =>
    cases u with
    | none => simp [tdB] at h
    | some u => cases u <;> simp [tdB] at h; simp [h]
  | arr n e =>
    cases u with
    | none => simp [tdB] at h
    | some u =>
      cases u <;> simp only [tdB, Bool.and_eq_true, beq_iff_eq, Bool.false_eq_true] at h
      exact ⟨by rw [h.1.1, h.1.2], td_ok h.2⟩
  | other => trivial

theorem cellB_ok {d : D} {v : Value} (h : cellB d v = true) : ∀ {ds : List D} {vs : List Value}, zeroL ds vs → zeroL (d :: ds) (v :: vs) := by
  intro ds vs hz
  unfold cellB at h
  split at h <;> first
    | (simp at h; done)
    | (simp only [zeroL]
       simp only [Bool.and_eq_true, beq_iff_eq] at h
       try obtain ⟨h1, h2⟩ := h
       subst_vars
       exact ⟨_, rfl, rfl, hz⟩)
    | (simp only [zeroL]
       exact ⟨_, rfl, rfl, hz⟩)
    | skip
  · simp only [zeroL]
    rename_i b
    have : b = ⟨#[]⟩ := by
      obtain ⟨a⟩ := b
      simpa using h
    subst this
    exact ⟨_, rfl, hz⟩
  · simp only [zeroL]
    exact ⟨_, rfl, hz⟩
theorem cellsB_ok : ∀ {ds : List D} {vs : List Value}, cellsB ds vs = true → zeroL ds vs
  | [], [], _ => by simp [zeroL]
  | [], _ :: _, h => by simp [cellsB] at h
  | _ :: _, [], h => by simp [cellsB] at h
  | d :: ds, v :: vs, h => by
    simp only [cellsB, Bool.and_eq_true] at h
    exact cellB_ok h.1 (cellsB_ok h.2)

theorem infoB_ok {x : TI} {o : Option TypeInfo} (h : infoB x o = true) : ∃ i z, o = some i ∧ i.size = x.sz ∧ i.bytes ≤ 4096 ∧ i.zero = some z ∧ zeroL x.zero z.cells.toList ∧ x.zero.length = x.sz ∧ (x.td.agg = true → ∃ us, z = .agg us) ∧ (x.td.agg = false → z.cells = #[z]) := by
  cases o with
  | none => simp [infoB] at h
  | some i =>
    simp only [infoB, Bool.and_eq_true, beq_iff_eq, Nat.ble_eq] at h
    obtain ⟨⟨h1, h2⟩, h3⟩ := h
    split at h3
    · rename_i z hz
      simp only [Bool.and_eq_true, beq_iff_eq] at h3
      obtain ⟨⟨h4, h5⟩, h6⟩ := h3
      refine ⟨i, z, rfl, h1, h2, hz, cellsB_ok h4, h5, fun ha => ?_, fun ha => ?_⟩
      · rw [ha] at h6
        cases z <;> simp at h6
        exact ⟨_, rfl⟩
      · rw [ha] at h6
        cases z <;> first | rfl | (simp at h6)
    · simp at h3

theorem tabB_ok {P : Program} {tab : List TI} : ∀ (k : Nat) (r : List TI), tabB P tab k r = true → ∀ j x, r[j]? = some x → x.td ≠ .other → tdB tab x.td (P.underlying (k + j)) = true ∧ infoB x (P.info? (k + j)) = true
  | k, [], _, j, x, hx, _ => by simp at hx
  | k, y :: r, h, 0, x, hx, ho => by
    simp at hx
    subst hx
    simp only [tabB, Bool.and_eq_true] at h
    simpa using h.1
  | k, y :: r, h, j + 1, x, hx, ho => by
    simp only [tabB, Bool.and_eq_true] at h
    have := tabB_ok (k + 1) r h.2 j x (by simpa using hx) ho
    rwa [show k + 1 + j = k + (j + 1) from by omega] at this

/-- The table fits the program. -/
def eqsB (P : Program) : Nat → List TI → Bool
  | _, [] => true
  | t, x :: r => (x.eq.isEmpty || eqB P t x.eq) && eqsB P (t + 1) r
theorem eqsB_ok {P : Program} : ∀ (i : Nat) (tab : List TI), eqsB P i tab = true → ∀ (t : Nat) (x : TI), tab[t]? = some x → x.eq ≠ [] → eqB P (i + t) x.eq = true
  | i, [], _, t, x, hx, _ => by simp at hx
  | i, y :: r, h, t, x, hx, hne => by
    simp only [eqsB, Bool.and_eq_true, Bool.or_eq_true, List.isEmpty_iff] at h
    cases t with
    | zero =>
      simp at hx
      subst hx
      exact h.1.resolve_left hne
    | succ t =>
      have := eqsB_ok (i + 1) r h.2 t x (by simpa using hx) hne
      rw [Nat.add_assoc, Nat.add_comm 1 t] at this
      exact this
def cmpB (P : Program) (t : TypeId) : Bool := match P.underlying t with
  | some (.pointer e) => (P.info? t).any (·.comparable) && (P.info? e).any fun j => j.size != 0
  | _ => false
def hasB (P : Program) (t : TypeId) (x : TypeId × Bool) : Bool := match P.underlying x.1, P.info? t, P.info? x.1 with
  | some (.interface want), some i, some j => (match j.zero with | some .nilIface => true | _ => false) && (lacking want i.methods).isEmpty == x.2
  | _, _, _ => false
def dynB (P : Program) : Nat → List TI → Bool
  | _, [] => true
  | t, x :: r => (!x.cmp || cmpB P t) && x.has.all (hasB P t) && dynB P (t + 1) r
theorem dynB_ok {P : Program} : ∀ (i : Nat) (tab : List TI), dynB P i tab = true → ∀ (t : Nat) (x : TI), tab[t]? = some x → (x.cmp = true → cmpB P (i + t) = true) ∧ x.has.all (hasB P (i + t)) = true
  | i, [], _, t, x, hx => by simp at hx
  | i, y :: r, h, t, x, hx => by
    simp only [dynB, Bool.and_eq_true, Bool.or_eq_true, Bool.not_eq_true'] at h
    cases t with
    | zero =>
      simp at hx
      subst hx
      exact ⟨fun hc => h.1.1.resolve_left (by rw [hc]; simp), h.1.2⟩
    | succ t =>
      have := dynB_ok (i + 1) r h.2 t x (by simpa using hx)
      rw [Nat.add_assoc, Nat.add_comm 1 t] at this
      exact this
/-- The methods of a list: what the program's own look-up gives. -/
def MethsOk (P : Program) (tab : List TI) : Prop := ∀ t x, tab[t]? = some x → ∀ y ∈ x.meth, ∀ (v : Value) (w : World), (Go.method (P.types.size + Made.depth) t v y.1).run P w = .ok (y.2, v) w
theorem mk_ok {P : Program} {tab : List TI} (glob : Nat → Option (List D)) (h : tabB P tab 0 tab = true) (hm : P.follows .mixedOrders = true) (hq : eqsB P 0 tab = true) (hd : dynB P 0 tab = true) (hmt : MethsOk P tab) : TOk P (mkCtx tab glob) := by
  have key : ∀ t, (mkCtx tab glob).td t ≠ .other → ∃ x, tab[t]? = some x ∧ (mkCtx tab glob).td t = x.td ∧ (mkCtx tab glob).sz t = x.sz ∧ (mkCtx tab glob).zero t = x.zero := by
    intro t ht
    cases hx : tab[t]? with
    | none => simp [mkCtx, List.getD, hx] at ht
    | some x => exact ⟨x, rfl, by simp [mkCtx, List.getD, hx], by simp [mkCtx, List.getD, hx], by simp [mkCtx, List.getD, hx]⟩
  refine ⟨fun t => ?_, fun t ht => ?_, hm, fun t ht => ?_, fun t ht => ?_, fun t i b ht => ?_, fun f as o rs o' h => by simp [mkCtx] at h, fun e he => (by cases he), fun t n g ht => ?_⟩
  · by_cases ht : (mkCtx tab glob).td t = .other
    · unfold tdOk
      rw [ht]
      trivial
    · obtain ⟨x, hx, e1, e2, e3⟩ := key t ht
      have := (tabB_ok 0 tab h t x hx (by rw [← e1]; exact ht)).1
      rw [Nat.zero_add, ← e1] at this
      exact tdB_ok this
  · obtain ⟨x, hx, e1, e2, e3⟩ := key t ht
    have := infoB_ok (tabB_ok 0 tab h t x hx (by rw [← e1]; exact ht)).2
    rw [Nat.zero_add] at this
    rw [e1, e2, e3]
    exact this
  · cases hx : tab[t]? with
    | none => simp [mkCtx, List.getD, hx] at ht
    | some x =>
      have e : (mkCtx tab glob).eqt t = x.eq := by simp [mkCtx, List.getD, hx]
      rw [e] at ht ⊢
      have := eqsB_ok 0 tab hq t x hx ht
      rwa [Nat.zero_add] at this
  · cases hx : tab[t]? with
    | none => simp [mkCtx, List.getD, hx] at ht
    | some x =>
      have e : (mkCtx tab glob).cmp t = x.cmp := by simp [mkCtx, List.getD, hx]
      rw [e] at ht
      have := (dynB_ok 0 tab hd t x hx).1 ht
      rw [Nat.zero_add] at this
      unfold cmpB at this
      split at this
      · rename_i e hu
        simp only [Bool.and_eq_true, Option.any_eq_true, bne_iff_ne] at this
        obtain ⟨⟨i, h1, h2⟩, j, h3, h4⟩ := this
        exact ⟨e, i, j, hu, h1, h2, h3, h4⟩
      · simp at this
  · cases hx : tab[t]? with
    | none => simp [mkCtx, List.getD, hx] at ht
    | some x =>
      have e : (mkCtx tab glob).has t i = (x.has.find? (·.1 == i)).map (·.2) := by simp [mkCtx, List.getD, hx]
      rw [e, Option.map_eq_some_iff] at ht
      obtain ⟨y, hy, rfl⟩ := ht
      have hi : y.1 = i := by simpa using List.find?_some hy
      have := List.all_eq_true.1 (dynB_ok 0 tab hd t x hx).2 y (List.mem_of_find?_eq_some hy)
      rw [Nat.zero_add, ] at this
      unfold hasB at this
      rw [hi] at this
      split at this
      · rename_i want xi j h1 h2 h3
        simp only [Bool.and_eq_true, beq_iff_eq] at this
        obtain ⟨h4, h5⟩ := this
        split at h4
        · rename_i hz
          exact ⟨want, xi, j, h1, h2, h3, hz, h5⟩
        · simp at h4
      · simp at this
  · cases hx : tab[t]? with
    | none => simp [mkCtx, List.getD, hx] at ht
    | some x =>
      have e : (mkCtx tab glob).meth t n = (x.meth.find? (·.1 == n)).map (·.2) := by simp [mkCtx, List.getD, hx]
      rw [e, Option.map_eq_some_iff] at ht
      obtain ⟨y, hy, rfl⟩ := ht
      have hi : y.1 = n := by simpa using List.find?_some hy
      have := hmt t x hx y (List.mem_of_find?_eq_some hy)
      rw [hi] at this
      exact this

def methIn (l : List (TypeId × String × FuncId)) : Nat → List TI → Bool
  | _, [] => true
  | t, x :: r => x.meth.all (fun y => l.contains (t, y)) && methIn l (t + 1) r
theorem methIn_ok {l : List (TypeId × String × FuncId)} : ∀ (i : Nat) (tab : List TI), methIn l i tab = true → ∀ (t : Nat) (x : TI), tab[t]? = some x → ∀ y ∈ x.meth, (i + t, y) ∈ l
  | i, [], _, t, x, hx => by simp at hx
  | i, z :: r, h, t, x, hx => by
    simp only [methIn, Bool.and_eq_true] at h
    cases t with
    | zero =>
      simp at hx
      subst hx
      intro y hy
      simpa using List.all_eq_true.1 h.1 y hy
    | succ t =>
      have := methIn_ok (i + 1) r h.2 t x (by simpa using hx)
      rw [Nat.add_assoc, Nat.add_comm 1 t] at this
      exact this
theorem meths_of {P : Program} {tab : List TI} {l : List (TypeId × String × FuncId)} (h : methIn l 0 tab = true) (hl : ∀ z ∈ l, ∀ (v : Value) (w : World), (Go.method (P.types.size + Made.depth) z.1 v z.2.1).run P w = .ok (z.2.2, v) w) : MethsOk P tab := by
  intro t x hx y hy v w
  have := methIn_ok 0 tab h t x hx y hy
  rw [Nat.zero_add] at this
  exact hl _ this v w

/-- A context in which the new slices of some slots may be written. -/
def Ctx.arrs (T : Ctx) (wr : Nat → Bool) : Ctx := { T with wr := wr }
theorem arrs_ok {P : Program} {T : Ctx} (h : TOk P T) (wr : Nat → Bool) : TOk P (T.arrs wr) :=
  ⟨h.td, h.info, h.mixed, h.eqt, h.cmp, h.has, h.mf, h.small, h.meth⟩
theorem arrs_pure {P : Program} {T : Ctx} {wr : Nat → Bool} {f : FuncId} {F : List D → Option (List D)} : Pure P (T.arrs wr) f F ↔ Pure P T f F := Iff.rfl
theorem arrs_turns {P : Program} {T : Ctx} {wr : Nat → Bool} {f : FuncId} {F : List AV → Obs → Option (List AV × Obs)} : Turns P (T.arrs wr) f F ↔ Turns P T f F := Iff.rfl
/-- A context with functions that turn what they are handed. -/
def Ctx.on (T : Ctx) (gf : FuncId → Bool) (mf : FuncId → List AV → Obs → Option (List AV × Obs)) : Ctx := { T with gf := gf, mf := mf }
theorem on_ok {P : Program} {T : Ctx} (h : TOk P T) {gf : FuncId → Bool} {mf : FuncId → List AV → Obs → Option (List AV × Obs)} (hm : ∀ f, Turns P T f (mf f)) : TOk P (T.on gf mf) :=
  ⟨h.td, h.info, h.mixed, h.eqt, h.cmp, h.has, hm, h.small, h.meth⟩
/-- A context that knows some types to be of few bytes. -/
def Ctx.few (T : Ctx) (small : TypeId → Bool) : Ctx := { T with small := small }
theorem few_ok {P : Program} {T : Ctx} (h : TOk P T) {small : TypeId → Bool} (hs : ∀ e, small e = true → ∃ i, P.info? e = some i ∧ i.bytes ≤ 64) : TOk P (T.few small) :=
  ⟨h.td, h.info, h.mixed, h.eqt, h.cmp, h.has, h.mf, hs, h.meth⟩
end Go.Ab

namespace Go.Ab

/-- An oracle with one function more. -/
def ext (E : Abs) (f : FuncId) (F : List D → Option (List D)) : Abs := fun g => if g = f then F else E g
theorem ext_ok {P : Program} {T : Ctx} {E : Abs} {f : FuncId} {F : List D → Option (List D)} (hE : ∀ g, Pure P T g (E g)) (hF : Pure P T f F) : ∀ g, Pure P T g (ext E f F g) := by
  intro g
  unfold ext
  split
  · rename_i e
    exact e ▸ hF
  · exact hE g
theorem none_ok {P : Program} {T : Ctx} : ∀ g, Pure P T g ((fun _ _ => none : Abs) g) := by
  intro g ds rs h
  simp at h
theorem Pure.of_le {P : Program} {T : Ctx} {f : FuncId} {F G : List D → Option (List D)} (hG : Pure P T f G) (h : ∀ ds rs, F ds = some rs → G ds = some rs) : Pure P T f F :=
  fun ds rs hF => hG ds rs (h ds rs hF)
theorem pure_of {P : Program} {T : Ctx} (hT : TOk P T) {E : Abs} (hE : ∀ f, Pure P T f (E f)) {f : FuncId} {fn : Func} (hf : P.funcs[f]? = some fn) (hname : (fn.name == "runtime.NumGoroutine") = false) {kp fr : Nat → List Nat} (hdr : (match fn.body with | some c => drawsOk T.gf fr c | none => true) = true)
    {F : List D → Option (List D)} (h : ∀ ds rs, F ds = some rs → ∃ n, fnK T E kp fr n fn ds = some rs) : Pure P T f F := by
  intro ds rs hF
  obtain ⟨n, hn⟩ := h ds rs hF
  exact fn_sound hT hE kp fr n hf hname (fun c hc => by rw [hc] at hdr; exact hdr) ds rs hn


theorem keep_bind {R : Type} (s : St) (ks : List Nat) (κ : St → Option R) : s.keep ks κ = (s.keep ks some).bind κ := by
  unfold St.keep
  simp only
  split <;> rfl
/-- What the simplifier shall not enter. -/
inductive Tag {α : Type} (x : α) : Type | mk
def hold {α : Type} (x : α) (m : Tag x) : α := x
section
variable {R σ : Type} (T : Ctx) (E : Abs)
/-- A loop, closed to the simplifier. -/
def loopK (kp fr : Nat → List Nat) (n : Nat) (c : Code) (s : St) (κ : Ex → St → Option R) : Option R :=
  iter (fun s κ => s.keep (kp (firstRegion c)) fun s => codeK T E kp fr n c s κ) n s κ

variable (kp fr : Nat → List Nat) (n : Nat)
/-- First the state, then what comes of it. -/
def stK (s : St) (f : St → Option R) : Option R := f s
/-- A test, closed to the simplifier as long as it is open. -/
def condK (c : Bool) (a b : Option R) : Option R := match c with | true => a | false => b
theorem ck_skip (s : St) (κ : Ex → St → Option R) : codeK T E kp fr n .skip s κ = κ .normal s := by simp only [codeK, codeG]
theorem ck_label (l : Nat) (s : St) (κ : Ex → St → Option R) : codeK T E kp fr n (.label l) s κ = κ .normal s := by simp only [codeK, codeG]
theorem ck_region (id : Nat) (l : List Oper) (s : St) (κ : Ex → St → Option R) : codeK T E kp fr n (.region id l.toArray false) s κ = opsK T E l l s (hold (κ .normal) .mk) := by simp only [codeK, codeG, hold]
theorem ck_draw (id : Nat) (l : List Oper) (s : St) (κ : Ex → St → Option R) : codeK T E kp fr n (.region id l.toArray true) s κ = if (!(fr id).contains 999999 && ((fr id).all (fun d => decide (500000 ≤ d) || clear (fr id) s (some d)) && kGate (fr id) s)) = true then dopsK T E (fr id) l l s (hold (κ .normal) .mk) else none := by simp only [codeK, codeG, drawK, hold]
theorem ck_seq (a b : Code) (s : St) (κ : Ex → St → Option R) : codeK T E kp fr n (.seq a b) s κ = codeK T E kp fr n a s (hold (fun e s => match e with | .normal => codeK T E kp fr n b s κ | .exit i => κ (.exit i) s | .goto l => κ (.goto l) s | .ret => κ .ret s) .mk) := by simp only [codeK, codeG, hold] <;> rfl
theorem ck_cond (c : Operand) (a b : Code) (s : St) (κ : Ex → St → Option R) : codeK T E kp fr n (.cond c a b) s κ = match s.get T c with
    | .d (.v (.bool t)) => condK t (hold (codeK T E kp fr n a s κ) .mk) (hold (codeK T E kp fr n b s κ) .mk)
    | _ => none := by
  simp only [codeK, codeG]
  split
  · rename_i t h
    rw [h]
    cases t <;> rfl
  · rename_i h
    split
    · rename_i t h'
      exact absurd h' (h t)
    · rfl
theorem ck_block (id : Nat) (c : Code) (s : St) (κ : Ex → St → Option R) : codeK T E kp fr n (.block id c) s κ = codeK T E kp fr n c s (hold (fun e s => match e with | .normal => κ .normal s | .exit i => if i = id then κ .normal s else κ (.exit i) s | .goto l => κ (.goto l) s | .ret => κ .ret s) .mk) := by simp only [codeK, codeG, hold] <;> rfl
theorem ck_loop (c : Code) (s : St) (κ : Ex → St → Option R) : codeK T E kp fr n (.loop c) s κ = loopK T E kp fr n (hold c .mk) s (hold κ .mk) := by simp only [codeK, codeG, loopK, hold] <;> rfl
/-- A jump back within a scope, closed to the simplifier. -/
def gotoK (c : Code) (l : Nat) (s : St) (κ : Ex → St → Option R) : Option R :=
  match findLabel c l with | some rest => s.keep (kp (1000000 + l)) fun s => runG T E kp fr n n c rest s κ | none => none
theorem ck_scope (c : Code) (s : St) (κ : Ex → St → Option R) : codeK T E kp fr n (.scope c) s κ = codeK T E kp fr n c s (hold (fun e s => match e with | .normal => κ .normal s | .exit i => κ (.exit i) s | .goto l => gotoK T E kp fr n (hold c .mk) l s κ | .ret => κ .ret s) .mk) := by
  simp only [codeK, codeG, hold]
  congr 1
  funext e s
  cases e <;> rfl
theorem ck_goto (i : Nat) (s : St) (κ : Ex → St → Option R) : codeK T E kp fr n (.goto i) s κ = κ (.goto i) s := by simp only [codeK, codeG]
theorem ck_exit (i : Nat) (s : St) (κ : Ex → St → Option R) : codeK T E kp fr n (.exit i) s κ = κ (.exit i) s := by simp only [codeK, codeG]
theorem ck_ret (s : St) (κ : Ex → St → Option R) : codeK T E kp fr n .ret s κ = κ .ret s := by simp only [codeK, codeG]

variable {T E kp fr n}
/-- A loop by rounds: what comes of it from each state on. -/
theorem loop_rule {c : Code} {κ : Ex → St → Option R} (S : σ → St) (m : σ → Nat) (ok : σ → Prop) (Post : σ → Option R) (x : σ) (ks : List Nat) {s : St} (hks : kp (firstRegion c) = ks)
    (hx : ok x) (hm : m x < n) (hs : s.keep ks some = some (S x))
    (h : ∀ x κ', ok x → (∀ y s, ok y → m y < m x → s.keep ks some = some (S y) → κ' .normal s = Post y) → (∀ i s, κ' (.exit i) s = κ (.exit i) s) → (∀ s, κ' .ret s = κ .ret s) → codeK T E kp fr n c (S x) κ' = Post x) {m1 : Tag c} {m2 : Tag κ} : loopK T E kp fr n (hold c m1) s (hold κ m2) = Post x := by
  have key : ∀ (k : Nat) (x : σ) (s : St), ok x → m x < k → s.keep ks some = some (S x) → iter (fun s κ => s.keep ks fun s => codeK T E kp fr n c s κ) k s κ = Post x := by
    intro k
    induction k with
    | zero => intro x s _ hm; exact absurd hm (Nat.not_lt_zero _)
    | succ k ih =>
      intro x s hx hm hs
      simp only [iter]
      rw [keep_bind, hs]
      simp only [Option.bind_some]
      refine h x _ hx (fun y s' hy hlt hs' => ?_) (fun i s => rfl) fun s => rfl
      exact ih y s' hy (by omega) hs'
  unfold loopK hold
  rw [hks]
  exact key n x s hx hm hs
end
/-- A frame's slots: these, and nothing in the others. -/
def slots (n : Nat) (xs : List (Nat × AV)) : List AV := xs.foldl (fun t p => t.set p.1 p.2) (List.replicate n .undef)
end Go.Ab
