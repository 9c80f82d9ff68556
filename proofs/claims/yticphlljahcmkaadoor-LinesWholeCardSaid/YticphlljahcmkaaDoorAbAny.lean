/- One text of a proof that a law of this seat says true for every input: an evaluator of code over data, and that it tells the truth. It holds of the given program under the conditions that the row prints. -/
import Derived.Test.YticphlljahcmkaaDoorAbTurn
set_option linter.unusedVariables false
namespace Go.Ab

section
variable {T : Ctx} {E : Abs} {ops : Array Oper}

theorem looks_mem {o : Oper} {t : Tmp} (h : Operand.tmp t ∈ o.op.operands.toList) : t ∈ o.looksAt ops :=
  List.mem_append_left _ (List.mem_filterMap.2 ⟨_, h, rfl⟩)

/-- A slot's value is free of objects. -/
def Free (s : St) (t : Nat) : Prop := ∀ x, s.t[t]? = some x → x.ids = []
structure AlikeG (ops : Array Oper) (o : Oper) (s s' : St) : Prop where
  get : ∀ t ∈ o.looksAt ops, s'.t[t]? = s.t[t]?
  o : s'.o = s.o ∨ ∀ t ∈ o.looksAt ops, Free s t

theorem get_free {s : St} {x : Operand} (h : ∀ t, x = .tmp t → Free s t) : (s.get T x).ids = [] := by
  cases x with
  | tmp t =>
    simp only [St.get, List.getD_eq_getElem?_getD]
    cases hx : s.t[t]? with
    | none => rfl
    | some x => exact h t rfl x hx
  | const v => rfl
  | global g => simp only [St.get]; split <;> rfl
  | func f => rfl
theorem AlikeG.alike {o : Oper} {s s' : St} (h : AlikeG ops o s s') : Alike T o s s' := by
  have hget : ∀ x ∈ o.op.operands.toList, s'.get T x = s.get T x := fun x hx => by
    cases x with
    | tmp t => simp only [St.get, List.getD_eq_getElem?_getD, h.get t (looks_mem hx)]
    | const v => rfl
    | global g => rfl
    | func f => rfl
  refine ⟨hget, fun x hx => ?_, ?_⟩
  · rw [hget x hx]
    rcases h.o with e | e
    · rw [e]
    · exact data_free _ (get_free fun t he => e t (looks_mem (he ▸ hx)))
  · exact h.o.imp id fun e x hx => get_free fun t he => e t (looks_mem (he ▸ hx))

theorem guard_same {o : Oper} {j : Nat} {want : Bool} {s s' : St} (hg : o.guard = some (j, want)) (h : ∀ t ∈ o.looksAt ops, s'.t[t]? = s.t[t]?) :
    ((ops.toList[j]?).bind (·.dst)).bind (s'.t[·]?) = ((ops.toList[j]?).bind (·.dst)).bind (s.t[·]?) := by
  rw [Array.getElem?_toList]
  cases hd : (ops[j]?).bind (·.dst) with
  | none => rfl
  | some d =>
    simp only [Option.bind_some]
    exact h d (List.mem_append_right _ (by simp [hg, hd]))

theorem valG {fr : List Nat} {o : Oper} (hb : isB ops fr o = false) (hna : ∀ x, o.op ≠ .assign x) {R : Type} {s : St} {κ : St → Option R} {r : R} (hm : isMk o = true → ∀ t ∈ o.looksAt ops, Free s t)
    (hk : opG T E ops.toList o s κ = some r) : ∃ v, κ (s.put o.dst v) = some r ∧ ∀ {R' : Type} (s' : St) (κ' : St → Option R'), AlikeG ops o s s' → opG T E ops.toList o s' κ' = κ' (s'.put o.dst v) := by
  have hop : ∀ {R : Type} {κ : St → Option R} {r : R}, opK T E o s κ = some r → ∃ v, κ (s.put o.dst v) = some r ∧ ∀ {R' : Type} (s' : St) (κ' : St → Option R'), Alike T o s s' → opK T E o s' κ' = κ' (s'.put o.dst v) := by
    intro R κ r hk
    cases hmk : isMk o with
    | false => exact val_op hb hmk hna hk
    | true =>
      have hmk' := hmk
      unfold isMk at hmk
      split at hmk
      · rename_i t x ho
        exact val_makeInterface ho (get_free fun t he => hm hmk' t (looks_mem (by simp [ho, Op.operands, he]))) hk
      · simp at hmk
  unfold opG at hk
  split at hk
  · rename_i hg
    obtain ⟨v, h1, h2⟩ := hop hk
    exact ⟨v, h1, fun s' κ' h => by unfold opG; rw [hg]; exact h2 s' κ' h.alike⟩
  · rename_i j want hg
    split at hk
    · rename_i b hb'
      split at hk
      · obtain ⟨v, h1, h2⟩ := hop hk
        exact ⟨v, h1, fun s' κ' h => by unfold opG; rw [hg]; simp only; rw [guard_same hg h.get, hb']; exact h2 s' κ' h.alike⟩
      · obtain ⟨v, h1, h2⟩ := hop hk
        exact ⟨v, h1, fun s' κ' h => by unfold opG; rw [hg]; simp only; rw [guard_same hg h.get, hb']; exact h2 s' κ' h.alike⟩
      · rename_i h3 h4
        refine ⟨_, hk, fun s' κ' h => ?_⟩
        unfold opG; rw [hg]; simp only; rw [guard_same hg h.get, hb']
        cases b <;> cases want <;> simp_all
    · rename_i vs hb'
      exact ⟨_, hk, fun s' κ' h => by unfold opG; rw [hg]; simp only; rw [guard_same hg h.get, hb']⟩
    · simp at hk

theorem turnG_step' {o : Oper} (ht : Turn T E o) {R : Type} {s : St} {κ : St → Option R} {r : R} (hk : opG T E ops.toList o s κ = some r) :
    ∃ s', κ s' = some r ∧ (∀ {R' : Type} (κ' : St → Option R'), opG T E ops.toList o s κ' = κ' s') ∧ ∀ d x, o.dst ≠ some d → s.t[d]? = some x → x.ids = [] → s'.t[d]? = some x := by
  unfold opG at hk
  split at hk
  · rename_i hg
    obtain ⟨s', h1, h2, h3⟩ := ht.step hk
    exact ⟨s', h1, fun κ' => by unfold opG; rw [hg]; exact h2 κ', h3⟩
  · rename_i j want hg
    split at hk
    · rename_i b hb'
      split at hk
      · obtain ⟨s', h1, h2, h3⟩ := ht.step hk
        exact ⟨s', h1, fun κ' => by unfold opG; rw [hg]; simp only; rw [hb']; exact h2 κ', h3⟩
      · obtain ⟨s', h1, h2, h3⟩ := ht.step hk
        exact ⟨s', h1, fun κ' => by unfold opG; rw [hg]; simp only; rw [hb']; exact h2 κ', h3⟩
      · refine ⟨_, hk, fun κ' => ?_, fun d x hd hx _ => put_keeps' hd hx⟩
        unfold opG; rw [hg]; simp only; rw [hb']
        cases b <;> cases want <;> simp_all
    · rename_i vs hb'
      exact ⟨_, hk, fun κ' => by unfold opG; rw [hg]; simp only; rw [hb'], fun d x hd hx _ => put_keeps' hd hx⟩
    · simp at hk
theorem turnG_step {fr : List Nat} {o : Oper} (hb : isB ops fr o = true) {R : Type} {s : St} {κ : St → Option R} {r : R} (hk : opG T E ops.toList o s κ = some r) :
    ∃ s', κ s' = some r ∧ (∀ {R' : Type} (κ' : St → Option R'), opG T E ops.toList o s κ' = κ' s') ∧ ∀ d x, o.dst ≠ some d → s.t[d]? = some x → x.ids = [] → s'.t[d]? = some x :=
  turnG_step' (turn_op hb) hk
theorem turnG_frame {fr : List Nat} {o : Oper} (hb : isB ops fr o = true) {R : Type} (s : St) (κ : St → Option R) (d : Tmp) (v : AV) (hd : o.dst ≠ some d) (hv : v.ids = []) (hn : d ∉ o.looksAt ops) :
    opG T E ops.toList o (s.put (some d) v) κ = opG T E ops.toList o s fun s' => κ (s'.put (some d) v) := by
  have ht := turn_op (T := T) (E := E) hb
  have hf := ht.frame s κ d v hd hv fun h => hn (looks_mem h)
  unfold opG
  cases hg : o.guard with
  | none => exact hf
  | some jw =>
    obtain ⟨j, want⟩ := jw
    simp only
    rw [guard_same (s := s) (s' := s.put (some d) v) hg fun t ht => by
      have : d ≠ t := fun e => hn (e ▸ ht)
      simp only [St.put, List.getElem?_set_ne this]]
    split
    · split
      · exact hf
      · exact hf
      · rw [put_put' hd]
    · rw [put_put' hd]
    · rfl

/-- What is free stays free. -/
def FrInv (fr : List Nat) (s : St) : Prop := ∀ d ∈ fr, clear fr s (some d) = true
theorem FrInv.free {fr : List Nat} {s : St} (h : FrInv fr s) {d : Nat} (hd : d ∈ fr) : ∃ x, s.t[d]? = some x ∧ x.ids = [] := by
  have := h d hd
  simp only [clear, Bool.or_eq_true, Bool.not_eq_true', List.contains_eq_mem, decide_eq_false_iff_not] at this
  rcases this with h1 | h1
  · exact absurd hd h1
  · split at h1
    · rename_i x hx
      exact ⟨x, hx, by simpa using h1⟩
    · simp at h1
theorem clear_of {fr : List Nat} {s : St} {d : Nat} {x : AV} (hx : s.t[d]? = some x) (hf : x.ids = []) : clear fr s (some d) = true := by
  simp [clear, hx, hf]
theorem clear_same {fr : List Nat} {s s' : St} {d : Option Nat} (h : ∀ t, d = some t → s'.t[t]? = s.t[t]?) (hc : clear fr s d = true) : clear fr s' d = true := by
  cases d with
  | none => rfl
  | some d =>
    simp only [clear, h d rfl] at hc ⊢
    exact hc
theorem put_other {s : St} {d : Option Tmp} {v : AV} {t : Nat} (h : d ≠ some t) : (s.put d v).t[t]? = s.t[t]? := by
  cases d with
  | none => rfl
  | some d =>
    have : d ≠ t := fun e => h (by rw [e])
    simp only [St.put, List.getElem?_set_ne this]
theorem FrInv.put {fr : List Nat} {s : St} (h : FrInv fr s) {d : Option Tmp} {v : AV} (hc : clear fr (s.put d v) d = true) : FrInv fr (s.put d v) := by
  intro t ht
  by_cases he : d = some t
  · rw [← he]; exact hc
  · exact clear_same (fun t' e => by cases e; exact put_other he) (h t ht)
theorem FrInv.turn {fr : List Nat} {s s' : St} (h : FrInv fr s) {d : Option Tmp} (hk : ∀ t x, d ≠ some t → s.t[t]? = some x → x.ids = [] → s'.t[t]? = some x) (hc : clear fr s' d = true) : FrInv fr s' := by
  intro t ht
  by_cases he : d = some t
  · rw [← he]; exact hc
  · obtain ⟨x, hx, hf⟩ := h.free ht
    exact clear_of (hk t x he hx hf) hf
theorem put_swap {s : St} {d e : Option Tmp} {v u : AV} (h : ∀ t, d = some t → e ≠ some t) : (s.put d v).put e u = (s.put e u).put d v := by
  cases d with
  | none => rfl
  | some d => exact put_put' (h d rfl)

/-- Two neighbours change places. -/
theorem swap {fr : List Nat} {a i : Oper} (haa : ∀ x, a.op ≠ .assign x) (hia : ∀ x, i.op ≠ .assign x) (hc : comm ops fr a i = true) {R : Type} {s : St} {κ : St → Option R} {r : R} (hs : FrInv fr s)
    (hk : opG T E ops.toList a s (fun s1 => if clear fr s1 a.dst = true then opG T E ops.toList i s1 (fun s2 => if clear fr s2 i.dst = true then κ s2 else none) else none) = some r) :
    opG T E ops.toList i s (fun s1 => if clear fr s1 i.dst = true then opG T E ops.toList a s1 (fun s2 => if clear fr s2 a.dst = true then κ s2 else none) else none) = some r := by
  have frl : ∀ {o : Oper} {s : St}, FrInv fr s → frOp ops fr o = true → ∀ t ∈ o.looksAt ops, Free s t := by
    intro o s hs hf t ht x hx
    simp only [frOp, Bool.and_eq_true, List.all_eq_true] at hf
    obtain ⟨y, hy, hy'⟩ := hs.free (d := t) (by simpa using hf.1 t ht)
    rw [hy] at hx
    cases hx
    exact hy'
  have frd : ∀ {o : Oper} {s : St} {v : AV}, frOp ops fr o = true → clear fr (s.put o.dst v) o.dst = true → o.dst = none ∨ ∃ d, o.dst = some d ∧ v.ids = [] := by
    intro o s v hf hcl
    cases hd : o.dst with
    | none => exact .inl rfl
    | some d =>
      refine .inr ⟨d, rfl, ?_⟩
      simp only [frOp, Bool.and_eq_true, hd] at hf
      rw [hd] at hcl
      have hmem : d ∈ fr := by simpa using hf.2
      simp only [clear, Bool.or_eq_true, Bool.not_eq_true', List.contains_eq_mem, decide_eq_false_iff_not] at hcl
      rcases hcl with h1 | h1
      · exact absurd hmem h1
      · split at h1
        · rename_i x hx
          simp only [St.put, List.getElem?_set, if_true] at hx
          split at hx
          · cases hx
            simpa using h1
          · simp at hx
        · simp at h1
  simp only [comm, Bool.and_eq_true] at hc
  obtain ⟨hap, hcl⟩ := hc
  obtain ⟨p1, p2, p3⟩ := Oper.apart_spec hap
  have p2' : ∀ d, i.dst = some d → a.dst ≠ some d := fun d hd he => p2 d he hd
  cases hba : isB ops fr a with
  | true =>
    cases hbi : isB ops fr i with
    | true => simp [hba, hbi] at hcl
    | false =>
      simp only [hba, hbi] at hcl
      obtain ⟨s1, hk, ha', hkeep⟩ := turnG_step hba hk
      split at hk
      · rename_i hca
        have hs1 := hs.turn hkeep hca
        obtain ⟨v, hk, hi'⟩ := valG hbi hia (fun _ => frl hs1 hcl) hk
        split at hk
        · rename_i hci
          have hlook : ∀ t ∈ i.looksAt ops, s.t[t]? = s1.t[t]? := fun t ht => by
            simp only [frOp, Bool.and_eq_true, List.all_eq_true] at hcl
            obtain ⟨x, hx, hf⟩ := hs.free (d := t) (by simpa using hcl.1 t ht)
            rw [hx, hkeep t x (fun he => p1 t he ht) hx hf]
          rw [hi' s _ ⟨hlook, .inr (frl hs1 hcl)⟩]
          rcases frd hcl hci with hd | ⟨d, hd, hv⟩
          · have e : ∀ s : St, s.put i.dst v = s := fun s => by rw [hd]; rfl
            simp only [e] at hk ⊢
            rw [if_pos (by rw [hd]; rfl), ha', if_pos hca]
            exact hk
          · have hcd : clear fr (s.put i.dst v) i.dst = true := by
              rw [hd]
              simp only [frOp, Bool.and_eq_true, hd] at hcl
              obtain ⟨x, hx, _⟩ := hs.free (d := d) (by simpa using hcl.2)
              have hlt : d < s.t.length := (List.getElem?_eq_some_iff.1 hx).1
              exact clear_of (x := v) (by simp [St.put, hlt]) hv
            rw [if_pos hcd, hd, turnG_frame hba s _ d v (p2' d hd) hv (p3 d hd), ha']
            rw [hd] at hk
            rw [if_pos (clear_same (s := s1) (fun t e => put_other fun h => p2' t (hd.trans h) e) hca)]
            exact hk
        · simp at hk
      · simp at hk
  | false =>
    cases hbi : isB ops fr i with
    | true =>
      simp only [hba, hbi] at hcl
      obtain ⟨v, hk, ha'⟩ := valG hba haa (fun _ => frl hs hcl) hk
      split at hk
      · rename_i hca
        have fin : ∀ s1 : St, (if clear fr (s1.put a.dst v) i.dst = true then κ (s1.put a.dst v) else none) = some r → (∀ {R' : Type} (κ' : St → Option R'), opG T E ops.toList i s κ' = κ' s1) → (∀ d x, i.dst ≠ some d → s.t[d]? = some x → x.ids = [] → s1.t[d]? = some x) →
            opG T E ops.toList i s (fun s1 => if clear fr s1 i.dst = true then opG T E ops.toList a s1 (fun s2 => if clear fr s2 a.dst = true then κ s2 else none) else none) = some r := by
          intro s1 hk hi' hkeep
          split at hk
          · rename_i hci
            rw [hi']
            have hci' : clear fr s1 i.dst = true := clear_same (s := s1.put a.dst v) (fun t e => (put_other fun h => p2 t h e).symm) hci
            have hs1 : FrInv fr s1 := hs.turn hkeep hci'
            have hlook : ∀ t ∈ a.looksAt ops, s1.t[t]? = s.t[t]? := fun t ht => by
              simp only [frOp, Bool.and_eq_true, List.all_eq_true] at hcl
              obtain ⟨x, hx, hf⟩ := hs.free (d := t) (by simpa using hcl.1 t ht)
              rw [hx, hkeep t x (fun he => p3 t he ht) hx hf]
            rw [if_pos hci', ha' s1 _ ⟨hlook, .inr (frl hs hcl)⟩]
            have : clear fr (s1.put a.dst v) a.dst = true := by
              rcases frd hcl hca with hd | ⟨d, hd, hv⟩
              · rw [hd]; rfl
              · rw [hd]
                simp only [frOp, Bool.and_eq_true, hd] at hcl
                obtain ⟨x, hx, _⟩ := hs1.free (d := d) (by simpa using hcl.2)
                have hlt : d < s1.t.length := (List.getElem?_eq_some_iff.1 hx).1
                exact clear_of (x := v) (by simp [St.put, hlt]) hv
            rw [if_pos this]
            exact hk
          · simp at hk
        rcases frd hcl hca with hd | ⟨d, hd, hv⟩
        · have e : ∀ s : St, s.put a.dst v = s := fun s => by rw [hd]; rfl
          rw [e] at hk
          obtain ⟨s1, hk, hi', hkeep⟩ := turnG_step hbi hk
          exact fin s1 (by rw [e]; exact hk) hi' hkeep
        · rw [hd] at hk
          rw [turnG_frame hbi s _ d v (p2 d hd) hv (p1 d hd)] at hk
          obtain ⟨s1, hk, hi', hkeep⟩ := turnG_step hbi hk
          exact fin s1 (by rw [hd]; exact hk) hi' hkeep
      · simp at hk
    | false =>
      simp only [hba, hbi, Bool.and_eq_true, Bool.or_eq_true, Bool.not_eq_true'] at hcl
      have hma : ∀ {s : St}, FrInv fr s → isMk a = true → ∀ t ∈ a.looksAt ops, Free s t := fun hs h => frl hs (hcl.1.resolve_left (by rw [h]; simp))
      have hmi : ∀ {s : St}, FrInv fr s → isMk i = true → ∀ t ∈ i.looksAt ops, Free s t := fun hs h => frl hs (hcl.2.resolve_left (by rw [h]; simp))
      obtain ⟨v, hk, ha'⟩ := valG hba haa (hma hs) hk
      split at hk
      · rename_i hca
        have hs1 := hs.put hca
        obtain ⟨u, hk, hi'⟩ := valG hbi hia (hmi hs1) hk
        split at hk
        · rename_i hci
          rw [hi' s _ ⟨fun t ht => (put_other fun h => p1 t h ht).symm, .inl (by cases a.dst <;> rfl)⟩]
          have h1 : clear fr (s.put i.dst u) i.dst = true := by
            rw [put_swap p2] at hci
            exact clear_same (s := (s.put i.dst u).put a.dst v) (fun t e => (put_other fun h => p2 t h e).symm) hci
          rw [if_pos h1, ha' (s.put i.dst u) _ ⟨fun t ht => put_other fun h => p3 t h ht, .inl (by cases i.dst <;> rfl)⟩]
          rw [← put_swap p2]
          have h2 : clear fr ((s.put a.dst v).put i.dst u) a.dst = true := clear_same (fun t e => put_other fun h => p2 t e h) hca
          rw [if_pos h2]
          exact hk
        · simp at hk
      · simp at hk

theorem mv_dst (fr : List Nat) (o : Oper) : (mv fr o).dst = o.dst := by
  unfold mv
  split
  · rfl
  · split <;> rfl
  · rfl
theorem mv_guard (fr : List Nat) (o : Oper) : (mv fr o).guard = o.guard := by
  unfold mv
  split
  · rfl
  · split <;> rfl
  · rfl
theorem mv_not (fr : List Nat) (o : Oper) : ∀ x, (mv fr o).op ≠ .assign x := by
  intro x
  unfold mv
  split
  · simp
  · rename_i t y d h1 h2
    split
    · simp [h1]
    · simp [h1]
  · rename_i h h'
    exact fun e => h x e
theorem mv_exec (fr : List Nat) (o : Oper) (ρ : Operand → Value) : execOp ρ (mv fr o) = execOp ρ o := by
  unfold mv
  split
  · rename_i x h
    simp only [execOp, h]
  · rename_i t y d h1 h2
    split
    · simp only [execOp, h1]
    · rfl
  · rfl

theorem stepG {f0 : List Nat} {o : Oper} (hna : ∀ x, o.op ≠ .assign x) {R : Type} {s : St} {κ : St → Option R} {r : R} (hk : opG T E ops.toList o s κ = some r) :
    ∃ s', κ s' = some r ∧ (∀ {R' : Type} (κ' : St → Option R'), opG T E ops.toList o s κ' = κ' s') ∧ ∀ {fr : List Nat}, FrInv fr s → clear fr s' o.dst = true → FrInv fr s' := by
  cases hb : isB ops f0 o with
  | true =>
    obtain ⟨s', h1, h2, h3⟩ := turnG_step hb hk
    exact ⟨s', h1, h2, fun hs hc => hs.turn h3 hc⟩
  | false =>
    cases hm : isMk o with
    | false =>
      obtain ⟨v, h1, h2⟩ := valG hb hna (fun h => absurd h (by simp [hm])) hk
      exact ⟨_, h1, fun κ' => h2 s κ' ⟨fun _ _ => rfl, .inl rfl⟩, fun hs hc => hs.put hc⟩
    | true =>
      unfold isMk at hm
      split at hm
      · rename_i t x ho
        obtain ⟨s', h1, h2, h3⟩ := turnG_step' (turn_makeInterface ho) hk
        exact ⟨s', h1, h2, fun hs hc => hs.turn h3 hc⟩
      · simp at hm
theorem frl {fr : List Nat} {o : Oper} {s : St} (hs : FrInv fr s) (hf : frOp ops fr o = true) : ∀ t ∈ o.looksAt ops, Free s t := by
  intro t ht x hx
  simp only [frOp, Bool.and_eq_true, List.all_eq_true] at hf
  obtain ⟨y, hy, hy'⟩ := hs.free (d := t) (by simpa using hf.1 t ht)
  rw [hy] at hx
  cases hx
  exact hy'
/-- What may go ahead goes ahead. -/
theorem front {fr : List Nat} {R : Type} {κ : St → Option R} {r : R} {i : Oper} {B : List Oper} : ∀ (A : List Oper) (s : St), FrInv fr s → (∀ a ∈ A, comm ops fr (mv fr a) (mv fr i) = true) → dopsK T E fr ops.toList (A ++ i :: B) s κ = some r → dopsK T E fr ops.toList (i :: (A ++ B)) s κ = some r
  | [], s, _, _, hk => hk
  | a :: A, s, hs, hc, hk => by
    simp only [List.cons_append, dopsK] at hk
    obtain ⟨s1, hk, hst, hfr⟩ := stepG (f0 := fr) (mv_not fr a) hk
    split at hk
    · rename_i hcl
      have hs1 := hfr hs (by rw [mv_dst]; exact hcl)
      have ih := front A s1 hs1 (fun b hb => hc b (by simp [hb])) hk
      simp only [dopsK] at ih
      have hboth : opG T E ops.toList (mv fr a) s (fun s1 => if clear fr s1 (mv fr a).dst = true then opG T E ops.toList (mv fr i) s1 (fun s2 => if clear fr s2 (mv fr i).dst = true then dopsK T E fr ops.toList (A ++ B) s2 κ else none) else none) = some r := by
        rw [hst, mv_dst, if_pos hcl, mv_dst]
        exact ih
      have := swap (mv_not fr a) (mv_not fr i) (hc a (by simp)) hs hboth
      simp only [mv_dst] at this
      simp only [List.cons_append, dopsK]
      exact this
    · simp at hk

theorem anc_listed {U : List Nat} (hdown : ∀ (j : Nat) (o : Oper), ops[j]? = some o → j ∉ U → ∀ e ∈ o.after, Region.binds .any e = true → e.on ∉ U) : ∀ (n i : Nat) (o : Oper), ops[i]? = some o → (∀ e ∈ o.after, Region.binds .any e = true → e.on ∉ U) → ∀ a ∈ anc ops n i, a ∉ U
  | 0, i, o, _, _, a, ha => by simp [anc] at ha
  | n + 1, i, o, ho, he, a, ha => by
    simp only [anc, ho, List.mem_flatMap, List.mem_filter] at ha
    obtain ⟨e, ⟨hmem, hb⟩, ha⟩ := ha
    have hon := he e (by simpa using hmem) hb
    rcases List.mem_cons.1 ha with rfl | ha
    · exact hon
    · cases hoe : ops[e.on]? with
      | none =>
        cases n with
        | zero => simp [anc] at ha
        | succ n => simp [anc, hoe] at ha
      | some oe => exact anc_listed hdown n e.on oe hoe (hdown e.on oe hoe hon) a ha

section
variable {P : Program} (hT : TOk P T) (hE : ∀ f, Pure P T f (E f))
include hT hE

theorem any_sound {fr : List Nat} {R : Type} {N X : Mut} {w0 : World} {Q : Exit → Act → World → Prop} {κ : St → Option R} {r : R} (hd : drawOk fr ops = true)
    (hn : ∀ γ' w' s' a', SR T N w0 X γ' w' s' a' → κ s' = some r → Q .normal a' w') :
    ∀ (fuel : Nat) (U : List Nat) (listed : Array Bool) (γ : Gam) (w : World) (s : St) (a : Act), U.length ≤ fuel → U.Pairwise (· < ·) → (∀ j ∈ U, j < ops.size) → (∀ j, j < ops.size → listed[j]? = some (decide (j ∉ U))) →
      (∀ (j : Nat) (o : Oper), ops[j]? = some o → j ∉ U → ∀ e ∈ o.after, Region.binds .any e = true → e.on ∉ U) →
      FrInv fr s → SR T N w0 X γ w s a → dopsK T E fr ops.toList (U.filterMap (ops[·]?)) s κ = some r → wpAny P .any ops Q fuel listed a w := by
  have hon : ∀ (j : Nat) (o : Oper), ops[j]? = some o → ∀ e ∈ o.after, Region.binds .any e = true → e.on < j := by
    intro j o ho e he hb
    have hlt := (Array.getElem?_eq_some_iff.1 ho).1
    simp only [drawOk, List.all_eq_true, List.mem_range] at hd
    have := hd j hlt
    simp only [ho, Bool.and_eq_true, List.all_eq_true] at this
    have := this.1 e (by simpa using he)
    simpa [hb] using this
  have hcomm : ∀ (i a : Nat) (oi oa : Oper), ops[i]? = some oi → ops[a]? = some oa → a < i → a ∉ anc ops ops.size i → comm ops fr (mv fr oa) (mv fr oi) = true := by
    intro i a oi oa hi ha hlt hna
    have hil := (Array.getElem?_eq_some_iff.1 hi).1
    simp only [drawOk, List.all_eq_true, List.mem_range] at hd
    have := hd i hil
    simp only [hi, Bool.and_eq_true, List.all_eq_true, List.mem_range] at this
    have := this.2 a hlt
    simpa [hna, ha] using this
  have hready : ∀ (U : List Nat) (listed : Array Bool), (∀ j, j < ops.size → listed[j]? = some (decide (j ∉ U))) → ∀ i, i ∈ Region.ready .any ops listed ↔ i < ops.size ∧ i ∈ U ∧ ∀ o, ops[i]? = some o → ∀ e ∈ o.after, Region.binds .any e = true → e.on ∉ U := by
    intro U listed hl i
    rw [mem_ready]
    constructor
    · rintro ⟨h1, o, ho, h2⟩
      have hlt := (Array.getElem?_eq_some_iff.1 ho).1
      refine ⟨hlt, ?_, fun o' ho' e he hb => ?_⟩
      · simpa [hl i hlt] using h1
      · have : o = o' := by rw [ho] at ho'; exact Option.some.inj ho'
        subst this
        have hlt' : e.on < ops.size := Nat.lt_trans (hon i o ho e he hb) hlt
        simpa [hl e.on hlt'] using h2 e he hb
    · rintro ⟨hlt, h1, h2⟩
      have ho : ops[i]? = some ops[i] := Array.getElem?_eq_getElem hlt
      refine ⟨by simpa [hl i hlt] using h1, _, ho, fun e he hb => ?_⟩
      have hlt' : e.on < ops.size := Nat.lt_trans (hon i _ ho e he hb) hlt
      simpa [hl e.on hlt'] using h2 _ ho e he hb
  have hdone : ∀ (U : List Nat) (listed : Array Bool) (γ : Gam) (w : World) (s : St) (a : Act), U.Pairwise (· < ·) → (∀ j ∈ U, j < ops.size) → (∀ j, j < ops.size → listed[j]? = some (decide (j ∉ U))) → SR T N w0 X γ w s a → dopsK T E fr ops.toList (U.filterMap (ops[·]?)) s κ = some r → Region.ready .any ops listed = [] → Q .normal a w := by
    intro U listed γ w s a hp hlt hl h hk hr
    cases U with
    | nil =>
      simp only [List.filterMap_nil, dopsK] at hk
      exact hn γ w s a h hk
    | cons i U =>
      exfalso
      have : i ∈ Region.ready .any ops listed := by
        rw [hready _ _ hl]
        refine ⟨hlt i (by simp), by simp, fun o ho e he hb hmem => ?_⟩
        have h1 := hon i o ho e he hb
        rcases List.mem_cons.1 hmem with h2 | h2
        · omega
        · have := List.rel_of_pairwise_cons hp h2
          omega
      rw [hr] at this
      simp at this
  intro fuel
  induction fuel with
  | zero =>
    intro U listed γ w s a hlen hp hlt hl hdown hs h hk
    have : U = [] := List.eq_nil_of_length_eq_zero (by omega)
    subst this
    have hr : Region.ready .any ops listed = [] := List.eq_nil_iff_forall_not_mem.2 fun i hi => by
      rw [hready _ _ hl] at hi
      simp at hi
    exact ⟨hr, hdone [] listed γ w s a hp hlt hl h hk hr⟩
  | succ fuel ih =>
    intro U listed γ w s a hlen hp hlt hl hdown hs h hk
    refine ⟨hdone U listed γ w s a hp hlt hl h hk, fun i hi => ?_⟩
    rw [hready _ _ hl] at hi
    obtain ⟨hil, hiU, hpre⟩ := hi
    have ho : ops[i]? = some ops[i] := Array.getElem?_eq_getElem hil
    obtain ⟨A, B, rfl⟩ := List.append_of_mem hiU
    have hA : ∀ a ∈ A, a < i := fun a ha => (List.pairwise_append.1 hp).2.2 a ha i (by simp)
    have hB : ∀ b ∈ B, i < b := fun b hb => List.rel_of_pairwise_cons (List.pairwise_append.1 hp).2.1 hb
    have hup := anc_listed hdown ops.size i _ ho (hpre _ ho)
    have hf := front (T := T) (E := E) (ops := ops) (fr := fr) (κ := κ) (r := r) (i := ops[i]) (B := B.filterMap (ops[·]?)) (A.filterMap (ops[·]?)) s hs (by
      intro oa hoa
      obtain ⟨a, ha, hoa⟩ := List.mem_filterMap.1 hoa
      exact hcomm i a _ oa ho hoa (hA a ha) fun hmem => hup a hmem (by simp [ha])) (by
      rw [List.filterMap_append, List.filterMap_cons, ho] at hk
      exact hk)
    rw [← List.filterMap_append] at hf
    simp only [dopsK] at hf
    unfold wpOp
    simp only [ho]
    have hmem : ∀ j, j ∈ A ++ B ↔ j ∈ A ++ i :: B ∧ j ≠ i := by
      intro j
      simp only [List.mem_append, List.mem_cons]
      constructor
      · rintro (h | h)
        · have := hA j h
          exact ⟨.inl h, by omega⟩
        · have := hB j h
          exact ⟨.inr (.inr h), by omega⟩
      · rintro ⟨h | h | h, hne⟩
        · exact .inl h
        · exact absurd h hne
        · exact .inr h
    obtain ⟨s1, hf1, hst, hfr⟩ := stepG (f0 := fr) (mv_not fr ops[i]) hf
    have hf' : opG T E ops.toList (mv fr ops[i]) s (fun s' => open Classical in if s' = s1 then some r else none) = some r := by
      rw [hst]
      simp
    have step := opG_sound hT hE (ops := ops) (o := mv fr ops[i]) (Q := Q) (next := wpAny P .any ops Q fuel (listed.setIfInBounds i true)) h hf' (fun γ' w' s' a' h' hk'' => by
      have hs1 : s' = s1 := by
        by_cases he : s' = s1
        · exact he
        · simp [he] at hk''
      subst hs1
      have hk' := hf1
      split at hk'
      · rename_i hcl
        refine ih (A ++ B) _ γ' w' s' a' (by simp at hlen ⊢; omega) ?_ ?_ ?_ ?_ ?_ h' hk'
        · exact hp.sublist (by simp)
        · exact fun j hj => hlt j ((hmem j).1 hj).1
        · intro j hj
          by_cases hji : i = j
          · subst hji
            have : i < listed.size := by
              have := hl i hj
              exact (Array.getElem?_eq_some_iff.1 this).1
            rw [Array.getElem?_setIfInBounds_self_of_lt this]
            congr 1
            simp only [hmem]
            simp
          · rw [Array.getElem?_setIfInBounds_ne hji, hl j hj]
            congr 1
            have := hmem j
            simp only [this, Ne.symm hji, ne_eq, not_false_eq_true, and_true]
        · intro j o ho' hj e he hb hin
          by_cases hji : j = i
          · subst hji
            exact hpre o ho' e he hb ((hmem _).1 hin).1
          · exact hdown j o ho' (fun h => hj ((hmem j).2 ⟨h, hji⟩)) e he hb ((hmem _).1 hin).1
        · exact hfr hs (by rw [mv_dst]; exact hcl)
      · simp at hk')
    have hw : Region.wanted (mv fr ops[i]) = Region.wanted ops[i] := by
      funext y
      simp only [Region.wanted, mv_guard]
    have hwp : ∀ K, (mv fr ops[i]).wp P a w K Q = ops[i].wp P a w K Q := fun K => by
      simp only [Oper.wp, mv_exec]
      unfold Oper.upon
      simp only [mv_dst]
    have hask : (mv fr ops[i]).asks P a w = ops[i].asks P a w := by
      simp only [Oper.asks, mv_exec]
    rw [hw, hwp, hask, mv_dst] at step
    exact step

theorem draw_sound {id : Nat} {fr : List Nat} {R : Type} {N X : Mut} {w0 w : World} {γ : Gam} {s : St} {a : Act} {Q : Exit → Act → World → Prop} {κ : St → Option R} {r : R}
    (hd : drawOk fr ops = true) (hn : ∀ γ' w' s' a', SR T N w0 X γ' w' s' a' → κ s' = some r → Q .normal a' w') (h : SR T N w0 X γ w s a) (hk : drawK T E fr ops s κ = some r) : (Code.region id ops true).wp P Q a w := by
  unfold drawK at hk
  split at hk
  · rename_i hf
    have hall : (List.range ops.size).filterMap (ops[·]?) = ops.toList := by
      apply List.ext_getElem?
      intro k
      have : (List.range ops.size).filterMap (ops[·]?) = (List.range ops.size).filterMap (fun i => ops.toList[i]?) := by simp
      rw [this]
      have h2 : ∀ (l : List Oper), (List.range l.length).filterMap (fun i => l[i]?) = l := by
        intro l
        induction l with
        | nil => rfl
        | cons x l ih =>
          rw [List.length_cons, List.range_succ_eq_map, List.filterMap_cons]
          simp only [List.getElem?_cons_zero, List.filterMap_map, Function.comp_def, List.getElem?_cons_succ]
          rw [ih]
      rw [← Array.length_toList, h2]
    refine wp_region_any hT.mixed (any_sound hT hE hd hn ops.size (List.range ops.size) _ γ _ s a (by simp) List.pairwise_lt_range (by simp) ?_ ?_ ?_ (h.world (Chg.drew w)) (by rw [hall]; exact hk))
    · intro j hj
      simp [hj]
    · intro j o ho hj
      have := (Array.getElem?_eq_some_iff.1 ho).1
      simp [this] at hj
    · intro d hd
      simpa using (List.all_eq_true.1 hf) d hd
  · simp at hk
end
end
end Go.Ab
