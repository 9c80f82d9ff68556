/- One text of a proof that a law of this seat says true for every input: an evaluator of code over data, and that it tells the truth. It holds of the given program under the conditions that the row prints. -/
import Derived.Test.YtnpbeikcgagacaaGreatDoorAbB
set_option linter.unusedSimpArgs false
set_option linter.unusedVariables false
set_option linter.unusedSectionVars false
namespace Go.Ab

/-! # What an operation gives hangs on what it looks at -/

/-! ### what an operation looks at -/
mutual
theorem data_free {o o' : Obs} : ∀ x : AV, x.ids = [] → x.data o' = x.data o
  | .d x, _ => by simp only [AV.data]
  | .own k, h => by simp [AV.ids] at h
  | .tight n xs, _ => by simp only [AV.data]
  | .ref id off, h => by simp [AV.ids] at h
  | .agg cs, h => by simp only [AV.ids] at h; simp only [AV.data, datas_free (o := o) (o' := o') cs h]
  | .tup cs, _ => by simp only [AV.data]
  | .clo f as bs, h => by
    simp only [AV.ids, List.append_eq_nil_iff] at h
    simp only [AV.data, datas_free (o := o) (o' := o') as h.1, datas_free (o := o) (o' := o') bs h.2]
  | .undef, _ => by simp only [AV.data]
theorem datas_free {o o' : Obs} : ∀ xs : List AV, idsL xs = [] → datas o' xs = datas o xs
  | [], _ => by simp only [datas]
  | x :: xs, h => by
    simp only [idsL, List.append_eq_nil_iff] at h
    simp only [datas, data_free (o := o) (o' := o') x h.1, datas_free (o := o) (o' := o') xs h.2]
end
mutual
theorem sub_free {fo : Id → AV} {fr : Id → Nat → AV} : ∀ x : AV, x.ids = [] → x.sub fo fr = x
  | .d x, _ => rfl
  | .own k, h => by simp [AV.ids] at h
  | .tight n xs, _ => rfl
  | .ref id off, h => by simp [AV.ids] at h
  | .agg cs, h => by simp only [AV.ids] at h; simp only [AV.sub, subL_free cs h]
  | .tup cs, h => by simp only [AV.ids] at h; simp only [AV.sub, subL_free cs h]
  | .clo f as bs, h => by
    simp only [AV.ids, List.append_eq_nil_iff] at h
    simp only [AV.sub, subL_free as h.1, subL_free bs h.2]
  | .undef, _ => rfl
theorem subL_free {fo : Id → AV} {fr : Id → Nat → AV} : ∀ xs : List AV, idsL xs = [] → subL fo fr xs = xs
  | [], _ => rfl
  | x :: xs, h => by
    simp only [idsL, List.append_eq_nil_iff] at h
    simp only [subL, sub_free x h.1, subL_free xs h.2]
end
theorem subL_setf {fo : Id → AV} {fr : Id → Nat → AV} {v : AV} (hv : v.ids = []) : ∀ (xs : List AV) (d : Nat), subL fo fr (xs.set d v) = (subL fo fr xs).set d v
  | [], d => rfl
  | x :: xs, 0 => by simp only [List.set_cons_zero, subL, sub_free v hv]
  | x :: xs, d + 1 => by simp only [List.set_cons_succ, subL, subL_setf hv xs d]
theorem subL_get {fo : Id → AV} {fr : Id → Nat → AV} : ∀ (xs : List AV) (d : Nat) (x : AV), xs[d]? = some x → x.ids = [] → (subL fo fr xs)[d]? = some x
  | [], d, x, h, _ => by simp at h
  | y :: xs, 0, x, h, hx => by
    simp at h
    subst h
    simp only [subL, List.getElem?_cons_zero, sub_free y hx]
  | y :: xs, d + 1, x, h, hx => by
    simp only [subL, List.getElem?_cons_succ] at h ⊢
    exact subL_get xs d x h hx

mutual
theorem data_lk {o o' : Obs} : ∀ x : AV, (∀ id ∈ x.ids, lookup id o' = lookup id o) → x.data o' = x.data o
  | .d x, _ => rfl
  | .own k, h => by simp only [AV.data, h k (by simp [AV.ids])]
  | .tight n xs, _ => rfl
  | .ref id off, _ => rfl
  | .elt id i off, _ => rfl
  | .agg cs, h => by simp only [AV.data, datas_lk cs (by simpa only [AV.ids] using h)]
  | .tup cs, _ => rfl
  | .clo f as bs, h => by
    simp only [AV.ids, List.mem_append] at h
    simp only [AV.data, datas_lk as fun id hi => h id (.inl hi), datas_lk bs fun id hi => h id (.inr hi)]
  | .undef, _ => rfl
theorem datas_lk {o o' : Obs} : ∀ xs : List AV, (∀ id ∈ idsL xs, lookup id o' = lookup id o) → datas o' xs = datas o xs
  | [], _ => rfl
  | x :: xs, h => by
    simp only [idsL, List.mem_append] at h
    simp only [datas, data_lk x fun id hi => h id (.inl hi), datas_lk xs fun id hi => h id (.inr hi)]
end
/-- Both states say the same to an operation. -/
structure Alike (T : Ctx) (op : Oper) (s s' : St) : Prop where
  get : ∀ x ∈ op.op.operands.toList, s'.get T x = s.get T x
  data : ∀ x ∈ op.op.operands.toList, (s'.get T x).data s'.o = (s.get T x).data s.o
  o : ∀ x ∈ op.op.operands.toList, ∀ id ∈ (s.get T x).ids, lookup id s'.o = lookup id s.o

theorem nilfix_ids {T : Ctx} {t : TypeId} {x : AV} (h : x.ids = []) : (nilfix T t x).ids = [] := by
  unfold nilfix
  split
  · split <;> simp [AV.ids]
  · exact h
theorem datas_same {o o' : Obs} : ∀ xs : List AV, (∀ x ∈ xs, x.data o' = x.data o) → datas o' xs = datas o xs
  | [], _ => rfl
  | x :: xs, h => by
    simp only [datas, h x (by simp), datas_same xs fun y hy => h y (by simp [hy])]
theorem nilfix_data {T : Ctx} {t : TypeId} {x : AV} {o o' : Obs} (h : x.data o' = x.data o) : (nilfix T t x).data o' = (nilfix T t x).data o := by
  unfold nilfix
  split
  · split <;> simp [AV.data]
  · exact h

section
variable {T : Ctx} {E : Abs}

theorem buildK_same {s s' : St} {fs : List (TypeId × Nat)} : ∀ (ps : List (Nat × Operand)) (cs : List AV), (∀ p ∈ ps, s'.get T p.2 = s.get T p.2) → opK.buildK T s' fs ps cs = opK.buildK T s fs ps cs
  | [], cs, _ => by simp only [opK.buildK]
  | (i, x) :: r, cs, h => by
    simp only [opK.buildK, h (i, x) (by simp)]
    split
    · split
      · split
        · exact buildK_same r _ fun p hp => h p (by simp [hp])
        · rfl
      · rfl
    · rfl

/-- What the operation gives hangs on what it looks at, and it only puts. -/
def Val (T : Ctx) (E : Abs) (op : Oper) : Prop :=
  ∀ {R : Type} {s : St} {κ : St → Option R} {r : R}, opK T E op s κ = some r → ∃ v, κ (s.put op.dst v) = some r ∧
    ∀ {R' : Type} (s' : St) (κ' : St → Option R'), Alike T op s s' → opK T E op s' κ' = κ' (s'.put op.dst v)

theorem val_move {op : Oper} {x : Operand} (ho : op.op = .move x) : Val T E op := by
  intro R s κ r hk
  simp only [opK, ho] at hk
  exact ⟨_, hk, fun s' κ' h => by simp only [opK, ho, h.get x (by simp [ho, Op.operands])]⟩
theorem val_pick {op : Oper} {c x y : Operand} (ho : op.op = .pick c x y) : Val T E op := by
  intro R s κ r hk
  simp only [opK, ho] at hk
  split at hk
  · rename_i t hc
    cases t with
    | true => exact ⟨_, hk, fun s' κ' h => by simp only [opK, ho, h.get c (by simp [ho, Op.operands]), h.get x (by simp [ho, Op.operands]), hc]⟩
    | false => exact ⟨_, hk, fun s' κ' h => by simp only [opK, ho, h.get c (by simp [ho, Op.operands]), h.get y (by simp [ho, Op.operands]), hc]⟩
  · simp at hk
theorem val_unOp {op : Oper} {u : UnOp} {t : TypeId} {x : Operand} (ho : op.op = .unOp u t x) : Val T E op := by
  intro R s κ r hk
  simp only [opK, ho] at hk
  split at hk
  · rename_i b hc
    split at hk
    · exact ⟨_, hk, fun s' κ' h => by simp only [opK, ho, h.get x (by simp [ho, Op.operands]), hc]⟩
    · simp at hk
  · rename_i k n hc
    split at hk
    · exact ⟨_, hk, fun s' κ' h => by simp only [opK, ho, h.get x (by simp [ho, Op.operands]), hc]⟩
    · simp at hk
  · simp at hk
theorem val_binOp {op : Oper} {b : BinOp} {t t' : TypeId} {x y : Operand} (ho : op.op = .binOp b t x y t') : Val T E op := by
  intro R s κ r hk
  simp only [opK, ho] at hk
  have hx : x ∈ op.op.operands.toList := by simp [ho, Op.operands]
  have hy : y ∈ op.op.operands.toList := by simp [ho, Op.operands]
  split at hk
  · rename_i dx dy h1 h2
    split at hk
    · rename_i v hv
      exact ⟨_, hk, fun s' κ' h => by simp only [opK, ho, h.data x hx, h.data y hy, h1, h2, hv]⟩
    · simp at hk
  · rename_i h0
    split at hk
    · rename_i i1 i2 h1 h2
      split at hk
      · rename_i e he
        refine ⟨_, hk, fun s' κ' h => ?_⟩
        simp only [opK, ho, h.get x hx, h.get y hy, h1, h2, AV.data, he]
      · simp at hk
    · rename_i i1 i2 h1 h2
      split at hk
      · rename_i e he
        refine ⟨_, hk, fun s' κ' h => ?_⟩
        simp only [opK, ho, h.get x hx, h.get y hy, h1, h2, AV.data, he]
      · simp at hk
    · simp at hk
theorem val_convert {op : Oper} {t t' : TypeId} {x : Operand} (ho : op.op = .convert t t' x) : Val T E op := by
  intro R s κ r hk
  simp only [opK, ho] at hk
  have hx : x ∈ op.op.operands.toList := by simp [ho, Op.operands]
  split at hk
  · rename_i h1 h2 h3
    exact ⟨_, hk, fun s' κ' h => by simp only [opK, ho, h.data x hx, h1, h2, h3]⟩
  · rename_i h1 h2 h3
    exact ⟨_, hk, fun s' κ' h => by simp only [opK, ho, h.data x hx, h1, h2, h3]⟩
  · rename_i h1 h2 h3
    split at hk
    · rename_i h4
      split at hk
      · rename_i h5
        exact ⟨_, hk, fun s' κ' h => by simp only [opK, ho, h.data x hx, h1, h2, h3, h4, h5]⟩
      · simp at hk
    · simp at hk
  · simp at hk
theorem val_load {op : Oper} {t : TypeId} {x : Operand} (ho : op.op = .load t x) : Val T E op := by
  intro R s κ r hk
  simp only [opK, ho] at hk
  have hx : x ∈ op.op.operands.toList := by simp [ho, Op.operands]
  split at hk
  · rename_i id off h1
    split at hk
    · rename_i cs h2
      split at hk
      · rename_i h3
        refine ⟨_, hk, fun s' κ' h => ?_⟩
        have e := h.o x hx id (by simp [h1, AV.ids])
        simp only [opK, ho, h.get x hx, h1, e, h2, h3, and_self, if_true]
      · simp at hk
    · simp at hk
  · rename_i id i off h1
    split at hk
    · rename_i g n es h2
      split at hk
      · rename_i el h4
        split at hk
        · rename_i h3
          refine ⟨_, hk, fun s' κ' h => ?_⟩
          have e := h.o x hx id (by simp [h1, AV.ids])
          simp only [opK, ho, h.get x hx, h1, e, h2, h4, h3, and_self, if_true]
        · simp at hk
      · simp at hk
    · simp at hk
  · rename_i cs h1
    split at hk
    · rename_i h3
      exact ⟨_, hk, fun s' κ' h => by simp only [opK, ho, h.get x hx, h1, h3, and_self, if_true]⟩
    · simp at hk
  · simp at hk
theorem val_nilCheck {op : Oper} {x : Operand} (ho : op.op = .nilCheck x) : Val T E op := by
  intro R s κ r hk
  simp only [opK, ho] at hk
  have hx : x ∈ op.op.operands.toList := by simp [ho, Op.operands]
  split at hk
  · rename_i h1
    exact ⟨_, hk, fun s' κ' h => by simp only [opK, ho, h.get x hx, h1]⟩
  · rename_i h1
    exact ⟨_, hk, fun s' κ' h => by simp only [opK, ho, h.get x hx, h1]⟩
  · rename_i h1
    exact ⟨_, hk, fun s' κ' h => by simp only [opK, ho, h.get x hx, h1]⟩
  · simp at hk
theorem val_fieldAddr {op : Oper} {t : TypeId} {x : Operand} {i : Nat} (ho : op.op = .fieldAddr t x i) : Val T E op := by
  intro R s κ r hk
  simp only [opK, ho] at hk
  have hx : x ∈ op.op.operands.toList := by simp [ho, Op.operands]
  split at hk
  · rename_i fs h1
    split at hk
    · rename_i h2
      split at hk
      · rename_i h3
        exact ⟨_, hk, fun s' κ' h => by simp only [opK, ho, h.get x hx, h1, h2, h3]⟩
      · rename_i h3
        exact ⟨_, hk, fun s' κ' h => by simp only [opK, ho, h.get x hx, h1, h2, h3]⟩
      · rename_i h3
        split at hk
        · rename_i h4
          exact ⟨_, hk, fun s' κ' h => by simp only [opK, ho, h.get x hx, h1, h2, h3, h4, if_true]⟩
        · simp at hk
      · simp at hk
    · simp at hk
  · simp at hk
theorem val_field {op : Oper} {t : TypeId} {x : Operand} {i : Nat} (ho : op.op = .field t x i) : Val T E op := by
  intro R s κ r hk
  simp only [opK, ho] at hk
  have hx : x ∈ op.op.operands.toList := by simp [ho, Op.operands]
  split at hk
  · rename_i fs h1
    split at hk
    · rename_i h2
      split at hk
      · rename_i h3
        split at hk
        · rename_i h4
          exact ⟨_, hk, fun s' κ' h => by simp only [opK, ho, h.data x hx, h1, h2, h3, h4, and_self, if_true]⟩
        · simp at hk
      · simp at hk
      · rename_i h3
        split at hk
        · rename_i h5
          split at hk
          · rename_i h4
            refine ⟨_, hk, fun s' κ' h => ?_⟩
            have e5 := h.get x hx
            have e3 := h.data x hx
            rw [h5] at e5
            rw [h3, e5] at e3
            simp only [opK, ho, h1, h2, e5, e3]
            rw [if_pos h4]
          · simp at hk
        · simp at hk
    · simp at hk
  · simp at hk
theorem val_indexAddr {op : Oper} {t : TypeId} {x i : Operand} (ho : op.op = .indexAddr t x i) : Val T E op := by
  intro R s κ r hk
  simp only [opK, ho, atK] at hk
  have hx : x ∈ op.op.operands.toList := by simp [ho, Op.operands]
  have hi : i ∈ op.op.operands.toList := by simp [ho, Op.operands]
  split at hk
  · rename_i h1 h2 h3
    split at hk
    · rename_i h4
      split at hk
      · rename_i h5
        split at hk
        · rename_i h6
          exact ⟨_, hk, fun s' κ' h => by simp only [opK, ho, atK, h.data x hx, h.get i hi, h1, h2, h3, if_pos h4, if_pos h5, h6]⟩
        · simp at hk
      · simp at hk
    · simp at hk
  · rename_i h1 h2 h3
    split at hk
    · rename_i k h4
      split at hk
      · rename_i g n es h5
        split at hk
        · rename_i h6
          split at hk
          · rename_i h7
            split at hk
            · rename_i h8
              refine ⟨_, hk, fun s' κ' h => ?_⟩
              rw [h4] at h2
              have e := h.o x hx k (by simp [h4, AV.ids])
              have h2' : (AV.own k).data s'.o = none := (data_lk (.own k) fun id hi => by simp only [AV.ids, List.mem_singleton] at hi; rw [hi, e]).trans h2
              simp only [opK, ho, atK, e, h.get x hx, h.get i hi, h1, h4, h2', h3, h5, if_pos h6, if_pos h7, h8]
            · simp at hk
          · simp at hk
        · simp at hk
      · simp at hk
    · simp at hk
  · rename_i h1 h2 h3
    split at hk
    · rename_i h4
      exact ⟨_, hk, fun s' κ' h => by simp only [opK, ho, h.data x hx, h.get i hi, h1, h2, h3, if_pos h4]⟩
    · simp at hk
  · simp at hk
theorem val_index {op : Oper} {t : TypeId} {x i : Operand} (ho : op.op = .index t x i) : Val T E op := by
  intro R s κ r hk
  simp only [opK, ho, atK] at hk
  have hx : x ∈ op.op.operands.toList := by simp [ho, Op.operands]
  have hi : i ∈ op.op.operands.toList := by simp [ho, Op.operands]
  split at hk
  · rename_i h1 h2 h3
    split at hk
    · rename_i h5
      split at hk
      · rename_i h6
        exact ⟨_, hk, fun s' κ' h => by simp only [opK, ho, atK, h.get x hx, h.get i hi, h1, h2, h3, if_pos h5, h6]⟩
      · simp at hk
    · simp at hk
  · simp at hk
theorem boundK_same {R R' : Type} {s s' : St} {x : Option Operand} {n : Int} {κ : Int → Option R} {r : R} (h : boundK T s x n κ = some r) (hs : ∀ y, x = some y → s'.get T y = s.get T y) :
    ∃ i, κ i = some r ∧ ∀ κ' : Int → Option R', boundK T s' x n κ' = κ' i := by
  unfold boundK at h
  split at h
  · exact ⟨_, h, fun κ' => rfl⟩
  · rename_i y
    split at h
    · rename_i h1
      exact ⟨_, h, fun κ' => by simp only [boundK, hs y rfl, h1]⟩
    · simp at h
theorem boundK_one {R : Type} {s : St} {x : Option Operand} {n : Int} {κ : Int → Option R} {r : R} (h : boundK T s x n κ = some r) :
    ∃ i, κ i = some r ∧ ∀ {R' : Type} (s' : St) (κ' : Int → Option R'), (∀ y, x = some y → s'.get T y = s.get T y) → boundK T s' x n κ' = κ' i := by
  unfold boundK at h
  split at h
  · exact ⟨_, h, fun s' κ' _ => rfl⟩
  · rename_i y
    split at h
    · rename_i h1
      exact ⟨_, h, fun s' κ' hs => by simp only [boundK, hs y rfl, h1]⟩
    · simp at h
theorem val_slice {op : Oper} {t : TypeId} {x : Operand} {lo hi mx : Option Operand} (ho : op.op = .slice t x lo hi mx) (hice : op.type = iceMark) : Val T E op := by
  have hsh : ∀ s, shiftId T op hi s x = none := fun s => by simp [shiftId, hice]
  intro R s κ r hk
  simp only [opK, ho, cutK, hsh] at hk
  have hx : x ∈ op.op.operands.toList := by simp [ho, Op.operands]
  have hlo : ∀ y, lo = some y → y ∈ op.op.operands.toList := by rintro y rfl; simp [ho, Op.operands]
  have hhi : ∀ y, hi = some y → y ∈ op.op.operands.toList := by rintro y rfl; simp [ho, Op.operands]
  split at hk
  · rename_i h1 h2
    obtain ⟨i, hk, hi'⟩ := boundK_one hk
    obtain ⟨j, hk, hj'⟩ := boundK_one hk
    split at hk
    · rename_i h4
      exact ⟨_, hk, fun s' κ' h => by simp only [opK, ho, cutK, hsh, h.data x hx, h1, h2, hi' s' _ fun y e => h.get y (hlo y e), hj' s' _ fun y e => h.get y (hhi y e), if_pos h4]⟩
    · simp at hk
  · rename_i h1 h2
    split at hk
    · rename_i hn
      obtain ⟨i, hk, hi'⟩ := boundK_one hk
      obtain ⟨j, hk, hj'⟩ := boundK_one hk
      split at hk
      · rename_i h4
        exact ⟨_, hk, fun s' κ' h => by simp only [opK, ho, cutK, hsh, h.data x hx, h1, h2, if_pos hn, hi' s' _ fun y e => h.get y (hlo y e), hj' s' _ fun y e => h.get y (hhi y e), if_pos h4]⟩
      · simp at hk
    · simp at hk
  · rename_i mxo h1 h2
    have hmo : mxo ∈ op.op.operands.toList := by simp [ho, Op.operands]
    split at hk
    · rename_i hn
      obtain ⟨i, hk, hi'⟩ := boundK_one hk
      obtain ⟨j, hk, hj'⟩ := boundK_one hk
      obtain ⟨m, hk, hm'⟩ := boundK_one hk
      split at hk
      · rename_i hmj
        split at hk
        · rename_i h4
          exact ⟨_, hk, fun s' κ' h => by simp only [opK, ho, cutK, hsh, h.data x hx, h1, h2, if_pos hn, hi' s' _ fun y e => h.get y (hlo y e), hj' s' _ fun y e => h.get y (hhi y e), hm' s' _ fun y e => (by injection e with e; subst e; exact h.get _ hmo), if_pos hmj, if_pos h4]⟩
        · simp at hk
      · simp at hk
    · simp at hk
  · simp at hk
theorem val_build {op : Oper} {t : TypeId} {ps : Array (Nat × Operand)} (ho : op.op = .build t ps) : Val T E op := by
  intro R s κ r hk
  simp only [opK, ho] at hk
  split at hk
  · rename_i fs h1
    split at hk
    · rename_i cs h2
      refine ⟨_, hk, fun s' κ' h => ?_⟩
      simp only [opK, ho, h1]
      rw [buildK_same (s := s) ps.toList _ fun p hp => h.get p.2 (by simpa [ho, Op.operands] using ⟨_, by simpa using hp⟩), h2]
    · simp at hk
  · simp at hk
theorem val_typeAssert {op : Oper} {x : Operand} {t t' : TypeId} {c : Bool} (ho : op.op = .typeAssert x t' t c) : Val T E op := by
  intro R s κ r hk
  have hx : x ∈ op.op.operands.toList := by simp [ho, Op.operands]
  simp only [opK, ho] at hk
  split at hk
  · rename_i v hv
    refine ⟨_, hk, fun s' κ' h => ?_⟩
    simp only [opK, ho, h.get x hx, hv]
  · simp at hk

theorem val_extract {op : Oper} {x : Operand} {i : Nat} (ho : op.op = .extract x i) : Val T E op := by
  intro R s κ r hk
  simp only [opK, ho] at hk
  have hx : x ∈ op.op.operands.toList := by simp [ho, Op.operands]
  split at hk
  · rename_i h1
    split at hk
    · rename_i h2
      exact ⟨_, hk, fun s' κ' h => by simp only [opK, ho, h.get x hx, h1, h2]⟩
    · simp at hk
  · simp at hk
theorem val_makeFunc {op : Oper} {f : Fn} {as bs : Array Operand} (ho : op.op = .makeFunc f as bs) : Val T E op := by
  intro R s κ r hk
  simp only [opK, ho] at hk
  refine ⟨_, hk, fun s' κ' h => ?_⟩
  have h1 : as.toList.map (s'.get T) = as.toList.map (s.get T) := List.map_congr_left fun x hx => h.get x (by simpa [ho, Op.operands] using .inl (by simpa using hx))
  have h2 : bs.toList.map (s'.get T) = bs.toList.map (s.get T) := List.map_congr_left fun x hx => h.get x (by simpa [ho, Op.operands] using .inr (by simpa using hx))
  simp only [opK, ho, h1, h2]
theorem zip_same {s s' : St} : ∀ (xs : List Operand) (ts : List TypeId), (∀ x ∈ xs, s'.get T x = s.get T x) → (xs.zip ts).map (fun p => nilfix T p.2 (s'.get T p.1)) = (xs.zip ts).map (fun p => nilfix T p.2 (s.get T p.1))
  | [], ts, _ => by simp
  | x :: xs, [], _ => by simp
  | x :: xs, t :: ts, h => by simp only [List.zip_cons_cons, List.map_cons, h x (by simp), zip_same xs ts fun y hy => h y (by simp [hy])]
theorem zip_data {s : St} {o o' : Obs} : ∀ (xs : List Operand) (ts : List TypeId), (∀ x ∈ xs, (s.get T x).data o' = (s.get T x).data o) → datas o' ((xs.zip ts).map (fun p => nilfix T p.2 (s.get T p.1))) = datas o ((xs.zip ts).map (fun p => nilfix T p.2 (s.get T p.1)))
  | [], ts, _ => by simp [datas]
  | x :: xs, [], _ => by simp [datas]
  | x :: xs, t :: ts, h => by simp only [List.zip_cons_cons, List.map_cons, datas, nilfix_data (h x (by simp)), zip_data xs ts fun y hy => h y (by simp [hy])]
theorem val_call {op : Oper} {c : Call} (ho : op.op = .call c) (hc : ∀ b, c.callee = .builtin b → b ≠ .append ∧ b ≠ .delete) (hv : ∀ x, c.callee = .value x → ∃ g, x = .func g ∧ T.gf g = false) : Val T E op := by
  intro R s κ r hk
  simp only [opK, ho] at hk
  split at hk
  · rename_i b hb
    split at hk
    · rename_i x t hx ht
      have hx' : x ∈ op.op.operands.toList := by simp [ho, Op.operands, Call.operands, hb, hx]
      split at hk
      · rename_i h1 h2
        exact ⟨_, hk, fun s' κ' h => by simp only [opK, ho, hb, hx, ht, h.data x hx', h1, h2]⟩
      · rename_i h1 h2
        exact ⟨_, hk, fun s' κ' h => by simp only [opK, ho, hb, hx, ht, h.data x hx', h1, h2]⟩
      · rename_i h1 h2
        split at hk
        · rename_i k h4
          split at hk
          · rename_i g n es h5
            refine ⟨_, hk, fun s' κ' h => ?_⟩
            rw [h4] at h2
            have e := h.o x hx' k (by simp [h4, AV.ids])
            have h2' : (AV.own k).data s'.o = none := (data_lk (.own k) fun id hi => by simp only [AV.ids, List.mem_singleton] at hi; rw [hi, e]).trans h2
            simp only [opK, ho, hb, hx, ht, e, h.get x hx', h1, h4, h2', h5]
          · simp at hk
        · simp at hk
      · rename_i h1 h2
        exact ⟨_, hk, fun s' κ' h => by simp only [opK, ho, hb, hx, ht, h.data x hx', h1, h2]⟩
      · rename_i h1 h2
        split at hk
        · rename_i k h4
          split at hk
          · rename_i es h5
            refine ⟨_, hk, fun s' κ' h => ?_⟩
            rw [h4] at h2
            have e := h.o x hx' k (by simp [h4, AV.ids])
            have h2' : (AV.own k).data s'.o = none := (data_lk (.own k) fun id hi => by simp only [AV.ids, List.mem_singleton] at hi; rw [hi, e]).trans h2
            simp only [opK, ho, hb, hx, ht, e, h.get x hx', h1, h4, h2', h5]
          · simp at hk
        · simp at hk
      · simp at hk
    · rename_i x y t t' hx ht
      have hx' : x ∈ op.op.operands.toList := by simp [ho, Op.operands, Call.operands, hb, hx]
      have hy' : y ∈ op.op.operands.toList := by simp [ho, Op.operands, Call.operands, hb, hx]
      split at hk
      · rename_i h1 h2
        exact ⟨_, hk, fun s' κ' h => by simp only [opK, ho, hb, hx, ht, h.get x hx', h.get y hy', h1, h2]⟩
      · simp at hk
    · rename_i x y t t' hx ht
      have hx' : x ∈ op.op.operands.toList := by simp [ho, Op.operands, Call.operands, hb, hx]
      have hy' : y ∈ op.op.operands.toList := by simp [ho, Op.operands, Call.operands, hb, hx]
      split at hk
      · rename_i h1 h2
        exact ⟨_, hk, fun s' κ' h => by simp only [opK, ho, hb, hx, ht, h.get x hx', h.get y hy', h1, h2]⟩
      · simp at hk
    · exact absurd rfl (hc _ hb).2
    · exact absurd rfl (hc _ hb).1
    · simp at hk
  · rename_i f hf
    have hf' : f ∈ op.op.operands.toList := by simp [ho, Op.operands, Call.operands, hf]
    have ha' : ∀ x ∈ c.args.toList, x ∈ op.op.operands.toList := fun x hx => by simp [ho, Op.operands, Call.operands, hf]; exact .inr (by simpa using hx)
    have e0 : ∀ s : St, gfOf T (s.get T f) = none := fun s => by
      obtain ⟨g, rfl, hg⟩ := hv f hf
      simp [St.get, gfOf, hg]
    rw [e0] at hk
    simp only at hk
    split at hk
    · rename_i h1 h2
      split at hk
      · rename_i h3
        split at hk
        · rename_i h4
          refine ⟨_, hk, fun s' κ' h => ?_⟩
          have e1 := zip_same (T := T) c.args.toList c.argTypes.toList fun x hx => h.get x (ha' x hx)
          have e2 := zip_data (T := T) (s := s) (o := s.o) (o' := s'.o) c.args.toList c.argTypes.toList fun x hx => by rw [← h.data x (ha' x hx), h.get x (ha' x hx)]
          simp only [opK, ho, hf, e0, h.data f hf', e1, e2, h1, h2, if_pos h3, h4]
        · simp at hk
      · simp at hk
    · simp at hk
  · rename_i f name hf
    have hf' : f ∈ op.op.operands.toList := by simp [ho, Op.operands, Call.operands, hf]
    have ha' : ∀ x ∈ c.args.toList, x ∈ op.op.operands.toList := fun x hx => by simp [ho, Op.operands, Call.operands, hf]; exact .inr (by simpa using hx)
    split at hk
    · rename_i h1 h2
      split at hk
      · rename_i h3
        split at hk
        · rename_i h5
          split at hk
          · rename_i h4
            refine ⟨_, hk, fun s' κ' h => ?_⟩
            have e1 := zip_same (T := T) c.args.toList c.argTypes.toList fun x hx => h.get x (ha' x hx)
            have e2 := zip_data (T := T) (s := s) (o := s.o) (o' := s'.o) c.args.toList c.argTypes.toList fun x hx => by rw [← h.data x (ha' x hx), h.get x (ha' x hx)]
            simp only [opK, ho, hf, h.get f hf', e1, e2, h1, h2, if_pos h3, h4, h5]
          · simp at hk
        · simp at hk
      · simp at hk
    · simp at hk
theorem val_makeInterface {op : Oper} {t : TypeId} {x : Operand} (ho : op.op = .makeInterface t x) : ∀ {R : Type} {s : St} {κ : St → Option R} {r : R}, (s.get T x).ids = [] → opK T E op s κ = some r → ∃ v, κ (s.put op.dst v) = some r ∧
    ∀ {R' : Type} (s' : St) (κ' : St → Option R'), Alike T op s s' → opK T E op s' κ' = κ' (s'.put op.dst v) := by
  intro R s κ r hid hk
  simp only [opK, ho] at hk
  have hx : x ∈ op.op.operands.toList := by simp [ho, Op.operands]
  split at hk
  · simp at hk
  · simp at hk
  · rename_i h1 h2
    split at hk
    · rename_i d hd
      refine ⟨_, hk, fun s' κ' h => ?_⟩
      have e : (nilfix T t (s'.get T x)).data s'.o = some d := by
        rw [h.get x hx, nilfix_data (o := s.o) (by rw [← h.data x hx, h.get x hx]), hd]
      simp only [opK, ho, e]
    · split at hk
      · rename_i h3
        simp [h3, AV.ids] at hid
      · simp at hk
theorem val_buildSlice {op : Oper} {t : TypeId} {n : Nat} {ps : Array (Nat × Operand)} (ho : op.op = .buildSlice t (n + 1) ps) (hi : op.type = iceMark) : Val T E op := by
  intro R s κ r hk
  have hb : bldW T op = none := by unfold bldW; split <;> simp [hi]
  simp only [opK, ho, hb] at hk
  have hp : ∀ p ∈ ps.toList, p.2 ∈ op.op.operands.toList := fun p hp => by simpa [ho, Op.operands] using ⟨_, by simpa using hp⟩
  split at hk
  · rename_i e h1
    split at hk
    · rename_i xs h2
      split at hk
      · rename_i h3
        split at hk
        · rename_i h4
          refine ⟨_, hk, fun s' κ' h => ?_⟩
          have e1 : ps.toList.map (fun p => nilfix T e (s'.get T p.2)) = ps.toList.map (fun p => nilfix T e (s.get T p.2)) := List.map_congr_left fun p hq => by rw [h.get _ (hp p hq)]
          have e2 : datas s'.o (ps.toList.map (fun p => nilfix T e (s.get T p.2))) = datas s.o (ps.toList.map (fun p => nilfix T e (s.get T p.2))) := datas_same _ fun y hy => by
            obtain ⟨p, hq, rfl⟩ := List.mem_map.1 hy
            exact nilfix_data (by rw [← h.data _ (hp p hq), h.get _ (hp p hq)])
          simp only [opK, ho, h1, e1, e2, h2, hb, if_pos h3, if_pos h4]
        · simp at hk
      · simp at hk
    · simp at hk
  · simp at hk

theorem cells_ids {x : AV} {cs : List AV} (hx : x.ids = []) (h : x.cells = some cs) : idsL cs = [] := by
  have hd : ∀ ds : List D, idsL (ds.map .d) = [] := by
    intro ds
    induction ds with
    | nil => rfl
    | cons d ds ih => simp only [List.map_cons, idsL, AV.ids, ih, List.append_nil]
  unfold AV.cells at h
  split at h
  · rename_i as
    split at h
    · simp only [Option.some.injEq] at h
      subst h
      simpa only [AV.ids] using hx
    · simp at h
  · split at h
    · simp only [Option.some.injEq] at h
      subst h
      exact hd _
    · simp at h
  · split at h
    · simp only [Option.some.injEq] at h
      subst h
      simp only [idsL, hx, List.append_nil]
    · simp at h
theorem cells_sub {x : AV} {cs : List AV} (h : x.cells = some cs) {id : Id} (hi : id ∈ idsL cs) : id ∈ x.ids := by
  have hd : ∀ ds : List D, idsL (ds.map .d) = [] := by
    intro ds
    induction ds with
    | nil => rfl
    | cons d ds ih => simp only [List.map_cons, idsL, AV.ids, ih, List.append_nil]
  unfold AV.cells at h
  split at h
  · rename_i as
    split at h
    · simp only [Option.some.injEq] at h
      subst h
      simpa only [AV.ids] using hi
    · simp at h
  · split at h
    · simp only [Option.some.injEq] at h
      subst h
      rw [hd] at hi
      simp at hi
    · simp at h
  · split at h
    · simp only [Option.some.injEq] at h
      subst h
      simpa only [idsL, List.append_nil] using hi
    · simp at h
theorem nilfix_sub {T : Ctx} {t : TypeId} {x : AV} {id : Id} (h : id ∈ (nilfix T t x).ids) : id ∈ x.ids := by
  unfold nilfix at h
  split at h
  · split at h <;> simp [AV.ids] at h
  · exact h
theorem val_box {op : Oper} {t : TypeId} {x : Operand} (ho : op.op = .box t x) (hi : op.type = iceMark) : Val T E op := by
  intro R s κ r hk
  have hx : x ∈ op.op.operands.toList := by simp [ho, Op.operands]
  simp only [opK, ho, if_pos (Or.inl hi : op.type = iceMark ∨ T.wr (5000000 + op.dst.getD 0) = true)] at hk
  split at hk
  · rename_i cs h1
    split at hk
    · rename_i ds h2
      split at hk
      · rename_i h3
        refine ⟨_, hk, fun s' κ' h => ?_⟩
        have e : datas s'.o cs = datas s.o cs := by
          refine datas_lk cs fun id hi => h.o x hx id ?_
          exact nilfix_sub (cells_sub h1 hi)
        simp only [opK, ho, if_pos (Or.inl hi : op.type = iceMark ∨ T.wr (5000000 + op.dst.getD 0) = true), h.get x hx, h1, e, h2, if_pos h3]
      · simp at hk
    · simp at hk
  · simp at hk

theorem val_lookup {op : Oper} {t : TypeId} {x i : Operand} {c : Bool} (ho : op.op = .lookup t x i c) : Val T E op := by
  intro R s κ r hk
  have hx' : x ∈ op.op.operands.toList := by simp [ho, Op.operands]
  have hi' : i ∈ op.op.operands.toList := by simp [ho, Op.operands]
  simp only [opK, ho] at hk
  split at hk
  · rename_i h1 h2
    split at hk
    · rename_i h3
      split at hk
      · rename_i id h4
        split at hk
        · rename_i es h5
          split at hk
          · rename_i h6
            refine ⟨_, hk, fun s' κ' h => ?_⟩
            have e := h.o x hx' id (by simp [h4, AV.ids])
            have h2' := (h.data i hi').trans h2
            simp only [opK, ho, h2', h.get x hx', h1, if_pos h3, h4, e, h5, h6]
          · rename_i h6
            refine ⟨_, hk, fun s' κ' h => ?_⟩
            have e := h.o x hx' id (by simp [h4, AV.ids])
            have h2' := (h.data i hi').trans h2
            simp only [opK, ho, h2', h.get x hx', h1, if_pos h3, h4, e, h5, h6]
          · simp at hk
        · simp at hk
      · rename_i h4
        refine ⟨_, hk, fun s' κ' h => ?_⟩
        simp only [opK, ho, h.data i hi', h.get x hx', h1, h2, if_pos h3, h4]
      · simp at hk
    · simp at hk
  · simp at hk
theorem val_op {op : Oper} {ops : Array Oper} {fr : List Nat} (hb : isB T.gf ops fr op = false) (hm : isMk op = false) (hna : ∀ x, op.op ≠ .assign x) : Val T E op := by
  intro R s κ r hk
  cases ho : op.op with
  | move x => exact val_move ho hk
  | pick c x y => exact val_pick ho hk
  | unOp u t x => exact val_unOp ho hk
  | binOp b t x y t' => exact val_binOp ho hk
  | convert t t' x => exact val_convert ho hk
  | load t x => exact val_load ho hk
  | nilCheck x => exact val_nilCheck ho hk
  | fieldAddr t x i => exact val_fieldAddr ho hk
  | field t x i => exact val_field ho hk
  | indexAddr t x i => exact val_indexAddr ho hk
  | index t x i => exact val_index ho hk
  | slice t x lo hi mx =>
    simp [isB, ho] at hb
    exact val_slice ho hb hk
  | build t ps => exact val_build ho hk
  | typeAssert x t' t c => exact val_typeAssert ho hk
  | extract x i => exact val_extract ho hk
  | makeFunc f as bs => exact val_makeFunc ho hk
  | lookup t x i c => exact val_lookup ho hk
  | makeMap t r => simp [isB, ho] at hb
  | mapUpdate t m k v => simp [isB, ho] at hb
  | insert t m k v => simp [isB, ho] at hb
  | makeSlice t l c => simp [isB, ho] at hb
  | makeInterface t x => simp [isMk, ho] at hm
  | alloc t => simp [isB, ho] at hb
  | box t x =>
    simp [isB, ho] at hb
    exact val_box ho hb hk
  | store t a x => simp [isB, ho] at hb
  | assign x => exact absurd ho (hna x)
  | buildSlice t n ps =>
    cases n with
    | zero => simp [isB, ho] at hb
    | succ n =>
      simp [isB, ho] at hb
      exact val_buildSlice ho hb hk
  | call c =>
    refine val_call ho (fun b e => ⟨fun he => ?_, fun he => ?_⟩) (fun x e => ?_) hk
    · subst he
      simp [isB, ho, e] at hb
    · subst he
      simp [isB, ho, e] at hb
    · cases x <;> simp [isB, ho, e] at hb
      exact ⟨_, rfl, hb⟩
  | _ => simp [opK, ho] at hk

/-- It turns objects, but not what is free of them. -/
structure Turn (T : Ctx) (E : Abs) (op : Oper) : Prop where
  step : ∀ {R : Type} {s : St} {κ : St → Option R} {r : R}, opK T E op s κ = some r → ∃ s', κ s' = some r ∧ (∀ {R' : Type} (κ' : St → Option R'), opK T E op s κ' = κ' s') ∧
    ∀ d x, op.dst ≠ some d → s.t[d]? = some x → x.ids = [] → s'.t[d]? = some x
  frame : ∀ {R : Type} (s : St) (κ : St → Option R) (d : Tmp) (v : AV), op.dst ≠ some d → v.ids = [] → .tmp d ∉ op.op.operands.toList →
    opK T E op (s.put (some d) v) κ = opK T E op s fun s' => κ (s'.put (some d) v)

theorem get_put {s : St} {d : Tmp} {v : AV} {x : Operand} (h : x ≠ .tmp d) : (s.put (some d) v).get T x = s.get T x := by
  cases x with
  | tmp t =>
    have hne : d ≠ t := fun e => h (by rw [e])
    simp only [St.put, St.get, List.getD_eq_getElem?_getD, List.getElem?_set_ne hne]
  | const v => rfl
  | global g => rfl
  | func f => rfl
theorem put_put {s : St} {d e : Tmp} {v u : AV} (h : d ≠ e) : (s.put (some d) v).put (some e) u = (s.put (some e) u).put (some d) v := by
  simp only [St.put, List.set_comm _ _ h]
theorem put_put' {s : St} {d : Tmp} {e : Option Tmp} {v u : AV} (h : e ≠ some d) : (s.put (some d) v).put e u = (s.put e u).put (some d) v := by
  cases e with
  | none => rfl
  | some e => exact put_put fun he => h (by rw [he])
theorem newBox_put {s : St} {d e : Tmp} {v : AV} {cs : List AV} (h : d ≠ e) (hv : v.ids = []) : (s.put (some d) v).newBox e cs = (s.newBox e cs).put (some d) v := by
  simp only [St.put, St.newBox, subL_setf hv, List.set_comm _ _ h]
  rfl
theorem newTok_put {s : St} {d e : Tmp} {v : AV} {n : Nat} {xs : List D} (h : d ≠ e) (hv : v.ids = []) : (s.put (some d) v).newTok e n xs = (s.newTok e n xs).put (some d) v := by
  simp only [St.put, St.newTok, subL_setf hv, List.set_comm _ _ h]
  rfl
theorem newMap_put {s : St} {d e : Tmp} {v : AV} (h : d ≠ e) (hv : v.ids = []) : (s.put (some d) v).newMap e = (s.newMap e).put (some d) v := by
  simp only [St.put, St.newMap, subL_setf hv, List.set_comm _ _ h]
  rfl
theorem newArr_put {s : St} {d e : Tmp} {v : AV} {g : Bool} {n : Nat} {es : List (List AV)} (h : d ≠ e) (hv : v.ids = []) : (s.put (some d) v).newArr e g n es = (s.newArr e g n es).put (some d) v := by
  simp only [St.put, St.newArr, subL_setf hv, List.set_comm _ _ h]
  rfl
theorem grow_put {s : St} {d : Tmp} {e : Option Tmp} {v : AV} {id : Id} {n : Nat} {xs ys : List D} (h : e ≠ some d) (hv : v.ids = []) : (s.put (some d) v).grow e id n xs ys = (s.grow e id n xs ys).put (some d) v := by
  cases e with
  | none => simp only [St.put, St.grow, subL_setf hv]
  | some e => simp only [St.put, St.grow, subL_setf hv, List.set_comm _ _ (fun he : d = e => h (by rw [he]))]
theorem shift_put {s : St} {d : Tmp} {e : Option Tmp} {v : AV} {id : Id} {n : Nat} {xs ys : List D} (h : e ≠ some d) (hv : v.ids = []) : (s.put (some d) v).shift e id n xs ys = (s.shift e id n xs ys).put (some d) v := by
  have := grow_put (s := s) (e := e) (id := id) (n := n) (xs := xs) (ys := ys) h hv
  unfold St.shift
  rw [← put_put' h]
  simp only [St.put, subL_setf hv]
theorem growA_put {s : St} {d : Tmp} {e : Option Tmp} {v : AV} {id : Id} {g : Bool} {n : Nat} {es fs : List (List AV)} (h : e ≠ some d) (hv : v.ids = []) : (s.put (some d) v).growA e id g n es fs = (s.growA e id g n es fs).put (some d) v := by
  cases e with
  | none => simp only [St.put, St.growA, subL_setf hv]
  | some e => simp only [St.put, St.growA, subL_setf hv, List.set_comm _ _ (fun he : d = e => h (by rw [he]))]
theorem ice_put {s : St} {d : Tmp} {v : AV} {id : Id} {cs : List D} (hv : v.ids = []) : (s.put (some d) v).ice id cs = (s.ice id cs).put (some d) v := by
  simp only [St.put, St.ice, subL_setf hv]

end
end Go.Ab

namespace Go.Ab

section
variable {T : Ctx} {E : Abs}

theorem put_keeps {s : St} {d e : Nat} {v x : AV} (h : some e ≠ some d) (hx : s.t[d]? = some x) : (s.put (some e) v).t[d]? = some x := by
  have : e ≠ d := fun he => h (by rw [he])
  simp only [St.put, List.getElem?_set_ne this, hx]
theorem put_keeps' {s : St} {d : Nat} {e : Option Tmp} {v x : AV} (h : e ≠ some d) (hx : s.t[d]? = some x) : (s.put e v).t[d]? = some x := by
  cases e with
  | none => exact hx
  | some e => exact put_keeps h hx
theorem newBox_keeps {s : St} {d e : Nat} {cs : List AV} {x : AV} (h : some e ≠ some d) (hx : s.t[d]? = some x) (hf : x.ids = []) : (s.newBox e cs).t[d]? = some x := by
  have : e ≠ d := fun he => h (by rw [he])
  simp only [St.newBox, List.getElem?_set_ne this]
  exact subL_get _ _ _ hx hf
theorem newTok_keeps {s : St} {d e : Nat} {n : Nat} {xs : List D} {x : AV} (h : some e ≠ some d) (hx : s.t[d]? = some x) (hf : x.ids = []) : (s.newTok e n xs).t[d]? = some x := by
  have : e ≠ d := fun he => h (by rw [he])
  simp only [St.newTok, List.getElem?_set_ne this]
  exact subL_get _ _ _ hx hf

theorem turn_alloc {op : Oper} {t : TypeId} (ho : op.op = .alloc t) : Turn T E op := by
  constructor
  · intro R s κ r hk
    simp only [opK, ho] at hk
    split at hk
    · rename_i d hd
      split at hk
      · rename_i hz
        exact ⟨_, hk, fun κ' => by simp only [opK, ho, hd, if_pos hz], fun e x he hx hf => newBox_keeps (hd ▸ he) hx hf⟩
      · simp at hk
    · simp at hk
  · intro R s κ d v hd hv hn
    simp only [opK, ho]
    split
    · rename_i e he
      have : d ≠ e := fun h => hd (by rw [he, h])
      split
      · rw [newBox_put this hv]
      · rfl
    · rfl
theorem turn_box {op : Oper} {t : TypeId} {x : Operand} (ho : op.op = .box t x) (hi : op.type ≠ iceMark) : Turn T E op := by
  by_cases hw : op.type = iceMark ∨ T.wr (5000000 + op.dst.getD 0) = true
  · constructor
    · intro R s κ r hk
      simp only [opK, ho, if_pos hw] at hk
      split at hk
      · rename_i cs h1
        split at hk
        · rename_i ds h2
          split at hk
          · rename_i h3
            exact ⟨_, hk, fun κ' => by simp only [opK, ho, if_pos hw, h1, h2, if_pos h3], fun e x he hx hf => put_keeps' he hx⟩
          · simp at hk
        · simp at hk
      · simp at hk
    · intro R s κ d v hd hv hn
      have hx : x ≠ .tmp d := fun h => hn (by simp [ho, Op.operands, h])
      have e0 : (s.put (some d) v).o = s.o := rfl
      simp only [opK, ho, if_pos hw, get_put hx, e0]
      split
      · split
        · split
          · rw [put_put' hd]
          · rfl
        · rfl
      · rfl
  constructor
  · intro R s κ r hk
    simp only [opK, ho, if_neg hw] at hk
    split at hk
    · rename_i d cs hd hcs
      exact ⟨_, hk, fun κ' => by rw [hd] at hw; simp only [opK, ho, hd, if_neg hw, hcs], fun e x he hx hf => newBox_keeps (hd ▸ he) hx hf⟩
    · simp at hk
  · intro R s κ d v hd hv hn
    have hx : x ≠ .tmp d := fun h => hn (by simp [ho, Op.operands, h])
    simp only [opK, ho, if_neg hw, get_put hx]
    split
    · rename_i e cs he _
      have : d ≠ e := fun h => hd (by rw [he, h])
      rw [newBox_put this hv]
    · rfl
theorem turn_store {op : Oper} {t : TypeId} {a x : Operand} (ho : op.op = .store t a x) : Turn T E op := by
  constructor
  · intro R s κ r hk
    simp only [opK, ho] at hk
    split at hk
    · rename_i id off vs h1 h2
      split at hk
      · rename_i cs h3
        split at hk
        · rename_i h4
          refine ⟨_, hk, fun κ' => by simp only [opK, ho, h1, h2, h3, if_pos h4], fun e x he hx hf => ?_⟩
          exact put_keeps' he hx
        · simp at hk
      · simp at hk
    · rename_i id i off vs h1 h2
      split at hk
      · rename_i g n es h3
        split at hk
        · rename_i el h5
          split at hk
          · rename_i h4
            refine ⟨_, hk, fun κ' => by simp only [opK, ho, h1, h2, h3, h5, if_pos h4], fun e x he hx hf => ?_⟩
            exact put_keeps' he hx
          · simp at hk
        · simp at hk
      · simp at hk
    · simp at hk
  · intro R s κ d v hd hv hn
    have ha : a ≠ .tmp d := fun h => hn (by simp [ho, Op.operands, h])
    have hx : x ≠ .tmp d := fun h => hn (by simp [ho, Op.operands, h])
    simp only [opK, ho, get_put hx, get_put ha]
    split
    · have e0 : (s.put (some d) v).o = s.o := rfl
      simp only [e0]
      split
      · split
        · rw [← put_put' hd]
          rfl
        · rfl
      · rfl
    · have e0 : (s.put (some d) v).o = s.o := rfl
      simp only [e0]
      split
      · split
        · split
          · rw [← put_put' hd]
            rfl
          · rfl
        · rfl
      · rfl
    · rfl
theorem newArr_keeps {s : St} {d e : Nat} {g : Bool} {n : Nat} {es : List (List AV)} {x : AV} (h : some e ≠ some d) (hx : s.t[d]? = some x) (hf : x.ids = []) : (s.newArr e g n es).t[d]? = some x := by
  have : e ≠ d := fun he => h (by rw [he])
  simp only [St.newArr, List.getElem?_set_ne this]
  exact subL_get _ _ _ hx hf
theorem turn_buildSlice {op : Oper} {t : TypeId} {n : Nat} {ps : Array (Nat × Operand)} (ho : op.op = .buildSlice t n ps) : Turn T E op := by
  have hmap : ∀ (s : St) (d : Tmp) (v : AV) (e : TypeId), .tmp d ∉ op.op.operands.toList → ps.toList.map (fun p => nilfix T e ((s.put (some d) v).get T p.2)) = ps.toList.map (fun p => nilfix T e (s.get T p.2)) := by
    intro s d v e hn
    refine List.map_congr_left fun p hp => ?_
    rw [get_put]
    intro he
    exact hn (by simp [ho, Op.operands]; exact ⟨p.1, by rw [← he]; simpa using hp⟩)
  have hdst : ∀ d, bldW T op = some d → op.dst = some d := by
    intro d h
    unfold bldW at h
    split at h
    · rename_i e he
      split at h
      · cases h; exact he
      · simp at h
    · simp at h
  constructor
  · intro R s κ r hk
    simp only [opK, ho] at hk
    split at hk
    · rename_i e h1
      split at hk
      · rename_i xs h2
        split at hk
        · rename_i h3
          split at hk
          · rename_i d hd
            exact ⟨_, hk, fun κ' => by simp only [opK, ho, h1, h2, if_pos h3, hd], fun e x he hx hf => newTok_keeps (hd ▸ he) hx hf⟩
          · rename_i h0
            split at hk
            · rename_i h4
              have step : ∀ {R' : Type} (κ' : St → Option R'), opK T E op s κ' = (match bldW T op with
                  | some d => κ' (s.newArr d (T.td e).agg (T.sz e) (xs.map fun x => x.cells.map .d))
                  | none => κ' (s.put op.dst (.tight (T.sz e) xs))) := fun κ' => by
                simp only [opK, ho, h1, h2, if_pos h3, if_pos h4]
                split <;> simp_all
              split at hk
              · rename_i d hb
                exact ⟨_, hk, fun κ' => by rw [step κ', hb], fun e x he hx hf => newArr_keeps (hdst d hb ▸ he) hx hf⟩
              · rename_i hb
                exact ⟨_, hk, fun κ' => by rw [step κ', hb], fun e x he hx hf => put_keeps' he hx⟩
            · simp at hk
        · simp at hk
      · simp at hk
    · simp at hk
  · intro R s κ d v hd hv hn
    simp only [opK, ho, hmap s d v _ hn]
    have e0 : (s.put (some d) v).o = s.o := rfl
    simp only [e0]
    split
    · split
      · split
        · split
          · have hh := ‹op.dst = some _›
            rw [newTok_put (fun h => hd (by rw [hh, h])) hv]
          · split
            · split
              · rename_i d' hb
                rw [newArr_put (fun h => hd (by rw [hdst d' hb, h])) hv]
              · rw [put_put' hd]
            · rfl
        · rfl
      · rfl
    · rfl
theorem ice_keeps {s : St} {d : Nat} {e : Option Tmp} {id : Id} {cs : List D} {x v : AV} (h : e ≠ some d) (hx : s.t[d]? = some x) (hf : x.ids = []) : ((s.ice id cs).put e v).t[d]? = some x :=
  put_keeps' h (subL_get _ _ _ hx hf)
theorem turn_makeInterface {op : Oper} {t : TypeId} {x : Operand} (ho : op.op = .makeInterface t x) : Turn T E op := by
  constructor
  · intro R s κ r hk
    have key : ∀ {R' : Type} (κ' : St → Option R'), opK T E op s κ' = (match T.td t with
      | .iface _ => none
      | .other => none
      | _ => (match (nilfix T t (s.get T x)).data s.o with
        | some x => κ' (s.put op.dst (.d (.ifc t x)))
        | none => (match s.get T x with
          | .ref id 0 => if id.1 = 0 then none else (match lookup id s.o with
            | some (.box cs) => (match datas s.o cs with | some ds => if ds.all D.cell then κ' ((s.ice id ds).put op.dst (.d (.ifc t (.ptr ds)))) else none | none => none)
            | _ => none)
          | _ => none))) := fun κ' => by
        simp only [opK, ho]
        rfl
    rw [key κ] at hk
    split at hk
    · simp at hk
    · simp at hk
    · rename_i h1 h2
      split at hk
      · exact ⟨_, hk, fun κ' => by rw [key κ']; split <;> simp_all, fun e x he hx hf => put_keeps' he hx⟩
      · split at hk
        · split at hk
          · simp at hk
          · split at hk
            · split at hk
              · split at hk
                · exact ⟨_, hk, fun κ' => by rw [key κ']; split <;> simp_all, fun e x he hx hf => ice_keeps he hx hf⟩
                · simp at hk
              · simp at hk
            · simp at hk
        · simp at hk
  · intro R s κ d v hd hv hn
    have hx : x ≠ .tmp d := fun h => hn (by simp [ho, Op.operands, h])
    have e0 : (s.put (some d) v).o = s.o := rfl
    simp only [opK, ho, get_put hx, e0, put_put' hd, ice_put hv]
theorem grow_keeps {s : St} {d : Nat} {e : Option Tmp} {id : Id} {n : Nat} {xs ys : List D} {x : AV} (h : e ≠ some d) (hx : s.t[d]? = some x) (hf : x.ids = []) : (s.grow e id n xs ys).t[d]? = some x :=
  put_keeps' h (subL_get _ _ _ hx hf)
theorem shift_keeps {s : St} {d : Nat} {e : Option Tmp} {id : Id} {n : Nat} {xs ys : List D} {x : AV} (h : e ≠ some d) (hx : s.t[d]? = some x) (hf : x.ids = []) : (s.shift e id n xs ys).t[d]? = some x :=
  put_keeps' h (subL_get _ _ _ hx hf)
theorem bound_put {s : St} {d : Tmp} {v : AV} {x : Option Operand} (h : ∀ y, x = some y → y ≠ .tmp d) {R : Type} (dflt : Int) (κ : Int → Option R) : boundK T (s.put (some d) v) x dflt κ = boundK T s x dflt κ := by
  cases x with
  | none => rfl
  | some y => simp only [boundK, get_put (h y rfl)]
theorem turn_slice {op : Oper} {t : TypeId} {x : Operand} {lo hi mx : Option Operand} (ho : op.op = .slice t x lo hi mx) : Turn T E op := by
  constructor
  · intro R s κ r hk
    have hb : ∀ {R : Type} {y : Option Operand} {d : Int} {κ : Int → Option R} {r : R}, boundK T s y d κ = some r → ∃ i, κ i = some r ∧ ∀ {R' : Type} (κ' : Int → Option R'), boundK T s y d κ' = κ' i := by
      intro R y d κ r h
      unfold boundK at h
      split at h
      · exact ⟨_, h, fun κ' => rfl⟩
      · split at h
        · rename_i h1
          exact ⟨_, h, fun κ' => by simp only [boundK, h1]⟩
        · simp at h
    simp only [opK, ho, cutK] at hk
    split at hk
    · rename_i h1 h2
      obtain ⟨i, hk, hi'⟩ := hb hk
      obtain ⟨j, hk, hj'⟩ := hb hk
      split at hk
      · rename_i h4
        exact ⟨_, hk, fun κ' => by simp only [opK, ho, cutK, h1, h2, hi', hj', if_pos h4], fun e x he hx hf => put_keeps' he hx⟩
      · simp at hk
    · rename_i h1 h2
      split at hk
      · rename_i hn
        obtain ⟨i, hk, hi'⟩ := hb hk
        obtain ⟨j, hk, hj'⟩ := hb hk
        split at hk
        · rename_i h4
          cases hsh : shiftId T op hi s x with
          | none =>
            rw [hsh] at hk
            exact ⟨_, hk, fun κ' => by simp only [opK, ho, cutK, h1, h2, if_pos hn, hi', hj', if_pos h4, hsh], fun e x he hx hf => put_keeps' he hx⟩
          | some k =>
            rw [hsh] at hk
            exact ⟨_, hk, fun κ' => by simp only [opK, ho, cutK, h1, h2, if_pos hn, hi', hj', if_pos h4, hsh], fun e x he hx hf => shift_keeps he hx hf⟩
        · simp at hk
      · simp at hk
    · rename_i mxo h1 h2
      split at hk
      · rename_i hn
        obtain ⟨i, hk, hi'⟩ := hb hk
        obtain ⟨j, hk, hj'⟩ := hb hk
        obtain ⟨m, hk, hm'⟩ := hb hk
        split at hk
        · rename_i hmj
          split at hk
          · rename_i h4
            exact ⟨_, hk, fun κ' => by simp only [opK, ho, cutK, h1, h2, if_pos hn, hi', hj', hm', if_pos hmj, if_pos h4], fun e x he hx hf => put_keeps' he hx⟩
          · simp at hk
        · simp at hk
      · simp at hk
    · simp at hk
  · intro R s κ d v hd hv hn
    have hx : x ≠ .tmp d := fun h => hn (by simp [ho, Op.operands, h])
    have hlo : ∀ y, lo = some y → y ≠ .tmp d := fun y h e => hn (by simp [ho, Op.operands, h, e])
    have hhi : ∀ y, hi = some y → y ≠ .tmp d := fun y h e => hn (by simp [ho, Op.operands, h, e])
    have hmx : ∀ y, mx = some y → y ≠ .tmp d := fun y h e => hn (by simp [ho, Op.operands, h, e])
    have e0 : (s.put (some d) v).o = s.o := rfl
    have e1 : shiftId T op hi (s.put (some d) v) x = shiftId T op hi s x := by simp only [shiftId, get_put hx]
    simp only [opK, ho, get_put hx, e0, bound_put hlo, bound_put hhi, e1]
    split
    · simp only [put_put' hd]
    · split
      · congr 1
        funext lo'
        congr 1
        funext hj'
        congr 1
        funext a b
        cases shiftId T op hi s x with
        | none => simp only [put_put' hd]
        | some k => simp only [shift_put hd hv]
      · rfl
    · rename_i mxo _ _
      simp only [bound_put (x := some mxo) (fun y h => hmx y h), put_put' hd]
    · rfl
theorem growA_keeps {s : St} {d : Nat} {e : Option Tmp} {id : Id} {g : Bool} {n : Nat} {es fs : List (List AV)} {x : AV} (h : e ≠ some d) (hx : s.t[d]? = some x) (hf : x.ids = []) : (s.growA e id g n es fs).t[d]? = some x :=
  put_keeps' h (subL_get _ _ _ hx hf)
theorem turn_append {op : Oper} {c : Call} (ho : op.op = .call c) (hc : c.callee = .builtin .append) : Turn T E op := by
  constructor
  · intro R s κ r hk
    have key : ∀ {R' : Type} (κ' : St → Option R'), opK T E op s κ' = (match c.args.toList, c.argTypes.toList with
      | [x, y], [t, t'] => (match T.td t, T.td t', (nilfix T t' (s.get T y)).data s.o with
        | .slice e, .slice _, some (.sl n' ys) => (match s.get T x with
          | .own k => (match lookup k s.o with
            | some (.tok n xs) => if n = T.sz e ∧ n' = n ∧ (xs.length + ys.length ≤ lim ∨ T.small e = true ∧ xs.length + ys.length ≤ lim2) then κ' (s.grow op.dst k n xs ys) else none
            | some (.arr g n es) => if n = T.sz e ∧ n' = n ∧ es.length + ys.length ≤ lim then κ' (s.growA op.dst k g n es (ys.map fun y => y.cells.map .d)) else none
            | _ => none)
          | x => (match tightOf T t x, op.dst with
            | some (n, xs), some d => if n = T.sz e ∧ n' = n ∧ (xs.length + ys.length ≤ lim ∨ T.small e = true ∧ xs.length + ys.length ≤ lim2) then κ' (s.newTok d n (xs ++ ys)) else none
            | _, _ => none))
        | .slice e, .str, some (.s l) => (match s.get T x with
          | .own k => (match lookup k s.o with
            | some (.tok n xs) => if n = T.sz e ∧ n = 1 ∧ xs.length + l.length ≤ lim then κ' (s.grow op.dst k n xs (l.map encB)) else none
            | _ => none)
          | _ => none)
        | _, _, _ => none)
      | _, _ => none) := fun κ' => by
        simp only [opK, ho, hc]
        generalize c.args.toList = xs, c.argTypes.toList = ts
        rcases xs with _ | ⟨x, _ | ⟨y, _ | ⟨z, xs⟩⟩⟩ <;> rcases ts with _ | ⟨t, _ | ⟨t', _ | ⟨t'', ts⟩⟩⟩ <;> rfl
    rw [key κ] at hk
    split at hk
    · rename_i x y t t' hx ht
      split at hk
      · rename_i h3 h4 h5
        split at hk
        · rename_i h6
          split at hk
          · rename_i h7
            split at hk
            · rename_i h8
              exact ⟨_, hk, fun κ' => by rw [key κ', hx, ht]; simp only [h3, h4, h5, h6, h7]; rw [if_pos h8], fun e x he hx hf => grow_keeps he hx hf⟩
            · simp at hk
          · rename_i h7
            split at hk
            · rename_i h8
              exact ⟨_, hk, fun κ' => by rw [key κ', hx, ht]; simp only [h3, h4, h5, h6, h7]; rw [if_pos h8], fun e x he hx hf => growA_keeps he hx hf⟩
            · simp at hk
          · simp at hk
        · split at hk
          · rename_i h6 h7
            have hno : ∀ k, s.get T x ≠ .own k := fun k e => by
              rw [e] at h6
              simp [tightOf] at h6
            split at hk
            · rename_i h8
              refine ⟨_, hk, fun κ' => ?_, fun e x he hx hf => newTok_keeps (h7 ▸ he) hx hf⟩
              rw [key κ', hx, ht]
              simp only [h3, h4, h5]
              generalize s.get T x = xv at *
              cases xv with
              | own k => exact absurd rfl (hno k)
              | _ =>
                simp only [h6, h7]
                rw [if_pos h8]
            · simp at hk
          · simp at hk
      · rename_i h3 h4 h5
        split at hk
        · rename_i h6
          split at hk
          · rename_i h7
            split at hk
            · rename_i h8
              exact ⟨_, hk, fun κ' => by rw [key κ', hx, ht]; simp only [h3, h4, h5, h6, h7]; rw [if_pos h8], fun e x he hx hf => grow_keeps he hx hf⟩
            · simp at hk
          · simp at hk
        · simp at hk
      · simp at hk
    · simp at hk
  · intro R s κ d v hd hv hn
    have e0 : (s.put (some d) v).o = s.o := rfl
    have ha : ∀ x ∈ c.args.toList, x ≠ .tmp d := fun x hx h => hn (by simp [ho, Op.operands, Call.operands, hc, ← h]; simpa using hx)
    simp only [opK, ho, hc]
    generalize c.args.toList = xs at ha
    generalize c.argTypes.toList = ts
    rcases xs with _ | ⟨x, _ | ⟨y, _ | ⟨z, xs⟩⟩⟩ <;> rcases ts with _ | ⟨t, _ | ⟨t', _ | ⟨t'', ts⟩⟩⟩ <;> try rfl
    have h1 := ha x (by simp)
    have h2 := ha y (by simp)
    simp only [get_put h1, get_put h2, e0, grow_put hd hv, growA_put hd hv]
    split
    · split
      · rfl
      · split
        · rename_i n xs d' h6 h7
          have : d ≠ d' := fun h => hd (by rw [h7, h])
          rw [newTok_put this hv]
        · rfl
    · rfl
    · rfl
theorem newMap_keeps {s : St} {d e : Nat} {x : AV} (h : some e ≠ some d) (hx : s.t[d]? = some x) (hf : x.ids = []) : (s.newMap e).t[d]? = some x := by
  have : e ≠ d := fun he => h (by rw [he])
  simp only [St.newMap, List.getElem?_set_ne this]
  exact subL_get _ _ _ hx hf
theorem turn_makeMap {op : Oper} {t : TypeId} {m : Option Operand} (ho : op.op = .makeMap t m) : Turn T E op := by
  constructor
  · intro R s κ r hk
    simp only [opK, ho] at hk
    split at hk
    · rename_i d h1 hd
      exact ⟨_, hk, fun κ' => by simp only [opK, ho, h1, hd], fun e x he hx hf => newMap_keeps (hd ▸ he) hx hf⟩
    · rename_i d x0 h1 hd
      split at hk
      · rename_i h2
        exact ⟨_, hk, fun κ' => by simp only [opK, ho, h1, hd, h2], fun e x he hx hf => newMap_keeps (hd ▸ he) hx hf⟩
      · simp at hk
    · simp at hk
  · intro R s κ d v hd hv hn
    cases m with
    | none =>
      simp only [opK, ho]
      split
      · rename_i e _ he _
        have : d ≠ e := fun h => hd (by rw [he, h])
        rw [newMap_put this hv]
      · cases ‹(none : Option Operand) = some _›
      · rfl
    | some x =>
      have hx : x ≠ .tmp d := fun h => hn (by simp [ho, Op.operands, h])
      simp only [opK, ho]
      split
      · cases ‹some x = (none : Option Operand)›
      · rename_i e x' _ he e1
        injection e1 with e1
        subst e1
        have : d ≠ e := fun h => hd (by rw [he, h])
        rw [newMap_put this hv, get_put hx]
      · rfl
theorem turn_mapUpdate {op : Oper} {t : TypeId} {m k y : Operand} (ho : op.op = .mapUpdate t m k y) : Turn T E op := by
  constructor
  · intro R s κ r hk
    simp only [opK, ho] at hk
    split at hk
    · rename_i h1 h2 h3
      split at hk
      · rename_i h4
        split at hk
        · rename_i h5
          split at hk
          · rename_i h6
            exact ⟨_, hk, fun κ' => by simp only [opK, ho, h1, h2, h3, if_pos h4, h5, h6], fun e x he hx hf => put_keeps' he hx⟩
          · simp at hk
        · simp at hk
      · simp at hk
    · simp at hk
  · intro R s κ d v hd hv hn
    have hm : m ≠ .tmp d := fun h => hn (by simp [ho, Op.operands, h])
    have hk : k ≠ .tmp d := fun h => hn (by simp [ho, Op.operands, h])
    have hy : y ≠ .tmp d := fun h => hn (by simp [ho, Op.operands, h])
    have e0 : (s.put (some d) v).o = s.o := rfl
    simp only [opK, ho, get_put hm, get_put hk, get_put hy, e0]
    split
    · split
      · split
        · split
          · rw [← put_put' hd]
            rfl
          · rfl
        · rfl
      · rfl
    · rfl
theorem turn_insert {op : Oper} {t : TypeId} {m k y : Operand} (ho : op.op = .insert t m k y) : Turn T E op := by
  constructor
  · intro R s κ r hk
    simp only [opK, ho] at hk
    split at hk
    · rename_i h1 h2 h3
      split at hk
      · rename_i h4
        split at hk
        · rename_i h5
          split at hk
          · rename_i h6
            exact ⟨_, hk, fun κ' => by simp only [opK, ho, h1, h2, h3, if_pos h4, h5, h6], fun e x he hx hf => put_keeps' he hx⟩
          · simp at hk
        · simp at hk
      · simp at hk
    · simp at hk
  · intro R s κ d v hd hv hn
    have hm : m ≠ .tmp d := fun h => hn (by simp [ho, Op.operands, h])
    have hk : k ≠ .tmp d := fun h => hn (by simp [ho, Op.operands, h])
    have hy : y ≠ .tmp d := fun h => hn (by simp [ho, Op.operands, h])
    have e0 : (s.put (some d) v).o = s.o := rfl
    simp only [opK, ho, get_put hm, get_put hk, get_put hy, e0]
    split
    · split
      · split
        · split
          · rw [← put_put' hd]
            rfl
          · rfl
        · rfl
      · rfl
    · rfl
theorem turn_delete {op : Oper} {c : Call} (ho : op.op = .call c) (hc : c.callee = .builtin .delete) : Turn T E op := by
  have key : ∀ (s : St) {R' : Type} (κ' : St → Option R'), opK T E op s κ' = (match c.args.toList, c.argTypes.toList with
      | [m, k], [t, _] => (match T.td t, s.get T m, (s.get T k).data s.o with
        | .map kt _, .own id, some k => if keyOkT T kt k = true then (match lookup id s.o with
          | some (.map es) => (match delM T kt k es with
            | some es' => κ' (St.put { s with o := update id (.map es') s.o } op.dst (.tup []))
            | none => none)
          | _ => none) else none
        | _, _, _ => none)
      | _, _ => none) := fun s κ' => by
        intro κ'
        simp only [opK, ho, hc]
        generalize c.args.toList = xs, c.argTypes.toList = ts
        rcases xs with _ | ⟨x, _ | ⟨y, _ | ⟨z, xs⟩⟩⟩ <;> rcases ts with _ | ⟨t, _ | ⟨t', _ | ⟨t'', ts⟩⟩⟩ <;> rfl
  constructor
  · intro R s κ r hk
    rw [key s κ] at hk
    split at hk
    · rename_i m k t t' hx ht
      split at hk
      · rename_i h1 h2 h3
        split at hk
        · rename_i h4
          split at hk
          · rename_i h5
            split at hk
            · rename_i h6
              exact ⟨_, hk, fun κ' => by rw [key s κ', hx, ht]; simp only [h1, h2, h3, if_pos h4, h5, h6], fun e x he hx hf => put_keeps' he hx⟩
            · simp at hk
          · simp at hk
        · simp at hk
      · simp at hk
    · simp at hk
  · intro R s κ d v hd hv hn
    have e0 : (s.put (some d) v).o = s.o := rfl
    have ha : ∀ x ∈ c.args.toList, x ≠ .tmp d := fun x hx h => hn (by simp [ho, Op.operands, Call.operands, hc, ← h]; simpa using hx)
    rw [key, key]
    split
    · rename_i m k t t' hx ht
      have h1 := ha m (by rw [hx]; simp)
      have h2 := ha k (by rw [hx]; simp)
      simp only [get_put h1, get_put h2, e0]
      split
      · split
        · split
          · split
            · rw [← put_put' hd]
              rfl
            · rfl
          · rfl
        · rfl
      · rfl
    · rfl
theorem turn_makeSlice {op : Oper} {t : TypeId} {l c : Operand} (ho : op.op = .makeSlice t l c) : Turn T E op := by
  constructor
  · intro R s κ r hk
    simp only [opK, ho] at hk
    split at hk
    · rename_i e d q1 l' q2 c' h1 hd h2 h3
      split at hk
      · rename_i h4
        refine ⟨_, hk, fun κ' => by simp only [opK, ho, h1, hd, h2, h3, if_pos h4], fun e x he hx hf => ?_⟩
        split
        · exact newArr_keeps (hd ▸ he) hx hf
        · exact newTok_keeps (hd ▸ he) hx hf
      · simp at hk
    · simp at hk
  · intro R s κ d v hd hv hn
    have hl : l ≠ .tmp d := fun h => hn (by simp [ho, Op.operands, h])
    have hc : c ≠ .tmp d := fun h => hn (by simp [ho, Op.operands, h])
    simp only [opK, ho, get_put hl, get_put hc]
    generalize hod : op.dst = od
    rw [hod] at hd
    cases od with
    | none => cases T.td t <;> rfl
    | some e =>
      have : d ≠ e := fun h => hd (by rw [h])
      split
      · rename_i e2 d2 _ _ _ he _ _
        injection he with he
        subst he
        split
        · rw [newArr_put this hv, newTok_put this hv]
          split <;> rfl
        · rfl
      · rfl
theorem gAfter_put {s : St} {d : Tmp} {v : AV} {dst : Option Tmp} (hd : dst ≠ some d) (hv : v.ids = []) (L : List Id) (rs : List AV) (o2 : Obs) : gAfter (s.put (some d) v) dst L rs o2 = (gAfter s dst L rs o2).put (some d) v := by
  unfold gAfter
  simp only
  rw [← put_put' hd]
  congr 1
  simp only [St.put, subL_setf hv]
theorem iceA_put {s : St} {d : Tmp} {v : AV} (hv : v.ids = []) (id : Id) (n : Nat) (xs : List D) : (s.put (some d) v).iceA id n xs = (s.iceA id n xs).put (some d) v := by
  simp only [St.put, St.iceA, subL_setf hv]
theorem iceL_put {d : Tmp} {v : AV} (hv : v.ids = []) : ∀ (L : List Id) (s : St), (s.put (some d) v).iceL L = (s.iceL L).put (some d) v
  | [], s => rfl
  | k :: r, s => by
    have e0 : (s.put (some d) v).o = s.o := rfl
    unfold St.iceL
    simp only [e0]
    split
    · split
      · rw [iceA_put hv, iceL_put hv r]
      · exact iceL_put hv r s
    · split
      · split
        · rw [ice_put hv, iceL_put hv r]
        · exact iceL_put hv r s
      · exact iceL_put hv r s
    · exact iceL_put hv r s
theorem cool_put {s : St} {d : Tmp} {v : AV} (hv : v.ids = []) (dst : Option Tmp) : (s.put (some d) v).cool T dst = (s.cool T dst).put (some d) v := by
  unfold St.cool St.iceN
  split
  · exact iceL_put hv _ s
  · rfl
theorem iceL_keeps {d : Nat} {x : AV} (hf : x.ids = []) : ∀ (L : List Id) (s : St), s.t[d]? = some x → (s.iceL L).t[d]? = some x
  | [], s, hx => hx
  | k :: r, s, hx => by
    unfold St.iceL
    split
    · split
      · exact iceL_keeps hf r _ (subL_get _ _ _ hx hf)
      · exact iceL_keeps hf r s hx
    · split
      · split
        · exact iceL_keeps hf r _ (subL_get _ _ _ hx hf)
        · exact iceL_keeps hf r s hx
      · exact iceL_keeps hf r s hx
    · exact iceL_keeps hf r s hx
theorem cool_keeps {s : St} {d : Nat} {x : AV} (dst : Option Tmp) (hx : s.t[d]? = some x) (hf : x.ids = []) : (s.cool T dst).t[d]? = some x := by
  unfold St.cool St.iceN
  split
  · exact iceL_keeps hf _ s hx
  · exact hx
theorem chill_put {s : St} {d : Tmp} {v : AV} (hv : v.ids = []) {dst : Option Tmp} {c : Call} (ha : ∀ x ∈ c.args.toList, x ≠ .tmp d) : (s.put (some d) v).chill T dst c = (s.chill T dst c).put (some d) v := by
  have e : c.args.toList.map ((s.put (some d) v).get T) = c.args.toList.map (s.get T) := List.map_congr_left fun x hx => get_put (ha x hx)
  unfold St.chill
  rw [e]
  split
  · exact iceL_put hv _ s
  · rfl
theorem chill_keeps {s : St} {d : Nat} {x : AV} (dst : Option Tmp) (c : Call) (hx : s.t[d]? = some x) (hf : x.ids = []) : (s.chill T dst c).t[d]? = some x := by
  unfold St.chill
  split
  · exact iceL_keeps hf _ s hx
  · exact hx
theorem turn_callV {op : Oper} {c : Call} {f : Operand} (ho : op.op = .call c) (hc : c.callee = .value f) : Turn T E op := by
  constructor
  · intro R s κ r hk
    simp only [opK, ho, hc] at hk
    split at hk
    · rename_i g first cap hg
      split at hk
      · rename_i hsz
        unfold gcallK gcallL at hk
        · split at hk
          · rename_i o1 ho1
            split at hk
            · rename_i rs o2 hm
              refine ⟨_, hk, fun κ' => ?_, fun d x he hx hf => cool_keeps _ (put_keeps' he (subL_get _ _ _ (chill_keeps _ _ hx hf) hf)) hf⟩
              simp only [opK, ho, hc, hg, if_pos hsz]
              unfold gcallK gcallL
              rw [ho1]
              simp only [hm]
            · simp at hk
          · simp at hk
      · simp at hk
    · rename_i hg
      split at hk
      · rename_i g first cap ds h1 h2
        split at hk
        · rename_i hsz
          split at hk
          · rename_i rs hrs
            exact ⟨_, hk, fun κ' => by simp only [opK, ho, hc, hg, h1, h2, if_pos hsz, hrs], fun d x he hx hf => put_keeps' he hx⟩
          · simp at hk
        · simp at hk
      · simp at hk
  · intro R s κ d v hd hv hn
    have hf : f ≠ .tmp d := fun h => hn (by simp [ho, Op.operands, Call.operands, hc, h])
    have ha : ∀ x ∈ c.args.toList, x ≠ .tmp d := fun x hx h => hn (by simp [ho, Op.operands, Call.operands, hc, ← h]; exact .inr (by simpa using hx))
    have e0 : (s.put (some d) v).o = s.o := rfl
    have e1 := zip_same (T := T) (s := s) (s' := s.put (some d) v) c.args.toList c.argTypes.toList fun x hx => get_put (ha x hx)
    have e2 : (c.args.toList.zip c.argTypes.toList).map (fun p => argA T op.dst p.2 ((s.chill T op.dst c).put (some d) v).o (((s.chill T op.dst c).put (some d) v).get T p.1)) = (c.args.toList.zip c.argTypes.toList).map (fun p => argA T op.dst p.2 (s.chill T op.dst c).o ((s.chill T op.dst c).get T p.1)) :=
      List.map_congr_left fun p hp => by rw [get_put (ha p.1 (List.of_mem_zip hp).1)]; rfl
    have e3 : ((s.chill T op.dst c).put (some d) v).o = (s.chill T op.dst c).o := rfl
    simp only [opK, ho, hc, chill_put hv ha, get_put hf, e1, e2, e0]
    split
    · split
      · unfold gcallK gcallL
        simp only [e3]
        · split
          · split
            · rw [gAfter_put hd hv, cool_put hv]
            · rfl
          · rfl
      · rfl
    · split
      · split
        · split
          · rw [put_put' hd]
          · rfl
        · rfl
      · rfl
theorem turn_op {op : Oper} {ops : Array Oper} {fr : List Nat} (hb : isB T.gf ops fr op = true) : Turn T E op := by
  unfold isB at hb
  split at hb
  · exact turn_alloc (by assumption)
  · exact turn_store (by assumption)
  · exact turn_box (by assumption) (by simpa using hb)
  · exact turn_makeInterface (by assumption)
  · exact turn_buildSlice (by assumption)
  · exact turn_buildSlice (by assumption)
  · exact turn_slice (by assumption)
  · split at hb
    · exact turn_append (by assumption) (by assumption)
    · exact turn_delete (by assumption) (by assumption)
    · exact turn_callV (by assumption) (by assumption)
    · exact turn_callV (by assumption) (by assumption)
    · simp at hb
  · exact turn_makeMap (by assumption)
  · exact turn_mapUpdate (by assumption)
  · exact turn_insert (by assumption)
  · exact turn_makeSlice (by assumption)
  · simp at hb
end
end Go.Ab

namespace Go.Ab

/-! ### an append and what only reads what stays where it is -/
mutual
theorem sub_fx {fo : Id → AV} {fr : Id → Nat → AV} : ∀ x : AV, (∀ k ∈ x.ids, fo k = .own k ∧ ∀ off, fr k off = .ref k off) → x.sub fo fr = x
  | .d x, _ => rfl
  | .own j, h => by simp only [AV.sub, (h j (by simp [AV.ids])).1]
  | .tight n xs, _ => rfl
  | .ref j off, h => by simp only [AV.sub, (h j (by simp [AV.ids])).2]
  | .elt j i off, h => by simp only [AV.sub, (h j (by simp [AV.ids])).1, eltO]
  | .agg cs, h => by simp only [AV.sub, subL_fx cs (fun k hk => h k (by simpa only [AV.ids] using hk))]
  | .tup cs, h => by simp only [AV.sub, subL_fx cs (fun k hk => h k (by simpa only [AV.ids] using hk))]
  | .clo f as bs, h => by
    simp only [AV.ids, List.mem_append] at h
    simp only [AV.sub, subL_fx as (fun k hk => h k (.inl hk)), subL_fx bs (fun k hk => h k (.inr hk))]
  | .undef, _ => rfl
theorem subL_fx {fo : Id → AV} {fr : Id → Nat → AV} : ∀ xs : List AV, (∀ k ∈ idsL xs, fo k = .own k ∧ ∀ off, fr k off = .ref k off) → subL fo fr xs = xs
  | [], _ => rfl
  | x :: xs, h => by
    simp only [idsL, List.mem_append] at h
    simp only [subL, sub_fx x (fun k hk => h k (.inl hk)), subL_fx xs (fun k hk => h k (.inr hk))]
end
theorem subL_getP {fo : Id → AV} {fr : Id → Nat → AV} : ∀ (xs : List AV) (i : Nat), (subL fo fr xs)[i]? = (xs[i]?).map (AV.sub fo fr)
  | [], i => by simp [subL]
  | x :: xs, 0 => by simp [subL]
  | x :: xs, i + 1 => by simp [subL, subL_getP xs i]
theorem subL_setP {fo : Id → AV} {fr : Id → Nat → AV} (v : AV) : ∀ (xs : List AV) (d : Nat), subL fo fr (xs.set d v) = (subL fo fr xs).set d (v.sub fo fr)
  | [], d => by simp [subL]
  | x :: xs, 0 => by simp [subL]
  | x :: xs, d + 1 => by simp [subL, subL_setP v xs d]
theorem subL_lenP {fo : Id → AV} {fr : Id → Nat → AV} : ∀ xs : List AV, (subL fo fr xs).length = xs.length
  | [] => rfl
  | x :: xs => by simp [subL, subL_lenP xs]
theorem subL_dropP {fo : Id → AV} {fr : Id → Nat → AV} : ∀ (xs : List AV) (n : Nat), subL fo fr (xs.drop n) = (subL fo fr xs).drop n
  | [], n => by simp [subL]
  | x :: xs, 0 => rfl
  | x :: xs, n + 1 => by simp [subL, subL_dropP xs n]
theorem subL_takeP {fo : Id → AV} {fr : Id → Nat → AV} : ∀ (xs : List AV) (n : Nat), subL fo fr (xs.take n) = (subL fo fr xs).take n
  | [], n => by simp [subL]
  | x :: xs, 0 => rfl
  | x :: xs, n + 1 => by simp [subL, subL_takeP xs n]
theorem valA_sub {fo : Id → AV} {fr : Id → Nat → AV} {g : Bool} {cs : List AV} : (valA g cs).sub fo fr = valA g (subL fo fr cs) := by
  cases g with
  | true => simp only [valA, if_true, AV.sub]
  | false => cases cs <;> simp [valA, subL, AV.sub]

/-- What a name becomes: itself, a datum that is a slice, nothing. -/
def OwnLike (x : AV) : Prop := (∃ k, x = .own k) ∨ (∃ n xs, x = .d (.sl n xs)) ∨ x = .undef
/-- What an append does to a state whose objects are o. -/
structure AppF (F : St → St) (d0 : Tmp) (o : Obs) (fo : Id → AV) (fr : Id → Nat → AV) : Prop where
  t : ∀ s : St, s.o = o → ∀ t, t ≠ d0 → (F s).t[t]? = (s.t[t]?).map (AV.sub fo fr)
  put : ∀ (s : St) d v, s.o = o → d ≠ d0 → F (s.put (some d) v) = (F s).put (some d) (v.sub fo fr)
  box : ∀ s : St, s.o = o → ∀ k cs, k ≠ (1, d0) → lookup k o = some (.box cs) → lookup k (F s).o = some (.box (subL fo fr cs))
  back : ∀ s : St, s.o = o → ∀ k cs, k ≠ (1, d0) → (∃ off, fr k off = .ref k off) → lookup k (F s).o = some (.box cs) → ∃ cs', lookup k o = some (.box cs')
  fx : ∀ k cs, k ≠ (1, d0) → lookup k o = some (.box cs) → ∀ off, fr k off = .ref k off
  ow : ∀ k, OwnLike (fo k)
  rf : ∀ k off, fr k off = .ref k off ∨ fr k off = .undef
theorem sub_box {fo : Id → AV} {fr : Id → Nat → AV} {ob : Ob} {cs : List AV} (h : (some ob).map (Ob.sub fo fr) = some (.box cs)) : ∃ cs', ob = .box cs' := by
  cases ob <;> simp [Ob.sub] at h
  exact ⟨_, rfl⟩
theorem appF_grow {d0 : Tmp} {o : Obs} {k : Id} {n : Nat} {xs ys : List D} (hl : lookup k o = some (.tok n xs)) : AppF (fun s => s.grow (some d0) k n xs ys) d0 o (shutO k n xs) (dropR k) := by
  have hne : ∀ j cs, lookup j o = some (.box cs) → j ≠ k := fun j cs h e => by rw [e, hl] at h; simp at h
  refine ⟨fun s hs t ht => ?_, fun s d v hs hd => ?_, fun s hs j cs hj hb => ?_, fun s hs j cs hj _ hb => ?_, fun j cs hj hb off => ?_, fun j => ?_, fun j off => ?_⟩
  · simp only [St.grow, St.put]
    rw [List.getElem?_set_ne (Ne.symm ht), subL_getP]
  · simp only [St.grow, St.put, subL_setP]
    rw [List.set_comm _ _ hd]
  · simp only [St.grow, St.put]
    rw [lookup_update_ne _ (hne j cs hb), lookup_subO, hs, hb]
    rfl
  · simp only [St.grow, St.put] at hb
    by_cases hjk : j = k
    · subst hjk
      rw [lookup_update_same (y := .tok n xs) _ (by rw [lookup_subO, hs, hl]; rfl)] at hb
      simp at hb
    · rw [lookup_update_ne _ hjk, lookup_subO, hs] at hb
      cases hq : lookup j o with
      | none => rw [hq] at hb; simp at hb
      | some ob =>
        rw [hq] at hb
        obtain ⟨cs', rfl⟩ := sub_box hb
        exact ⟨cs', rfl⟩
  · simp only [dropR, if_neg (hne j cs hb)]
  · unfold shutO
    split
    · exact .inr (.inl ⟨_, _, rfl⟩)
    · exact .inl ⟨_, rfl⟩
  · unfold dropR
    split
    · exact .inr rfl
    · exact .inl rfl
theorem appF_growA {d0 : Tmp} {o : Obs} {k : Id} {g : Bool} {n : Nat} {es fs : List (List AV)} (hl : lookup k o = some (.arr g n es)) : AppF (fun s => s.growA (some d0) k g n es fs) d0 o (forO k) (dropR k) := by
  have hne : ∀ j cs, lookup j o = some (.box cs) → j ≠ k := fun j cs h e => by rw [e, hl] at h; simp at h
  refine ⟨fun s hs t ht => ?_, fun s d v hs hd => ?_, fun s hs j cs hj hb => ?_, fun s hs j cs hj _ hb => ?_, fun j cs hj hb off => ?_, fun j => ?_, fun j off => ?_⟩
  · simp only [St.growA, St.put]
    rw [List.getElem?_set_ne (Ne.symm ht), subL_getP]
  · simp only [St.growA, St.put, subL_setP]
    rw [List.set_comm _ _ hd]
  · simp only [St.growA, St.put]
    rw [lookup_update_ne _ (hne j cs hb), lookup_subO, hs, hb]
    rfl
  · simp only [St.growA, St.put] at hb
    by_cases hjk : j = k
    · subst hjk
      rw [lookup_update_same (y := .arr g n (subE (forO j) (dropR j) es)) _ (by rw [lookup_subO, hs, hl]; rfl)] at hb
      simp at hb
    · rw [lookup_update_ne _ hjk, lookup_subO, hs] at hb
      cases hq : lookup j o with
      | none => rw [hq] at hb; simp at hb
      | some ob =>
        rw [hq] at hb
        obtain ⟨cs', rfl⟩ := sub_box hb
        exact ⟨cs', rfl⟩
  · simp only [dropR, if_neg (hne j cs hb)]
  · unfold forO
    split
    · exact .inr (.inr rfl)
    · exact .inl ⟨_, rfl⟩
  · unfold dropR
    split
    · exact .inr rfl
    · exact .inl rfl
theorem dropO_o {id : Id} {s : St} {o : Obs} (h : s.o = o) : dropO id s = dropO id ⟨[], o⟩ := by
  funext k
  simp only [dropO, h]
theorem appF_newTok {d0 : Tmp} {o : Obs} {n : Nat} {zs : List D} : AppF (fun s => s.newTok d0 n zs) d0 o (dropO (1, d0) ⟨[], o⟩) (dropR (1, d0)) := by
  refine ⟨fun s hs t ht => ?_, fun s d v hs hd => ?_, fun s hs j cs hj hb => ?_, fun s hs j cs hj _ hb => ?_, fun j cs hj hb off => ?_, fun j => ?_, fun j off => ?_⟩
  · simp only [St.newTok, dropO_o hs]
    rw [List.getElem?_set_ne (Ne.symm ht), subL_getP]
  · have hs' : (St.put s (some d) v).o = o := hs
    simp only [St.newTok]
    rw [dropO_o hs, dropO_o hs']
    simp only [St.put, subL_setP]
    rw [List.set_comm _ _ hd]
  · simp only [St.newTok, dropO_o hs, lookup]
    rw [if_neg (Ne.symm hj), lookup_subO, lookup_erase hj, hs, hb]
    rfl
  · simp only [St.newTok, lookup] at hb
    rw [if_neg (Ne.symm hj), lookup_subO, lookup_erase hj, hs] at hb
    cases hq : lookup j o with
    | none => rw [hq] at hb; simp at hb
    | some ob =>
      rw [hq] at hb
      obtain ⟨cs', rfl⟩ := sub_box hb
      exact ⟨cs', rfl⟩
  · simp only [dropR, if_neg hj]
  · unfold dropO
    split
    · split
      · exact .inr (.inl ⟨_, _, rfl⟩)
      · exact .inr (.inr rfl)
    · exact .inl ⟨_, rfl⟩
  · unfold dropR
    split
    · exact .inr rfl
    · exact .inl rfl

theorem appF_newMap {d0 : Tmp} {o : Obs} : AppF (fun s => s.newMap d0) d0 o (dropO (1, d0) ⟨[], o⟩) (dropR (1, d0)) := by
  refine ⟨fun s hs t ht => ?_, fun s d v hs hd => ?_, fun s hs j cs hj hb => ?_, fun s hs j cs hj _ hb => ?_, fun j cs hj hb off => ?_, fun j => ?_, fun j off => ?_⟩
  · simp only [St.newMap, dropO_o hs]
    rw [List.getElem?_set_ne (Ne.symm ht), subL_getP]
  · have hs' : (St.put s (some d) v).o = o := hs
    simp only [St.newMap]
    rw [dropO_o hs, dropO_o hs']
    simp only [St.put, subL_setP]
    rw [List.set_comm _ _ hd]
  · simp only [St.newMap, dropO_o hs, lookup]
    rw [if_neg (Ne.symm hj), lookup_subO, lookup_erase hj, hs, hb]
    rfl
  · simp only [St.newMap, lookup] at hb
    rw [if_neg (Ne.symm hj), lookup_subO, lookup_erase hj, hs] at hb
    cases hq : lookup j o with
    | none => rw [hq] at hb; simp at hb
    | some ob =>
      rw [hq] at hb
      obtain ⟨cs', rfl⟩ := sub_box hb
      exact ⟨cs', rfl⟩
  · simp only [dropR, if_neg hj]
  · exact appF_newTok (n := 0) (zs := []) |>.ow j
  · exact appF_newTok (n := 0) (zs := []) (o := o) |>.rf j off
/-! a call that is handed no object -/
theorem bk_newId {K : List Id} {d : Nat} {k j : Id} (h : bkId [] K d k = some j) : newId d j = true := by
  unfold bkId at h
  split at h
  · simp at h
  · split at h
    · cases h
      simp [newId, baseN, Nat.ble_eq, Nat.le_add_right]
    · simp at h
theorem lookup_bk {K : List Id} {d : Nat} {k : Id} (hk : newId d k = false) : ∀ o : Obs, lookup k (newO [] (backO [] K d o)) = none
  | [] => rfl
  | (j, ob) :: r => by
    simp only [backO]
    split
    · rename_i j' hj
      simp only [newO, List.contains_nil, Bool.false_eq_true, if_false, lookup]
      rw [if_neg fun e => by rw [← e, bk_newId hj] at hk; cases hk]
      exact lookup_bk hk r
    · exact lookup_bk hk r
theorem lookup_merge {o3 : Obs} {fo : Id → AV} {fr : Id → Nat → AV} {d : Nat} {k : Id} (hk : newId d k = false) : ∀ o : Obs, lookup k (mergeO [] o3 fo fr d o) = (lookup k o).map (Ob.sub fo fr)
  | [] => rfl
  | (j, ob) :: r => by
    simp only [mergeO, List.contains_nil, Bool.false_eq_true, if_false]
    split
    · rename_i hj
      have e : j ≠ k := fun e => by rw [e, hk] at hj; cases hj
      simp only [lookup]
      rw [if_neg e]
      exact lookup_merge hk r
    · simp only [lookup]
      split
      · rfl
      · exact lookup_merge hk r
theorem lookup_app' {k : Id} {o' : Obs} (h : lookup k o' = none) : ∀ o : Obs, lookup k (o ++ o') = lookup k o
  | [] => h
  | (j, ob) :: r => by
    simp only [lookup, List.cons_append]
    split
    · rfl
    · exact lookup_app' h r
theorem lookup_after {rs : List AV} {o2 : Obs} {d0 : Tmp} {s : St} {k : Id} (hk : newId d0 k = false) : lookup k (gAfter s (some d0) [] rs o2).o = (lookup k s.o).map (Ob.sub (shO s.o [] d0) (shR s.o [] d0)) := by
  have e : (gAfter s (some d0) [] rs o2).o = mergeO [] (backO [] (keysN o2) d0 o2) (shO s.o [] d0) (shR s.o [] d0) d0 s.o ++ newO [] (backO [] (keysN o2) d0 o2) := rfl
  rw [e, lookup_app' (lookup_bk hk _), lookup_merge hk]
theorem shR_ref {o : Obs} {d0 : Tmp} {k : Id} {off : Nat} (h : shR o [] d0 k off = .ref k off) : newId d0 k = false := by
  unfold shR at h
  simp only [List.contains_nil, Bool.false_eq_true, if_false] at h
  split at h
  · cases h
  · simpa using (by assumption : ¬ newId d0 k = true)
theorem appF_call {d0 : Tmp} {o : Obs} {rs : List AV} {o2 : Obs} (hn : ∀ p ∈ o, newId d0 p.1 = false) : AppF (fun s => gAfter s (some d0) [] rs o2) d0 o (shO o [] d0) (shR o [] d0) := by
  have hbox : ∀ {k : Id} {ob : Ob}, lookup k o = some ob → newId d0 k = false := fun h => hn _ (lookup_mem h)
  refine ⟨fun s hs t ht => ?_, fun s d v hs hd => ?_, fun s hs j cs hj hb => ?_, fun s hs j cs hj hq hb => ?_, fun j cs hj hb off => ?_, fun j => ?_, fun j off => ?_⟩
  · simp only [gAfter, St.put, Option.getD_some, hs]
    rw [List.getElem?_set_ne (Ne.symm ht), subL_getP]
  · simp only [gAfter, St.put, Option.getD_some, hs, subL_setP]
    rw [List.set_comm _ _ hd]
  · rw [lookup_after (hbox hb), hs, hb]
    rfl
  · obtain ⟨off, hq⟩ := hq
    rw [lookup_after (shR_ref hq), hs] at hb
    cases hq : lookup j o with
    | none => rw [hq] at hb; simp at hb
    | some ob =>
      rw [hq] at hb
      obtain ⟨cs', rfl⟩ := sub_box hb
      exact ⟨cs', rfl⟩
  · simp only [shR, List.contains_nil, Bool.false_eq_true, if_false, hbox hb]
  · simp only [shO, List.contains_nil, Bool.false_or]
    split
    · split
      · exact .inr (.inl ⟨_, _, rfl⟩)
      · exact .inr (.inr rfl)
      · exact .inr (.inr rfl)
    · exact .inl ⟨_, rfl⟩
  · simp only [shR, List.contains_nil, Bool.false_eq_true, if_false]
    split
    · exact .inr rfl
    · exact .inl rfl
theorem idsL_nil {xs : List AV} (h : idsL xs = []) : ∀ x ∈ xs, x.ids = [] := by
  induction xs with
  | nil => simp
  | cons y ys ih =>
    simp only [idsL, List.append_eq_nil_iff] at h
    intro x hx
    rcases List.mem_cons.1 hx with rfl | hx
    · exact h.1
    · exact ih h.2 x hx
theorem idsL_of_nil {xs : List AV} (h : ∀ x ∈ xs, x.ids = []) : idsL xs = [] := by
  induction xs with
  | nil => rfl
  | cons y ys ih => simp only [idsL, h y (by simp), ih fun x hx => h x (by simp [hx]), List.append_nil]
theorem lendA_ids {T : Ctx} {dst : Option Tmp} {o : Obs} {x : AV} (h : x.ids = []) : (lendA T dst o x).ids = [] := by
  unfold lendA
  split
  · split
    · rfl
    · exact h
  · exact h
theorem argA_ids {T : Ctx} {dst : Option Tmp} {t : TypeId} {o : Obs} {x : AV} (h : x.ids = []) : (argA T dst t o x).ids = [] := by
  unfold argA
  split
  · split
    · split
      · rfl
      · exact h
    · exact lendA_ids (nilfix_ids h)
  · exact lendA_ids (nilfix_ids h)
theorem gfOf_ids {T : Ctx} {x : AV} {g : FuncId} {first cap : List AV} (h : gfOf T x = some (g, first, cap)) (hx : x.ids = []) : idsL first = [] ∧ idsL cap = [] := by
  unfold gfOf at h
  split at h
  · split at h
    · cases h
      exact ⟨idsL_of_nil fun y hy => by obtain ⟨z, _, rfl⟩ := List.mem_map.1 hy; rfl, idsL_of_nil fun y hy => by obtain ⟨z, _, rfl⟩ := List.mem_map.1 hy; rfl⟩
    · cases h
  · split at h
    · cases h
      simp only [AV.ids, List.append_eq_nil_iff] at hx
      exact hx
    · cases h
  · cases h
theorem idsL_app : ∀ (xs ys : List AV), idsL (xs ++ ys) = idsL xs ++ idsL ys
  | [], ys => rfl
  | x :: xs, ys => by simp only [List.cons_append, idsL, idsL_app xs ys, List.append_assoc]
theorem reachN_nil (o : Obs) : ∀ n, reachN o n [] = []
  | 0 => rfl
  | n + 1 => by simp only [reachN, idsO, reachN_nil o n, List.append_nil]
section
variable {T : Ctx} {E : Abs}
theorem call_eq {op : Oper} {c : Call} {f : Operand} {d0 : Tmp} (ho : op.op = .call c) (hc : c.callee = .value f) (hd : op.dst = some d0) {s : St} (hp : callPre T c f d0 s = true) :
    ∃ q : Option (List AV × Obs), ∀ {R' : Type} (s' : St) (κ' : St → Option R'), (∀ x ∈ op.op.operands.toList, s'.get T x = s.get T x) → opK T E op s' κ' = (match q with | some (rs, o2) => κ' (gAfter s' (some d0) [] rs o2) | none => none) := by
  simp only [callPre, Bool.and_eq_true, Bool.not_eq_true', List.isEmpty_iff] at hp
  obtain ⟨hw, hn, ha, hg, hf⟩ := hp
  obtain ⟨⟨g, first, cap⟩, hg⟩ := Option.isSome_iff_exists.1 hg
  have hff : f ∈ op.op.operands.toList := by simp [ho, Op.operands, Call.operands, hc]
  have hmem : ∀ x, x ∈ c.args.toList → x ∈ op.op.operands.toList := fun x hx => by
    simp only [ho, Op.operands, Call.operands, hc]
    simp
    exact .inr (by simpa using hx)
  refine ⟨if c.args.size = c.argTypes.size then T.mf g (subL (fwO []) (fwR []) (first ++ ((c.args.toList.zip c.argTypes.toList).map fun p => argA T (some d0) p.2 s.o (s.get T p.1)) ++ cap)) [] else none, ?_⟩
  intro R' s' κ' gt
  have e1 : s'.chill T op.dst c = s' := by
    have e2 : c.args.toList.map (s'.get T) = c.args.toList.map (s.get T) := List.map_congr_left fun x hx => gt x (hmem x hx)
    unfold St.chill
    rw [e2, ha]
    split <;> rfl
  simp only [opK, ho, hc]
  rw [e1, gt f hff, hg]
  simp only []
  split
  · have e3 : (first ++ ((c.args.toList.zip c.argTypes.toList).map fun p => argA T op.dst p.2 s'.o (s'.get T p.1)) ++ cap) = (first ++ ((c.args.toList.zip c.argTypes.toList).map fun p => argA T (some d0) p.2 s.o (s.get T p.1)) ++ cap) := by
      rw [hd]
      congr 2
      refine List.map_congr_left fun p hp => ?_
      have hi : (s.get T p.1).ids = [] := idsL_nil ha _ (List.mem_map.2 ⟨p.1, (List.of_mem_zip hp).1, rfl⟩)
      rw [gt p.1 (hmem _ (List.of_mem_zip hp).1)]
      have el : ∀ x : AV, x.ids = [] → lendA T (some d0) s'.o x = lendA T (some d0) s.o x := fun x hx => by
        unfold lendA
        rw [data_lk (o := s.o) (o' := s'.o) x fun id hi => by rw [hx] at hi; cases hi]
      unfold argA
      split
      · split
        · rfl
        · exact el _ (nilfix_ids hi)
      · exact el _ (nilfix_ids hi)
    rw [e3]
    have e4 : reachL s'.o (first ++ ((c.args.toList.zip c.argTypes.toList).map fun p => argA T (some d0) p.2 s.o (s.get T p.1)) ++ cap) = [] := by
      have : idsL (first ++ ((c.args.toList.zip c.argTypes.toList).map fun p => argA T (some d0) p.2 s.o (s.get T p.1)) ++ cap) = [] := by
        obtain ⟨h1, h2⟩ := gfOf_ids hg hf
        rw [idsL_app, idsL_app, h1, h2, idsL_of_nil]
        · rfl
        · intro y hy
          obtain ⟨p, hp, rfl⟩ := List.mem_map.1 hy
          exact argA_ids (idsL_nil ha _ (List.mem_map.2 ⟨p.1, (List.of_mem_zip hp).1, rfl⟩))
      unfold reachL
      rw [this, reachN_nil]
      rfl
    unfold gcallK
    rw [e4]
    unfold gcallL
    simp only [packO, hd]
    generalize T.mf g _ [] = q
    cases q with
    | none => rfl
    | some q =>
      obtain ⟨rs, o2⟩ := q
      simp only [St.cool, Option.getD_some, hw, Bool.false_eq_true, if_false]
  · rfl
theorem callPre_new {c : Call} {f : Operand} {d0 : Tmp} {s : St} (hp : callPre T c f d0 s = true) : ∀ p ∈ s.o, newId d0 p.1 = false := by
  simp only [callPre, Bool.and_eq_true, Bool.not_eq_true', List.all_eq_true] at hp
  exact fun p h => by simpa using hp.2.1 p h
theorem call_cases {op : Oper} {c : Call} {f : Operand} {d0 : Tmp} (ho : op.op = .call c) (hc : c.callee = .value f) (hd : op.dst = some d0) {R : Type} {s : St} (hp : callPre T c f d0 s = true) {κ : St → Option R} {r : R} (hk : opK T E op s κ = some r) :
    ∃ (F : St → St) (fo : Id → AV) (fr : Id → Nat → AV), AppF F d0 s.o fo fr ∧ κ (F s) = some r ∧ ∀ s' : St, s'.o = s.o → (∀ x ∈ op.op.operands.toList, s'.get T x = s.get T x) → ∀ {R' : Type} (κ' : St → Option R'), opK T E op s' κ' = κ' (F s') := by
  obtain ⟨q, hq⟩ := call_eq (T := T) (E := E) ho hc hd hp
  rw [hq s κ fun _ _ => rfl] at hk
  cases q with
  | none => simp at hk
  | some q =>
    obtain ⟨rs, o2⟩ := q
    exact ⟨_, _, _, appF_call (callPre_new hp), hk, fun s' e gt {_} κ' => by rw [hq s' κ' gt]⟩
end
section
variable {T : Ctx} {E : Abs}
theorem map_cases {op : Oper} {t : TypeId} {d0 : Tmp} (ho : op.op = .makeMap t none) (hd : op.dst = some d0) {R : Type} {s : St} {κ : St → Option R} {r : R} (hk : opK T E op s κ = some r) :
    ∃ (F : St → St) (fo : Id → AV) (fr : Id → Nat → AV), AppF F d0 s.o fo fr ∧ κ (F s) = some r ∧ ∀ s' : St, s'.o = s.o → (∀ x ∈ op.op.operands.toList, s'.get T x = s.get T x) → ∀ {R' : Type} (κ' : St → Option R'), opK T E op s' κ' = κ' (F s') := by
  simp only [opK, ho, hd] at hk
  split at hk
  · rename_i h1 h2 h3
    cases h2
    exact ⟨_, _, _, appF_newMap, hk, fun s' e g {_} κ' => by simp only [opK, ho, hd, h1]⟩
  · rename_i h; cases h
  · simp at hk
theorem app_cases {op : Oper} {c : Call} {d0 : Tmp} (ho : op.op = .call c) (hc : c.callee = .builtin .append) (hd : op.dst = some d0) {R : Type} {s : St} {κ : St → Option R} {r : R} (hk : opK T E op s κ = some r) :
    ∃ (F : St → St) (fo : Id → AV) (fr : Id → Nat → AV), AppF F d0 s.o fo fr ∧ κ (F s) = some r ∧ ∀ s' : St, s'.o = s.o → (∀ x ∈ op.op.operands.toList, s'.get T x = s.get T x) → ∀ {R' : Type} (κ' : St → Option R'), opK T E op s' κ' = κ' (F s') := by
  have key : ∀ {R' : Type} (s : St) (κ' : St → Option R'), opK T E op s κ' = (match c.args.toList, c.argTypes.toList with
      | [x, y], [t, t'] => (match T.td t, T.td t', (nilfix T t' (s.get T y)).data s.o with
        | .slice e, .slice _, some (.sl n' ys) => (match s.get T x with
          | .own k => (match lookup k s.o with
            | some (.tok n xs) => if n = T.sz e ∧ n' = n ∧ (xs.length + ys.length ≤ lim ∨ T.small e = true ∧ xs.length + ys.length ≤ lim2) then κ' (s.grow op.dst k n xs ys) else none
            | some (.arr g n es) => if n = T.sz e ∧ n' = n ∧ es.length + ys.length ≤ lim then κ' (s.growA op.dst k g n es (ys.map fun y => y.cells.map .d)) else none
            | _ => none)
          | x => (match tightOf T t x, op.dst with
            | some (n, xs), some d => if n = T.sz e ∧ n' = n ∧ (xs.length + ys.length ≤ lim ∨ T.small e = true ∧ xs.length + ys.length ≤ lim2) then κ' (s.newTok d n (xs ++ ys)) else none
            | _, _ => none))
        | .slice e, .str, some (.s l) => (match s.get T x with
          | .own k => (match lookup k s.o with
            | some (.tok n xs) => if n = T.sz e ∧ n = 1 ∧ xs.length + l.length ≤ lim then κ' (s.grow op.dst k n xs (l.map encB)) else none
            | _ => none)
          | _ => none)
        | _, _, _ => none)
      | _, _ => none) := fun s κ' => by
        simp only [opK, ho, hc]
        generalize c.args.toList = xs, c.argTypes.toList = ts
        rcases xs with _ | ⟨x, _ | ⟨y, _ | ⟨z, xs⟩⟩⟩ <;> rcases ts with _ | ⟨t, _ | ⟨t', _ | ⟨t'', ts⟩⟩⟩ <;> rfl
  have hmem : ∀ x, x ∈ c.args.toList → x ∈ op.op.operands.toList := fun x hx => by
    simp only [ho, Op.operands, Call.operands, hc]
    simpa using hx
  rw [key s κ, hd] at hk
  split at hk
  · rename_i x y t t' hx ht
    have mx : x ∈ op.op.operands.toList := hmem x (by rw [hx]; simp)
    have my : y ∈ op.op.operands.toList := hmem y (by rw [hx]; simp)
    split at hk
    · rename_i h3 h4 h5
      split at hk
      · rename_i h6
        split at hk
        · rename_i h7
          split at hk
          · rename_i h8
            exact ⟨_, _, _, appF_grow h7, hk, fun s' e g {_} κ' => by rw [key s' κ', hx, ht, hd]; simp only [h3, h4, g y my, g x mx, e, h5, h6, h7]; rw [if_pos h8]⟩
          · simp at hk
        · rename_i h7
          split at hk
          · rename_i h8
            exact ⟨_, _, _, appF_growA h7, hk, fun s' e g {_} κ' => by rw [key s' κ', hx, ht, hd]; simp only [h3, h4, g y my, g x mx, e, h5, h6, h7]; rw [if_pos h8]⟩
          · simp at hk
        · simp at hk
      · split at hk
        · rename_i d' h6 h7
          cases h7
          have hno : ∀ k, s.get T x ≠ .own k := fun k e => by
            rw [e] at h6
            simp [tightOf] at h6
          split at hk
          · rename_i h8
            refine ⟨_, _, _, appF_newTok, hk, fun s' e g {_} κ' => ?_⟩
            rw [key s' κ', hx, ht, hd]
            simp only [h3, h4, g y my, g x mx, e, h5]
            generalize s.get T x = xv at *
            cases xv with
            | own k => exact absurd rfl (hno k)
            | _ =>
              simp only [h6]
              rw [if_pos h8]
          · simp at hk
        · simp at hk
    · rename_i h3 h4 h5
      split at hk
      · rename_i h6
        split at hk
        · rename_i h7
          split at hk
          · rename_i h8
            exact ⟨_, _, _, appF_grow h7, hk, fun s' e g {_} κ' => by rw [key s' κ', hx, ht, hd]; simp only [h3, h4, g y my, g x mx, e, h5, h6, h7]; rw [if_pos h8]⟩
          · simp at hk
        · simp at hk
      · simp at hk
    · simp at hk
  · simp at hk

theorem nilfix_own {t : TypeId} {x : AV} (h : OwnLike x) : nilfix T t x = x := by
  rcases h with ⟨k, rfl⟩ | ⟨n, xs, rfl⟩ | rfl <;> rfl
/-- What only reads: it does the like where all that it looks at is put otherwise alike. -/
theorem rd_both {op : Oper} (h : isRdOp op.op = true) {s s' : St} {fo : Id → AV} {fr : Id → Nat → AV} (hg : ∀ x ∈ op.op.operands.toList, s'.get T x = (s.get T x).sub fo fr)
    (how : ∀ k, OwnLike (fo k)) (hrf : ∀ k off, fr k off = .ref k off ∨ fr k off = .undef)
    (hp : ∀ x ∈ rdArgs op, ∀ id off, s.get T x = .ref id off → (∀ off, fr id off = .ref id off) ∧ ∃ cs, lookup id s.o = some (.box cs) ∧ lookup id s'.o = some (.box (subL fo fr cs)))
    (he : ∀ x ∈ rdArgs op, ∀ id i off, s.get T x ≠ .elt id i off) :
    (∃ v, (∀ {R : Type} (κ : St → Option R), opK T E op s κ = κ (s.put op.dst v)) ∧ ∀ {R : Type} (κ : St → Option R), opK T E op s' κ = κ (s'.put op.dst (v.sub fo fr))) ∨
      ((∀ {R : Type} (κ : St → Option R), opK T E op s κ = none) ∧ ∀ {R : Type} (κ : St → Option R), opK T E op s' κ = none) := by
  cases ho : op.op with
  | move x =>
    have mx : x ∈ op.op.operands.toList := by simp [ho, Op.operands]
    have hx := hg x mx
    refine .inl ⟨nilfix T op.type (s.get T x), fun κ => by simp only [opK, ho], fun κ => ?_⟩
    have : nilfix T op.type ((s.get T x).sub fo fr) = (nilfix T op.type (s.get T x)).sub fo fr := by
      cases hv : s.get T x with
      | d y =>
        simp only [AV.sub]
        unfold nilfix
        split
        · split <;> rfl
        · rfl
      | own k => simp only [AV.sub]; rw [nilfix_own (how k)]; rfl
      | tight n xs => rfl
      | ref id off => simp only [AV.sub]; rcases hrf id off with e | e <;> rw [e] <;> simp only [nilfix, AV.sub, e]
      | elt id i off =>
        simp only [AV.sub, nilfix]
        rcases how id with ⟨k, e⟩ | ⟨n, xs, e⟩ | e <;> rw [e] <;> rfl
      | agg cs => rfl
      | tup cs => rfl
      | clo f as bs => rfl
      | undef => rfl
    simp only [opK, ho, hx, this]
  | load t x =>
    have mx : x ∈ op.op.operands.toList := by simp [ho, Op.operands]
    have mr : x ∈ rdArgs op := by simp [rdArgs, ho, Op.operands]
    have hx := hg x mx
    cases hv : s.get T x with
    | ref id off =>
      obtain ⟨h1, cs, h2, h3⟩ := hp x mr id off hv
      rw [hv, AV.sub, h1] at hx
      by_cases hc : off + T.sz t ≤ cs.length ∧ ((T.td t).agg = true ∨ T.sz t = 1) ∧ (T.td t).ok = true
      · refine .inl ⟨valA (T.td t).agg ((cs.drop off).take (T.sz t)), fun κ => by simp only [opK, ho, hv, h2]; rw [if_pos hc], fun κ => ?_⟩
        simp only [opK, ho, hx, h3, subL_lenP]
        rw [if_pos hc, valA_sub, subL_takeP, subL_dropP]
      · exact .inr ⟨fun κ => by simp only [opK, ho, hv, h2]; rw [if_neg hc], fun κ => by simp only [opK, ho, hx, h3, subL_lenP]; rw [if_neg hc]⟩
    | elt id i off => exact absurd hv (he x mr id i off)
    | d y =>
      rw [hv, AV.sub] at hx
      cases y with
      | ptr cs =>
        by_cases hc : T.sz t ≤ cs.length ∧ ((T.td t).agg = true ∨ T.sz t = 1) ∧ (T.td t).ok = true
        · exact .inl ⟨_, fun κ => by simp only [opK, ho, hv]; rw [if_pos hc], fun κ => by simp only [opK, ho, hx, AV.sub]; rw [if_pos hc]⟩
        · exact .inr ⟨fun κ => by simp only [opK, ho, hv]; rw [if_neg hc], fun κ => by simp only [opK, ho, hx]; rw [if_neg hc]⟩
      | _ => exact .inr ⟨fun κ => by simp only [opK, ho, hv], fun κ => by simp only [opK, ho, hx]⟩
    | own k =>
      rw [hv, AV.sub] at hx
      refine .inr ⟨fun κ => by simp only [opK, ho, hv], fun κ => ?_⟩
      rcases how k with ⟨j, e⟩ | ⟨n, xs, e⟩ | e <;> simp only [opK, ho, hx, e]
    | tight n xs => rw [hv, AV.sub] at hx; exact .inr ⟨fun κ => by simp only [opK, ho, hv], fun κ => by simp only [opK, ho, hx]⟩
    | agg cs => rw [hv, AV.sub] at hx; exact .inr ⟨fun κ => by simp only [opK, ho, hv], fun κ => by simp only [opK, ho, hx]⟩
    | tup cs => rw [hv, AV.sub] at hx; exact .inr ⟨fun κ => by simp only [opK, ho, hv], fun κ => by simp only [opK, ho, hx]⟩
    | clo f as bs => rw [hv, AV.sub] at hx; exact .inr ⟨fun κ => by simp only [opK, ho, hv], fun κ => by simp only [opK, ho, hx]⟩
    | undef => rw [hv, AV.sub] at hx; exact .inr ⟨fun κ => by simp only [opK, ho, hv], fun κ => by simp only [opK, ho, hx]⟩
  | nilCheck x =>
    have mx : x ∈ op.op.operands.toList := by simp [ho, Op.operands]
    have mr : x ∈ rdArgs op := by simp [rdArgs, ho, Op.operands]
    have hx := hg x mx
    cases hv : s.get T x with
    | ref id off =>
      obtain ⟨h1, cs, h2, h3⟩ := hp x mr id off hv
      rw [hv, AV.sub, h1] at hx
      exact .inl ⟨.ref id off, fun κ => by simp only [opK, ho, hv], fun κ => by simp only [opK, ho, hx, AV.sub, h1]⟩
    | elt id i off => exact absurd hv (he x mr id i off)
    | d y =>
      rw [hv, AV.sub] at hx
      cases y with
      | ptr cs => exact .inl ⟨.d (.ptr cs), fun κ => by simp only [opK, ho, hv], fun κ => by simp only [opK, ho, hx, AV.sub]⟩
      | _ => exact .inr ⟨fun κ => by simp only [opK, ho, hv], fun κ => by simp only [opK, ho, hx]⟩
    | own k =>
      rw [hv, AV.sub] at hx
      refine .inr ⟨fun κ => by simp only [opK, ho, hv], fun κ => ?_⟩
      rcases how k with ⟨j, e⟩ | ⟨n, xs, e⟩ | e <;> simp only [opK, ho, hx, e]
    | tight n xs => rw [hv, AV.sub] at hx; exact .inr ⟨fun κ => by simp only [opK, ho, hv], fun κ => by simp only [opK, ho, hx]⟩
    | agg cs => rw [hv, AV.sub] at hx; exact .inr ⟨fun κ => by simp only [opK, ho, hv], fun κ => by simp only [opK, ho, hx]⟩
    | tup cs => rw [hv, AV.sub] at hx; exact .inr ⟨fun κ => by simp only [opK, ho, hv], fun κ => by simp only [opK, ho, hx]⟩
    | clo f as bs => rw [hv, AV.sub] at hx; exact .inr ⟨fun κ => by simp only [opK, ho, hv], fun κ => by simp only [opK, ho, hx]⟩
    | undef => rw [hv, AV.sub] at hx; exact .inr ⟨fun κ => by simp only [opK, ho, hv], fun κ => by simp only [opK, ho, hx]⟩
  | fieldAddr t x i =>
    have mx : x ∈ op.op.operands.toList := by simp [ho, Op.operands]
    have mr : x ∈ rdArgs op := by simp [rdArgs, ho, Op.operands]
    have hx := hg x mx
    cases htd : T.td t with
    | strct fs =>
      cases hf : fs[i]? with
      | none => exact .inr ⟨fun κ => by simp only [opK, ho, htd, hf], fun κ => by simp only [opK, ho, htd, hf]⟩
      | some fo' =>
        obtain ⟨ft, fof⟩ := fo'
        cases hv : s.get T x with
        | ref id off =>
          obtain ⟨h1, cs, h2, h3⟩ := hp x mr id off hv
          rw [hv, AV.sub, h1] at hx
          exact .inl ⟨.ref id (off + fof), fun κ => by simp only [opK, ho, htd, hf, hv], fun κ => by simp only [opK, ho, htd, hf, hx, AV.sub, h1]⟩
        | elt id i off => exact absurd hv (he x mr id i off)
        | d y =>
          rw [hv, AV.sub] at hx
          cases y with
          | ptr cs =>
            by_cases hc : fof ≤ cs.length
            · exact .inl ⟨.d (.ptr (cs.drop fof)), fun κ => by simp only [opK, ho, htd, hf, hv]; rw [if_pos hc], fun κ => by simp only [opK, ho, htd, hf, hx, AV.sub]; rw [if_pos hc]⟩
            · exact .inr ⟨fun κ => by simp only [opK, ho, htd, hf, hv]; rw [if_neg hc], fun κ => by simp only [opK, ho, htd, hf, hx]; rw [if_neg hc]⟩
          | _ => exact .inr ⟨fun κ => by simp only [opK, ho, htd, hf, hv], fun κ => by simp only [opK, ho, htd, hf, hx]⟩
        | own k =>
          rw [hv, AV.sub] at hx
          refine .inr ⟨fun κ => by simp only [opK, ho, htd, hf, hv], fun κ => ?_⟩
          rcases how k with ⟨j, e⟩ | ⟨n, xs, e⟩ | e <;> simp only [opK, ho, htd, hf, hx, e]
        | tight n xs => rw [hv, AV.sub] at hx; exact .inr ⟨fun κ => by simp only [opK, ho, htd, hf, hv], fun κ => by simp only [opK, ho, htd, hf, hx]⟩
        | agg cs => rw [hv, AV.sub] at hx; exact .inr ⟨fun κ => by simp only [opK, ho, htd, hf, hv], fun κ => by simp only [opK, ho, htd, hf, hx]⟩
        | tup cs => rw [hv, AV.sub] at hx; exact .inr ⟨fun κ => by simp only [opK, ho, htd, hf, hv], fun κ => by simp only [opK, ho, htd, hf, hx]⟩
        | clo f as bs => rw [hv, AV.sub] at hx; exact .inr ⟨fun κ => by simp only [opK, ho, htd, hf, hv], fun κ => by simp only [opK, ho, htd, hf, hx]⟩
        | undef => rw [hv, AV.sub] at hx; exact .inr ⟨fun κ => by simp only [opK, ho, htd, hf, hv], fun κ => by simp only [opK, ho, htd, hf, hx]⟩
    | _ => exact .inr ⟨fun κ => by simp only [opK, ho, htd], fun κ => by simp only [opK, ho, htd]⟩
  | _ => simp [ho, isRdOp] at h
/-- Is it a box? -/
def isBx : Option Ob → Bool
  | some (.box _) => true
  | _ => false
theorem isSt_spec {op : Oper} (h : isSt op = true) : ∃ t a x, op.op = .store t a x ∧ op.dst = none ∧ op.guard = none := by
  unfold isSt at h
  split at h
  · rename_i t a x h1 h2 h3
    exact ⟨t, a, x, h1, h2, h3⟩
  · simp at h
theorem bx_upd {o : Obs} {id : Id} {ob ob' : Ob} (hl : lookup id o = some ob) (hb : isBx (some ob) = isBx (some ob')) (k : Id) : isBx (lookup k (update id ob' o)) = isBx (lookup k o) := by
  by_cases hk : k = id
  · subst hk
    rw [lookup_update_same _ hl, hl, hb]
  · rw [lookup_update_ne _ hk]
theorem store_cases {op : Oper} {t : TypeId} {a x : Operand} (ho : op.op = .store t a x) (hd : op.dst = none) {R : Type} {s : St} {κ : St → Option R} {r : R} (hk : opK T E op s κ = some r) :
    ∃ o' : Obs, κ ⟨s.t, o'⟩ = some r ∧ (∀ k, isBx (lookup k o') = isBx (lookup k s.o)) ∧ ∀ s' : St, s'.o = s.o → (∀ y ∈ op.op.operands.toList, s'.get T y = s.get T y) → ∀ {R' : Type} (κ' : St → Option R'), opK T E op s' κ' = κ' ⟨s'.t, o'⟩ := by
  have ma : a ∈ op.op.operands.toList := by simp [ho, Op.operands]
  have mx : x ∈ op.op.operands.toList := by simp [ho, Op.operands]
  simp only [opK, ho, hd] at hk
  split at hk
  · rename_i id off vs h1 h2
    split at hk
    · rename_i cs h3
      split at hk
      · rename_i h4
        refine ⟨_, hk, bx_upd h3 rfl, fun s' e g {_} κ' => ?_⟩
        simp only [opK, ho, hd, g a ma, g x mx, e, h1, h2, h3]
        rw [if_pos h4]
        rfl
      · simp at hk
    · simp at hk
  · rename_i id i off vs h1 h2
    split at hk
    · rename_i g0 n es h3
      split at hk
      · rename_i el h5
        split at hk
        · rename_i h4
          refine ⟨_, hk, bx_upd h3 rfl, fun s' e g {_} κ' => ?_⟩
          simp only [opK, ho, hd, g a ma, g x mx, e, h1, h2, h3, h5]
          rw [if_pos h4]
          rfl
        · simp at hk
      · simp at hk
    · simp at hk
  · simp at hk
/-- What looks at slots alone does the like wherever these are the same. -/
theorem mv_cases {op : Oper} (h : isMvOp op.op = true) (s : St) :
    (∃ v, ∀ s' : St, (∀ y ∈ op.op.operands.toList, s'.get T y = s.get T y) → ∀ {R : Type} (κ : St → Option R), opK T E op s' κ = κ (s'.put op.dst v)) ∨
      ∀ s' : St, (∀ y ∈ op.op.operands.toList, s'.get T y = s.get T y) → ∀ {R : Type} (κ : St → Option R), opK T E op s' κ = none := by
  cases ho : op.op with
  | move x =>
    have mx : x ∈ op.op.operands.toList := by simp [ho, Op.operands]
    rw [← ho]
    exact .inl ⟨nilfix T op.type (s.get T x), fun s' g {_} κ => by simp only [opK, ho, g x mx]⟩
  | nilCheck x =>
    have mx : x ∈ op.op.operands.toList := by simp [ho, Op.operands]
    rw [← ho]
    cases hv : s.get T x with
    | ref id off => exact .inl ⟨.ref id off, fun s' g {_} κ => by simp only [opK, ho, g x mx, hv]⟩
    | elt id i off => exact .inl ⟨.elt id i off, fun s' g {_} κ => by simp only [opK, ho, g x mx, hv]⟩
    | d y =>
      cases y with
      | ptr cs => exact .inl ⟨.d (.ptr cs), fun s' g {_} κ => by simp only [opK, ho, g x mx, hv]⟩
      | _ => exact .inr fun s' g {_} κ => by simp only [opK, ho, g x mx, hv]
    | _ => exact .inr fun s' g {_} κ => by simp only [opK, ho, g x mx, hv]
  | fieldAddr t x i =>
    have mx : x ∈ op.op.operands.toList := by simp [ho, Op.operands]
    rw [← ho]
    cases htd : T.td t with
    | strct fs =>
      cases hf : fs[i]? with
      | none => exact .inr fun s' g {_} κ => by simp only [opK, ho, htd, hf]
      | some fo' =>
        obtain ⟨ft, fof⟩ := fo'
        cases hv : s.get T x with
        | ref id off => exact .inl ⟨.ref id (off + fof), fun s' g {_} κ => by simp only [opK, ho, htd, hf, g x mx, hv]⟩
        | elt id j off => exact .inl ⟨.elt id j (off + fof), fun s' g {_} κ => by simp only [opK, ho, htd, hf, g x mx, hv]⟩
        | d y =>
          cases y with
          | ptr cs =>
            by_cases hc : fof ≤ cs.length
            · exact .inl ⟨.d (.ptr (cs.drop fof)), fun s' g {_} κ => by simp only [opK, ho, htd, hf, g x mx, hv]; rw [if_pos hc]⟩
            · exact .inr fun s' g {_} κ => by simp only [opK, ho, htd, hf, g x mx, hv]; rw [if_neg hc]
          | _ => exact .inr fun s' g {_} κ => by simp only [opK, ho, htd, hf, g x mx, hv]
        | _ => exact .inr fun s' g {_} κ => by simp only [opK, ho, htd, hf, g x mx, hv]
    | _ => exact .inr fun s' g {_} κ => by simp only [opK, ho, htd]
  | _ => simp [ho, isMvOp] at h
end
end Go.Ab
