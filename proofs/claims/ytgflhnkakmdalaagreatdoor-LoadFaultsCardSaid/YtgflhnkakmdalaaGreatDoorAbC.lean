/- One text of a proof that a law of this seat says true for every input: an evaluator of code over data, and that it tells the truth. It holds of the given program under the conditions that the row prints. -/
import Derived.Test.YtgflhnkakmdalaaGreatDoorAbB
import Derived.Scope
import Derived.KernelRfl
set_option linter.unusedSimpArgs false
set_option linter.unusedVariables false
set_option linter.unusedSectionVars false
namespace Go.Ab

/-! # What an operation gives hangs on what it looks at -/

/-! ### what an operation looks at -/
mutual
theorem data_free {o o' : Obs} : ∀ x : AV, x.ids = [] → x.data o' = x.data o
  | .d x, _ => by simp only [AV.data]
  | .own k, h => by simp [AV.ids] at h
  | .tight n xs, _ => by simp only [AV.data]
  | .ref id off, h => by simp [AV.ids] at h
  | .agg cs, h => by simp only [AV.ids] at h; simp only [AV.data, datas_free (o := o) (o' := o') cs h]
  | .tup cs, _ => by simp only [AV.data]
  | .clo f as bs, h => by
    simp only [AV.ids, List.append_eq_nil_iff] at h
    simp only [AV.data, datas_free (o := o) (o' := o') as h.1, datas_free (o := o) (o' := o') bs h.2]
  | .undef, _ => by simp only [AV.data]
theorem datas_free {o o' : Obs} : ∀ xs : List AV, idsL xs = [] → datas o' xs = datas o xs
  | [], _ => by simp only [datas]
  | x :: xs, h => by
    simp only [idsL, List.append_eq_nil_iff] at h
    simp only [datas, data_free (o := o) (o' := o') x h.1, datas_free (o := o) (o' := o') xs h.2]
end
mutual
theorem sub_free {fo : Id → AV} {fr : Id → Nat → AV} : ∀ x : AV, x.ids = [] → x.sub fo fr = x
  | .d x, _ => rfl
  | .own k, h => by simp [AV.ids] at h
  | .tight n xs, _ => rfl
  | .ref id off, h => by simp [AV.ids] at h
  | .agg cs, h => by simp only [AV.ids] at h; simp only [AV.sub, subL_free cs h]
  | .tup cs, h => by simp only [AV.ids] at h; simp only [AV.sub, subL_free cs h]
  | .clo f as bs, h => by
    simp only [AV.ids, List.append_eq_nil_iff] at h
    simp only [AV.sub, subL_free as h.1, subL_free bs h.2]
  | .undef, _ => rfl
theorem subL_free {fo : Id → AV} {fr : Id → Nat → AV} : ∀ xs : List AV, idsL xs = [] → subL fo fr xs = xs
  | [], _ => rfl
  | x :: xs, h => by
    simp only [idsL, List.append_eq_nil_iff] at h
    simp only [subL, sub_free x h.1, subL_free xs h.2]
end
theorem subL_setf {fo : Id → AV} {fr : Id → Nat → AV} {v : AV} (hv : v.ids = []) : ∀ (xs : List AV) (d : Nat), subL fo fr (xs.set d v) = (subL fo fr xs).set d v
  | [], d => rfl
  | x :: xs, 0 => by simp only [List.set_cons_zero, subL, sub_free v hv]
  | x :: xs, d + 1 => by simp only [List.set_cons_succ, subL, subL_setf hv xs d]
theorem subL_get {fo : Id → AV} {fr : Id → Nat → AV} : ∀ (xs : List AV) (d : Nat) (x : AV), xs[d]? = some x → x.ids = [] → (subL fo fr xs)[d]? = some x
  | [], d, x, h, _ => by simp at h
  | y :: xs, 0, x, h, hx => by
    simp at h
    subst h
    simp only [subL, List.getElem?_cons_zero, sub_free y hx]
  | y :: xs, d + 1, x, h, hx => by
    simp only [subL, List.getElem?_cons_succ] at h ⊢
    exact subL_get xs d x h hx

mutual
theorem data_lk {o o' : Obs} : ∀ x : AV, (∀ id ∈ x.ids, lookup id o' = lookup id o) → x.data o' = x.data o
  | .d x, _ => rfl
  | .own k, h => by simp only [AV.data, h k (by simp [AV.ids])]
  | .tight n xs, _ => rfl
  | .ref id off, _ => rfl
  | .elt id i off, _ => rfl
  | .agg cs, h => by simp only [AV.data, datas_lk cs (by simpa only [AV.ids] using h)]
  | .tup cs, _ => rfl
  | .clo f as bs, h => by
    simp only [AV.ids, List.mem_append] at h
    simp only [AV.data, datas_lk as fun id hi => h id (.inl hi), datas_lk bs fun id hi => h id (.inr hi)]
  | .undef, _ => rfl
theorem datas_lk {o o' : Obs} : ∀ xs : List AV, (∀ id ∈ idsL xs, lookup id o' = lookup id o) → datas o' xs = datas o xs
  | [], _ => rfl
  | x :: xs, h => by
    simp only [idsL, List.mem_append] at h
    simp only [datas, data_lk x fun id hi => h id (.inl hi), datas_lk xs fun id hi => h id (.inr hi)]
end
/-- Both states say the same to an operation. -/
structure Alike (T : Ctx) (op : Oper) (s s' : St) : Prop where
  get : ∀ x ∈ op.op.operands.toList, s'.get T x = s.get T x
  data : ∀ x ∈ op.op.operands.toList, (s'.get T x).data s'.o = (s.get T x).data s.o
  o : ∀ x ∈ op.op.operands.toList, ∀ id ∈ (s.get T x).ids, lookup id s'.o = lookup id s.o

theorem nilfix_ids {T : Ctx} {t : TypeId} {x : AV} (h : x.ids = []) : (nilfix T t x).ids = [] := by
  unfold nilfix
  split
  · split <;> simp [AV.ids]
  · exact h
theorem datas_same {o o' : Obs} : ∀ xs : List AV, (∀ x ∈ xs, x.data o' = x.data o) → datas o' xs = datas o xs
  | [], _ => rfl
  | x :: xs, h => by
    simp only [datas, h x (by simp), datas_same xs fun y hy => h y (by simp [hy])]
theorem nilfix_data {T : Ctx} {t : TypeId} {x : AV} {o o' : Obs} (h : x.data o' = x.data o) : (nilfix T t x).data o' = (nilfix T t x).data o := by
  unfold nilfix
  split
  · split <;> simp [AV.data]
  · exact h

section
variable {T : Ctx} {E : Abs}

theorem buildK_same {s s' : St} {fs : List (TypeId × Nat)} : ∀ (ps : List (Nat × Operand)) (cs : List AV), (∀ p ∈ ps, s'.get T p.2 = s.get T p.2) → opK.buildK T s' fs ps cs = opK.buildK T s fs ps cs
  | [], cs, _ => by simp only [opK.buildK]
  | (i, x) :: r, cs, h => by
    simp only [opK.buildK, h (i, x) (by simp)]
    split
    · split
      · split
        · exact buildK_same r _ fun p hp => h p (by simp [hp])
        · rfl
      · rfl
    · rfl

/-- What the operation gives hangs on what it looks at, and it only puts. -/
def Val (T : Ctx) (E : Abs) (op : Oper) : Prop :=
  ∀ {R : Type} {s : St} {κ : St → Option R} {r : R}, opK T E op s κ = some r → ∃ v, κ (s.put op.dst v) = some r ∧
    ∀ {R' : Type} (s' : St) (κ' : St → Option R'), Alike T op s s' → opK T E op s' κ' = κ' (s'.put op.dst v)

theorem val_move {op : Oper} {x : Operand} (ho : op.op = .move x) : Val T E op := by
  intro R s κ r hk
  simp only [opK, ho] at hk
  exact ⟨_, hk, fun s' κ' h => by simp only [opK, ho, h.get x (by simp [ho, Op.operands])]⟩
theorem val_pick {op : Oper} {c x y : Operand} (ho : op.op = .pick c x y) : Val T E op := by
  intro R s κ r hk
  simp only [opK, ho] at hk
  split at hk
  · rename_i t hc
    cases t with
    | true => exact ⟨_, hk, fun s' κ' h => by simp only [opK, ho, h.get c (by simp [ho, Op.operands]), h.get x (by simp [ho, Op.operands]), hc]⟩
    | false => exact ⟨_, hk, fun s' κ' h => by simp only [opK, ho, h.get c (by simp [ho, Op.operands]), h.get y (by simp [ho, Op.operands]), hc]⟩
  · simp at hk
theorem val_unOp {op : Oper} {u : UnOp} {t : TypeId} {x : Operand} (ho : op.op = .unOp u t x) : Val T E op := by
  intro R s κ r hk
  simp only [opK, ho] at hk
  split at hk
  · rename_i b hc
    split at hk
    · exact ⟨_, hk, fun s' κ' h => by simp only [opK, ho, h.get x (by simp [ho, Op.operands]), hc]⟩
    · simp at hk
  · rename_i k n hc
    split at hk
    · exact ⟨_, hk, fun s' κ' h => by simp only [opK, ho, h.get x (by simp [ho, Op.operands]), hc]⟩
    · simp at hk
  · simp at hk
theorem val_binOp {op : Oper} {b : BinOp} {t t' : TypeId} {x y : Operand} (ho : op.op = .binOp b t x y t') : Val T E op := by
  intro R s κ r hk
  simp only [opK, ho] at hk
  have hx : x ∈ op.op.operands.toList := by simp [ho, Op.operands]
  have hy : y ∈ op.op.operands.toList := by simp [ho, Op.operands]
  split at hk
  · rename_i dx dy h1 h2
    split at hk
    · rename_i v hv
      exact ⟨_, hk, fun s' κ' h => by simp only [opK, ho, h.data x hx, h.data y hy, h1, h2, hv]⟩
    · simp at hk
  · rename_i h0
    split at hk
    · rename_i i1 i2 h1 h2
      split at hk
      · rename_i e he
        refine ⟨_, hk, fun s' κ' h => ?_⟩
        simp only [opK, ho, h.get x hx, h.get y hy, h1, h2, AV.data, he]
      · simp at hk
    · rename_i i1 i2 h1 h2
      split at hk
      · rename_i e he
        refine ⟨_, hk, fun s' κ' h => ?_⟩
        simp only [opK, ho, h.get x hx, h.get y hy, h1, h2, AV.data, he]
      · simp at hk
    · simp at hk
theorem val_convert {op : Oper} {t t' : TypeId} {x : Operand} (ho : op.op = .convert t t' x) : Val T E op := by
  intro R s κ r hk
  simp only [opK, ho] at hk
  have hx : x ∈ op.op.operands.toList := by simp [ho, Op.operands]
  split at hk
  · rename_i h1 h2 h3
    exact ⟨_, hk, fun s' κ' h => by simp only [opK, ho, h.data x hx, h1, h2, h3]⟩
  · rename_i h1 h2 h3
    exact ⟨_, hk, fun s' κ' h => by simp only [opK, ho, h.data x hx, h1, h2, h3]⟩
  · rename_i h1 h2 h3
    split at hk
    · rename_i h4
      split at hk
      · rename_i h5
        exact ⟨_, hk, fun s' κ' h => by simp only [opK, ho, h.data x hx, h1, h2, h3, h4, h5]⟩
      · simp at hk
    · simp at hk
  · simp at hk
theorem val_load {op : Oper} {t : TypeId} {x : Operand} (ho : op.op = .load t x) : Val T E op := by
  intro R s κ r hk
  simp only [opK, ho] at hk
  have hx : x ∈ op.op.operands.toList := by simp [ho, Op.operands]
  split at hk
  · rename_i id off h1
    split at hk
    · rename_i cs h2
      split at hk
      · rename_i h3
        refine ⟨_, hk, fun s' κ' h => ?_⟩
        have e := h.o x hx id (by simp [h1, AV.ids])
        simp only [opK, ho, h.get x hx, h1, e, h2, h3, and_self, if_true]
      · simp at hk
    · simp at hk
  · rename_i id i off h1
    split at hk
    · rename_i g n es h2
      split at hk
      · rename_i el h4
        split at hk
        · rename_i h3
          refine ⟨_, hk, fun s' κ' h => ?_⟩
          have e := h.o x hx id (by simp [h1, AV.ids])
          simp only [opK, ho, h.get x hx, h1, e, h2, h4, h3, and_self, if_true]
        · simp at hk
      · simp at hk
    · simp at hk
  · rename_i cs h1
    split at hk
    · rename_i h3
      exact ⟨_, hk, fun s' κ' h => by simp only [opK, ho, h.get x hx, h1, h3, and_self, if_true]⟩
    · simp at hk
  · simp at hk
theorem val_nilCheck {op : Oper} {x : Operand} (ho : op.op = .nilCheck x) : Val T E op := by
  intro R s κ r hk
  simp only [opK, ho] at hk
  have hx : x ∈ op.op.operands.toList := by simp [ho, Op.operands]
  split at hk
  · rename_i h1
    exact ⟨_, hk, fun s' κ' h => by simp only [opK, ho, h.get x hx, h1]⟩
  · rename_i h1
    exact ⟨_, hk, fun s' κ' h => by simp only [opK, ho, h.get x hx, h1]⟩
  · rename_i h1
    exact ⟨_, hk, fun s' κ' h => by simp only [opK, ho, h.get x hx, h1]⟩
  · simp at hk
theorem val_fieldAddr {op : Oper} {t : TypeId} {x : Operand} {i : Nat} (ho : op.op = .fieldAddr t x i) : Val T E op := by
  intro R s κ r hk
  simp only [opK, ho] at hk
  have hx : x ∈ op.op.operands.toList := by simp [ho, Op.operands]
  split at hk
  · rename_i fs h1
    split at hk
    · rename_i h2
      split at hk
      · rename_i h3
        exact ⟨_, hk, fun s' κ' h => by simp only [opK, ho, h.get x hx, h1, h2, h3]⟩
      · rename_i h3
        exact ⟨_, hk, fun s' κ' h => by simp only [opK, ho, h.get x hx, h1, h2, h3]⟩
      · rename_i h3
        split at hk
        · rename_i h4
          exact ⟨_, hk, fun s' κ' h => by simp only [opK, ho, h.get x hx, h1, h2, h3, h4, if_true]⟩
        · simp at hk
      · simp at hk
    · simp at hk
  · simp at hk
theorem val_field {op : Oper} {t : TypeId} {x : Operand} {i : Nat} (ho : op.op = .field t x i) : Val T E op := by
  intro R s κ r hk
  simp only [opK, ho] at hk
  have hx : x ∈ op.op.operands.toList := by simp [ho, Op.operands]
  split at hk
  · rename_i fs h1
    split at hk
    · rename_i h2
      split at hk
      · rename_i h3
        split at hk
        · rename_i h4
          exact ⟨_, hk, fun s' κ' h => by simp only [opK, ho, h.data x hx, h1, h2, h3, h4, and_self, if_true]⟩
        · simp at hk
      · simp at hk
    · simp at hk
  · simp at hk
theorem val_indexAddr {op : Oper} {t : TypeId} {x i : Operand} (ho : op.op = .indexAddr t x i) : Val T E op := by
  intro R s κ r hk
  simp only [opK, ho, atK] at hk
  have hx : x ∈ op.op.operands.toList := by simp [ho, Op.operands]
  have hi : i ∈ op.op.operands.toList := by simp [ho, Op.operands]
  split at hk
  · rename_i h1 h2 h3
    split at hk
    · rename_i h4
      split at hk
      · rename_i h5
        split at hk
        · rename_i h6
          exact ⟨_, hk, fun s' κ' h => by simp only [opK, ho, atK, h.data x hx, h.get i hi, h1, h2, h3, if_pos h4, if_pos h5, h6]⟩
        · simp at hk
      · simp at hk
    · simp at hk
  · rename_i h1 h2 h3
    split at hk
    · rename_i k h4
      split at hk
      · rename_i g n es h5
        split at hk
        · rename_i h6
          split at hk
          · rename_i h7
            split at hk
            · rename_i h8
              refine ⟨_, hk, fun s' κ' h => ?_⟩
              rw [h4] at h2
              have e := h.o x hx k (by simp [h4, AV.ids])
              have h2' : (AV.own k).data s'.o = none := (data_lk (.own k) fun id hi => by simp only [AV.ids, List.mem_singleton] at hi; rw [hi, e]).trans h2
              simp only [opK, ho, atK, e, h.get x hx, h.get i hi, h1, h4, h2', h3, h5, if_pos h6, if_pos h7, h8]
            · simp at hk
          · simp at hk
        · simp at hk
      · simp at hk
    · simp at hk
  · rename_i h1 h2 h3
    split at hk
    · rename_i h4
      exact ⟨_, hk, fun s' κ' h => by simp only [opK, ho, h.data x hx, h.get i hi, h1, h2, h3, if_pos h4]⟩
    · simp at hk
  · simp at hk
theorem val_index {op : Oper} {t : TypeId} {x i : Operand} (ho : op.op = .index t x i) : Val T E op := by
  intro R s κ r hk
  simp only [opK, ho, atK] at hk
  have hx : x ∈ op.op.operands.toList := by simp [ho, Op.operands]
  have hi : i ∈ op.op.operands.toList := by simp [ho, Op.operands]
  split at hk
  · rename_i h1 h2 h3
    split at hk
    · rename_i h5
      split at hk
      · rename_i h6
        exact ⟨_, hk, fun s' κ' h => by simp only [opK, ho, atK, h.get x hx, h.get i hi, h1, h2, h3, if_pos h5, h6]⟩
      · simp at hk
    · simp at hk
  · simp at hk
theorem boundK_same {R R' : Type} {s s' : St} {x : Option Operand} {n : Int} {κ : Int → Option R} {r : R} (h : boundK T s x n κ = some r) (hs : ∀ y, x = some y → s'.get T y = s.get T y) :
    ∃ i, κ i = some r ∧ ∀ κ' : Int → Option R', boundK T s' x n κ' = κ' i := by
  unfold boundK at h
  split at h
  · exact ⟨_, h, fun κ' => rfl⟩
  · rename_i y
    split at h
    · rename_i h1
      exact ⟨_, h, fun κ' => by simp only [boundK, hs y rfl, h1]⟩
    · simp at h
theorem boundK_one {R : Type} {s : St} {x : Option Operand} {n : Int} {κ : Int → Option R} {r : R} (h : boundK T s x n κ = some r) :
    ∃ i, κ i = some r ∧ ∀ {R' : Type} (s' : St) (κ' : Int → Option R'), (∀ y, x = some y → s'.get T y = s.get T y) → boundK T s' x n κ' = κ' i := by
  unfold boundK at h
  split at h
  · exact ⟨_, h, fun s' κ' _ => rfl⟩
  · rename_i y
    split at h
    · rename_i h1
      exact ⟨_, h, fun s' κ' hs => by simp only [boundK, hs y rfl, h1]⟩
    · simp at h
theorem val_slice {op : Oper} {t : TypeId} {x : Operand} {lo hi mx : Option Operand} (ho : op.op = .slice t x lo hi mx) : Val T E op := by
  intro R s κ r hk
  simp only [opK, ho, cutK] at hk
  have hx : x ∈ op.op.operands.toList := by simp [ho, Op.operands]
  have hlo : ∀ y, lo = some y → y ∈ op.op.operands.toList := by rintro y rfl; simp [ho, Op.operands]
  have hhi : ∀ y, hi = some y → y ∈ op.op.operands.toList := by rintro y rfl; simp [ho, Op.operands]
  split at hk
  · rename_i h1 h2
    obtain ⟨i, hk, hi'⟩ := boundK_one hk
    obtain ⟨j, hk, hj'⟩ := boundK_one hk
    split at hk
    · rename_i h4
      exact ⟨_, hk, fun s' κ' h => by simp only [opK, ho, cutK, h.data x hx, h1, h2, hi' s' _ fun y e => h.get y (hlo y e), hj' s' _ fun y e => h.get y (hhi y e), if_pos h4]⟩
    · simp at hk
  · rename_i h1 h2
    split at hk
    · rename_i hn
      obtain ⟨i, hk, hi'⟩ := boundK_one hk
      obtain ⟨j, hk, hj'⟩ := boundK_one hk
      split at hk
      · rename_i h4
        exact ⟨_, hk, fun s' κ' h => by simp only [opK, ho, cutK, h.data x hx, h1, h2, if_pos hn, hi' s' _ fun y e => h.get y (hlo y e), hj' s' _ fun y e => h.get y (hhi y e), if_pos h4]⟩
      · simp at hk
    · simp at hk
  · rename_i mxo h1 h2
    have hmo : mxo ∈ op.op.operands.toList := by simp [ho, Op.operands]
    split at hk
    · rename_i hn
      obtain ⟨i, hk, hi'⟩ := boundK_one hk
      obtain ⟨j, hk, hj'⟩ := boundK_one hk
      obtain ⟨m, hk, hm'⟩ := boundK_one hk
      split at hk
      · rename_i hmj
        split at hk
        · rename_i h4
          exact ⟨_, hk, fun s' κ' h => by simp only [opK, ho, cutK, h.data x hx, h1, h2, if_pos hn, hi' s' _ fun y e => h.get y (hlo y e), hj' s' _ fun y e => h.get y (hhi y e), hm' s' _ fun y e => (by injection e with e; subst e; exact h.get _ hmo), if_pos hmj, if_pos h4]⟩
        · simp at hk
      · simp at hk
    · simp at hk
  · simp at hk
theorem val_build {op : Oper} {t : TypeId} {ps : Array (Nat × Operand)} (ho : op.op = .build t ps) : Val T E op := by
  intro R s κ r hk
  simp only [opK, ho] at hk
  split at hk
  · rename_i fs h1
    split at hk
    · rename_i cs h2
      refine ⟨_, hk, fun s' κ' h => ?_⟩
      simp only [opK, ho, h1]
      rw [buildK_same (s := s) ps.toList _ fun p hp => h.get p.2 (by simpa [ho, Op.operands] using ⟨_, by simpa using hp⟩), h2]
    · simp at hk
  · simp at hk
theorem val_typeAssert {op : Oper} {x : Operand} {t t' : TypeId} {c : Bool} (ho : op.op = .typeAssert x t' t c) : Val T E op := by
  intro R s κ r hk
  have hx : x ∈ op.op.operands.toList := by simp [ho, Op.operands]
  simp only [opK, ho] at hk
  split at hk
  · rename_i v hv
    refine ⟨_, hk, fun s' κ' h => ?_⟩
    simp only [opK, ho, h.get x hx, hv]
  · simp at hk

theorem val_extract {op : Oper} {x : Operand} {i : Nat} (ho : op.op = .extract x i) : Val T E op := by
  intro R s κ r hk
  simp only [opK, ho] at hk
  have hx : x ∈ op.op.operands.toList := by simp [ho, Op.operands]
  split at hk
  · rename_i h1
    split at hk
    · rename_i h2
      exact ⟨_, hk, fun s' κ' h => by simp only [opK, ho, h.get x hx, h1, h2]⟩
    · simp at hk
  · simp at hk
theorem val_makeFunc {op : Oper} {f : Fn} {as bs : Array Operand} (ho : op.op = .makeFunc f as bs) : Val T E op := by
  intro R s κ r hk
  simp only [opK, ho] at hk
  refine ⟨_, hk, fun s' κ' h => ?_⟩
  have h1 : as.toList.map (s'.get T) = as.toList.map (s.get T) := List.map_congr_left fun x hx => h.get x (by simpa [ho, Op.operands] using .inl (by simpa using hx))
  have h2 : bs.toList.map (s'.get T) = bs.toList.map (s.get T) := List.map_congr_left fun x hx => h.get x (by simpa [ho, Op.operands] using .inr (by simpa using hx))
  simp only [opK, ho, h1, h2]
theorem zip_same {s s' : St} : ∀ (xs : List Operand) (ts : List TypeId), (∀ x ∈ xs, s'.get T x = s.get T x) → (xs.zip ts).map (fun p => nilfix T p.2 (s'.get T p.1)) = (xs.zip ts).map (fun p => nilfix T p.2 (s.get T p.1))
  | [], ts, _ => by simp
  | x :: xs, [], _ => by simp
  | x :: xs, t :: ts, h => by simp only [List.zip_cons_cons, List.map_cons, h x (by simp), zip_same xs ts fun y hy => h y (by simp [hy])]
theorem zip_data {s : St} {o o' : Obs} : ∀ (xs : List Operand) (ts : List TypeId), (∀ x ∈ xs, (s.get T x).data o' = (s.get T x).data o) → datas o' ((xs.zip ts).map (fun p => nilfix T p.2 (s.get T p.1))) = datas o ((xs.zip ts).map (fun p => nilfix T p.2 (s.get T p.1)))
  | [], ts, _ => by simp [datas]
  | x :: xs, [], _ => by simp [datas]
  | x :: xs, t :: ts, h => by simp only [List.zip_cons_cons, List.map_cons, datas, nilfix_data (h x (by simp)), zip_data xs ts fun y hy => h y (by simp [hy])]
theorem val_call {op : Oper} {c : Call} (ho : op.op = .call c) (hc : ∀ b, c.callee = .builtin b → b ≠ .append ∧ b ≠ .delete) (hv : ∀ x, c.callee = .value x → ∃ g, x = .func g ∧ T.gf g = false) : Val T E op := by
  intro R s κ r hk
  simp only [opK, ho] at hk
  split at hk
  · rename_i b hb
    split at hk
    · rename_i x t hx ht
      have hx' : x ∈ op.op.operands.toList := by simp [ho, Op.operands, Call.operands, hb, hx]
      split at hk
      · rename_i h1 h2
        exact ⟨_, hk, fun s' κ' h => by simp only [opK, ho, hb, hx, ht, h.data x hx', h1, h2]⟩
      · rename_i h1 h2
        exact ⟨_, hk, fun s' κ' h => by simp only [opK, ho, hb, hx, ht, h.data x hx', h1, h2]⟩
      · rename_i h1 h2
        split at hk
        · rename_i k h4
          split at hk
          · rename_i g n es h5
            refine ⟨_, hk, fun s' κ' h => ?_⟩
            rw [h4] at h2
            have e := h.o x hx' k (by simp [h4, AV.ids])
            have h2' : (AV.own k).data s'.o = none := (data_lk (.own k) fun id hi => by simp only [AV.ids, List.mem_singleton] at hi; rw [hi, e]).trans h2
            simp only [opK, ho, hb, hx, ht, e, h.get x hx', h1, h4, h2', h5]
          · simp at hk
        · simp at hk
      · rename_i h1 h2
        exact ⟨_, hk, fun s' κ' h => by simp only [opK, ho, hb, hx, ht, h.data x hx', h1, h2]⟩
      · rename_i h1 h2
        split at hk
        · rename_i k h4
          split at hk
          · rename_i es h5
            refine ⟨_, hk, fun s' κ' h => ?_⟩
            rw [h4] at h2
            have e := h.o x hx' k (by simp [h4, AV.ids])
            have h2' : (AV.own k).data s'.o = none := (data_lk (.own k) fun id hi => by simp only [AV.ids, List.mem_singleton] at hi; rw [hi, e]).trans h2
            simp only [opK, ho, hb, hx, ht, e, h.get x hx', h1, h4, h2', h5]
          · simp at hk
        · simp at hk
      · simp at hk
    · rename_i x y t t' hx ht
      have hx' : x ∈ op.op.operands.toList := by simp [ho, Op.operands, Call.operands, hb, hx]
      have hy' : y ∈ op.op.operands.toList := by simp [ho, Op.operands, Call.operands, hb, hx]
      split at hk
      · rename_i h1 h2
        exact ⟨_, hk, fun s' κ' h => by simp only [opK, ho, hb, hx, ht, h.get x hx', h.get y hy', h1, h2]⟩
      · simp at hk
    · rename_i x y t t' hx ht
      have hx' : x ∈ op.op.operands.toList := by simp [ho, Op.operands, Call.operands, hb, hx]
      have hy' : y ∈ op.op.operands.toList := by simp [ho, Op.operands, Call.operands, hb, hx]
      split at hk
      · rename_i h1 h2
        exact ⟨_, hk, fun s' κ' h => by simp only [opK, ho, hb, hx, ht, h.get x hx', h.get y hy', h1, h2]⟩
      · simp at hk
    · exact absurd rfl (hc _ hb).2
    · exact absurd rfl (hc _ hb).1
    · simp at hk
  · rename_i f hf
    have hf' : f ∈ op.op.operands.toList := by simp [ho, Op.operands, Call.operands, hf]
    have ha' : ∀ x ∈ c.args.toList, x ∈ op.op.operands.toList := fun x hx => by simp [ho, Op.operands, Call.operands, hf]; exact .inr (by simpa using hx)
    have e0 : ∀ s : St, gfOf T (s.get T f) = none := fun s => by
      obtain ⟨g, rfl, hg⟩ := hv f hf
      simp [St.get, gfOf, hg]
    rw [e0] at hk
    simp only at hk
    split at hk
    · rename_i h1 h2
      split at hk
      · rename_i h3
        split at hk
        · rename_i h4
          refine ⟨_, hk, fun s' κ' h => ?_⟩
          have e1 := zip_same (T := T) c.args.toList c.argTypes.toList fun x hx => h.get x (ha' x hx)
          have e2 := zip_data (T := T) (s := s) (o := s.o) (o' := s'.o) c.args.toList c.argTypes.toList fun x hx => by rw [← h.data x (ha' x hx), h.get x (ha' x hx)]
          simp only [opK, ho, hf, e0, h.data f hf', e1, e2, h1, h2, if_pos h3, h4]
        · simp at hk
      · simp at hk
    · simp at hk
  · rename_i f name hf
    have hf' : f ∈ op.op.operands.toList := by simp [ho, Op.operands, Call.operands, hf]
    have ha' : ∀ x ∈ c.args.toList, x ∈ op.op.operands.toList := fun x hx => by simp [ho, Op.operands, Call.operands, hf]; exact .inr (by simpa using hx)
    split at hk
    · rename_i h1 h2
      split at hk
      · rename_i h3
        split at hk
        · rename_i h5
          split at hk
          · rename_i h4
            refine ⟨_, hk, fun s' κ' h => ?_⟩
            have e1 := zip_same (T := T) c.args.toList c.argTypes.toList fun x hx => h.get x (ha' x hx)
            have e2 := zip_data (T := T) (s := s) (o := s.o) (o' := s'.o) c.args.toList c.argTypes.toList fun x hx => by rw [← h.data x (ha' x hx), h.get x (ha' x hx)]
            simp only [opK, ho, hf, h.get f hf', e1, e2, h1, h2, if_pos h3, h4, h5]
          · simp at hk
        · simp at hk
      · simp at hk
    · simp at hk
theorem val_makeInterface {op : Oper} {t : TypeId} {x : Operand} (ho : op.op = .makeInterface t x) : ∀ {R : Type} {s : St} {κ : St → Option R} {r : R}, (s.get T x).ids = [] → opK T E op s κ = some r → ∃ v, κ (s.put op.dst v) = some r ∧
    ∀ {R' : Type} (s' : St) (κ' : St → Option R'), Alike T op s s' → opK T E op s' κ' = κ' (s'.put op.dst v) := by
  intro R s κ r hid hk
  simp only [opK, ho] at hk
  have hx : x ∈ op.op.operands.toList := by simp [ho, Op.operands]
  split at hk
  · simp at hk
  · simp at hk
  · rename_i h1 h2
    split at hk
    · rename_i d hd
      refine ⟨_, hk, fun s' κ' h => ?_⟩
      have e : (nilfix T t (s'.get T x)).data s'.o = some d := by
        rw [h.get x hx, nilfix_data (o := s.o) (by rw [← h.data x hx, h.get x hx]), hd]
      simp only [opK, ho, e]
    · split at hk
      · rename_i h3
        simp [h3, AV.ids] at hid
      · simp at hk
theorem val_buildSlice {op : Oper} {t : TypeId} {n : Nat} {ps : Array (Nat × Operand)} (ho : op.op = .buildSlice t (n + 1) ps) (hi : op.type = iceMark) : Val T E op := by
  intro R s κ r hk
  have hb : bldW T op = none := by unfold bldW; split <;> simp [hi]
  simp only [opK, ho, hb] at hk
  have hp : ∀ p ∈ ps.toList, p.2 ∈ op.op.operands.toList := fun p hp => by simpa [ho, Op.operands] using ⟨_, by simpa using hp⟩
  split at hk
  · rename_i e h1
    split at hk
    · rename_i xs h2
      split at hk
      · rename_i h3
        split at hk
        · rename_i h4
          refine ⟨_, hk, fun s' κ' h => ?_⟩
          have e1 : ps.toList.map (fun p => nilfix T e (s'.get T p.2)) = ps.toList.map (fun p => nilfix T e (s.get T p.2)) := List.map_congr_left fun p hq => by rw [h.get _ (hp p hq)]
          have e2 : datas s'.o (ps.toList.map (fun p => nilfix T e (s.get T p.2))) = datas s.o (ps.toList.map (fun p => nilfix T e (s.get T p.2))) := datas_same _ fun y hy => by
            obtain ⟨p, hq, rfl⟩ := List.mem_map.1 hy
            exact nilfix_data (by rw [← h.data _ (hp p hq), h.get _ (hp p hq)])
          simp only [opK, ho, h1, e1, e2, h2, hb, if_pos h3, if_pos h4]
        · simp at hk
      · simp at hk
    · simp at hk
  · simp at hk

theorem cells_ids {x : AV} {cs : List AV} (hx : x.ids = []) (h : x.cells = some cs) : idsL cs = [] := by
  have hd : ∀ ds : List D, idsL (ds.map .d) = [] := by
    intro ds
    induction ds with
    | nil => rfl
    | cons d ds ih => simp only [List.map_cons, idsL, AV.ids, ih, List.append_nil]
  unfold AV.cells at h
  split at h
  · rename_i as
    split at h
    · simp only [Option.some.injEq] at h
      subst h
      simpa only [AV.ids] using hx
    · simp at h
  · split at h
    · simp only [Option.some.injEq] at h
      subst h
      exact hd _
    · simp at h
  · split at h
    · simp only [Option.some.injEq] at h
      subst h
      simp only [idsL, hx, List.append_nil]
    · simp at h
theorem cells_sub {x : AV} {cs : List AV} (h : x.cells = some cs) {id : Id} (hi : id ∈ idsL cs) : id ∈ x.ids := by
  have hd : ∀ ds : List D, idsL (ds.map .d) = [] := by
    intro ds
    induction ds with
    | nil => rfl
    | cons d ds ih => simp only [List.map_cons, idsL, AV.ids, ih, List.append_nil]
  unfold AV.cells at h
  split at h
  · rename_i as
    split at h
    · simp only [Option.some.injEq] at h
      subst h
      simpa only [AV.ids] using hi
    · simp at h
  · split at h
    · simp only [Option.some.injEq] at h
      subst h
      rw [hd] at hi
      simp at hi
    · simp at h
  · split at h
    · simp only [Option.some.injEq] at h
      subst h
      simpa only [idsL, List.append_nil] using hi
    · simp at h
theorem nilfix_sub {T : Ctx} {t : TypeId} {x : AV} {id : Id} (h : id ∈ (nilfix T t x).ids) : id ∈ x.ids := by
  unfold nilfix at h
  split at h
  · split at h <;> simp [AV.ids] at h
  · exact h
theorem val_box {op : Oper} {t : TypeId} {x : Operand} (ho : op.op = .box t x) (hi : op.type = iceMark) : Val T E op := by
  intro R s κ r hk
  have hx : x ∈ op.op.operands.toList := by simp [ho, Op.operands]
  simp only [opK, ho, if_pos hi] at hk
  split at hk
  · rename_i cs h1
    split at hk
    · rename_i ds h2
      split at hk
      · rename_i h3
        refine ⟨_, hk, fun s' κ' h => ?_⟩
        have e : datas s'.o cs = datas s.o cs := by
          refine datas_lk cs fun id hi => h.o x hx id ?_
          exact nilfix_sub (cells_sub h1 hi)
        simp only [opK, ho, if_pos hi, h.get x hx, h1, e, h2, if_pos h3]
      · simp at hk
    · simp at hk
  · simp at hk

theorem val_lookup {op : Oper} {t : TypeId} {x i : Operand} {c : Bool} (ho : op.op = .lookup t x i c) : Val T E op := by
  intro R s κ r hk
  have hx' : x ∈ op.op.operands.toList := by simp [ho, Op.operands]
  have hi' : i ∈ op.op.operands.toList := by simp [ho, Op.operands]
  simp only [opK, ho] at hk
  split at hk
  · rename_i h1 h2
    split at hk
    · rename_i h3
      split at hk
      · rename_i id h4
        split at hk
        · rename_i es h5
          split at hk
          · rename_i h6
            refine ⟨_, hk, fun s' κ' h => ?_⟩
            have e := h.o x hx' id (by simp [h4, AV.ids])
            have h2' := (h.data i hi').trans h2
            simp only [opK, ho, h2', h.get x hx', h1, if_pos h3, h4, e, h5, h6]
          · rename_i h6
            refine ⟨_, hk, fun s' κ' h => ?_⟩
            have e := h.o x hx' id (by simp [h4, AV.ids])
            have h2' := (h.data i hi').trans h2
            simp only [opK, ho, h2', h.get x hx', h1, if_pos h3, h4, e, h5, h6]
          · simp at hk
        · simp at hk
      · rename_i h4
        refine ⟨_, hk, fun s' κ' h => ?_⟩
        simp only [opK, ho, h.data i hi', h.get x hx', h1, h2, if_pos h3, h4]
      · simp at hk
    · simp at hk
  · simp at hk
theorem val_op {op : Oper} {ops : Array Oper} {fr : List Nat} (hb : isB T.gf ops fr op = false) (hm : isMk op = false) (hna : ∀ x, op.op ≠ .assign x) : Val T E op := by
  intro R s κ r hk
  cases ho : op.op with
  | move x => exact val_move ho hk
  | pick c x y => exact val_pick ho hk
  | unOp u t x => exact val_unOp ho hk
  | binOp b t x y t' => exact val_binOp ho hk
  | convert t t' x => exact val_convert ho hk
  | load t x => exact val_load ho hk
  | nilCheck x => exact val_nilCheck ho hk
  | fieldAddr t x i => exact val_fieldAddr ho hk
  | field t x i => exact val_field ho hk
  | indexAddr t x i => exact val_indexAddr ho hk
  | index t x i => exact val_index ho hk
  | slice t x lo hi mx => exact val_slice ho hk
  | build t ps => exact val_build ho hk
  | typeAssert x t' t c => exact val_typeAssert ho hk
  | extract x i => exact val_extract ho hk
  | makeFunc f as bs => exact val_makeFunc ho hk
  | lookup t x i c => exact val_lookup ho hk
  | makeMap t r => simp [isB, ho] at hb
  | mapUpdate t m k v => simp [isB, ho] at hb
  | insert t m k v => simp [isB, ho] at hb
  | makeSlice t l c => simp [isB, ho] at hb
  | makeInterface t x => simp [isMk, ho] at hm
  | alloc t => simp [isB, ho] at hb
  | box t x =>
    simp [isB, ho] at hb
    exact val_box ho hb hk
  | store t a x => simp [isB, ho] at hb
  | assign x => exact absurd ho (hna x)
  | buildSlice t n ps =>
    cases n with
    | zero => simp [isB, ho] at hb
    | succ n =>
      simp [isB, ho] at hb
      exact val_buildSlice ho hb hk
  | call c =>
    refine val_call ho (fun b e => ⟨fun he => ?_, fun he => ?_⟩) (fun x e => ?_) hk
    · subst he
      simp [isB, ho, e] at hb
    · subst he
      simp [isB, ho, e] at hb
    · cases x <;> simp [isB, ho, e] at hb
      exact ⟨_, rfl, hb⟩
  | _ => simp [opK, ho] at hk

/-- It turns objects, but not what is free of them. -/
structure Turn (T : Ctx) (E : Abs) (op : Oper) : Prop where
  step : ∀ {R : Type} {s : St} {κ : St → Option R} {r : R}, opK T E op s κ = some r → ∃ s', κ s' = some r ∧ (∀ {R' : Type} (κ' : St → Option R'), opK T E op s κ' = κ' s') ∧
    ∀ d x, op.dst ≠ some d → s.t[d]? = some x → x.ids = [] → s'.t[d]? = some x
  frame : ∀ {R : Type} (s : St) (κ : St → Option R) (d : Tmp) (v : AV), op.dst ≠ some d → v.ids = [] → .tmp d ∉ op.op.operands.toList →
    opK T E op (s.put (some d) v) κ = opK T E op s fun s' => κ (s'.put (some d) v)

theorem get_put {s : St} {d : Tmp} {v : AV} {x : Operand} (h : x ≠ .tmp d) : (s.put (some d) v).get T x = s.get T x := by
  cases x with
  | tmp t =>
    have hne : d ≠ t := fun e => h (by rw [e])
    simp only [St.put, St.get, List.getD_eq_getElem?_getD, List.getElem?_set_ne hne]
  | const v => rfl
  | global g => rfl
  | func f => rfl
theorem put_put {s : St} {d e : Tmp} {v u : AV} (h : d ≠ e) : (s.put (some d) v).put (some e) u = (s.put (some e) u).put (some d) v := by
  simp only [St.put, List.set_comm _ _ h]
theorem put_put' {s : St} {d : Tmp} {e : Option Tmp} {v u : AV} (h : e ≠ some d) : (s.put (some d) v).put e u = (s.put e u).put (some d) v := by
  cases e with
  | none => rfl
  | some e => exact put_put fun he => h (by rw [he])
theorem newBox_put {s : St} {d e : Tmp} {v : AV} {cs : List AV} (h : d ≠ e) (hv : v.ids = []) : (s.put (some d) v).newBox e cs = (s.newBox e cs).put (some d) v := by
  simp only [St.put, St.newBox, subL_setf hv, List.set_comm _ _ h]
  rfl
theorem newTok_put {s : St} {d e : Tmp} {v : AV} {n : Nat} {xs : List D} (h : d ≠ e) (hv : v.ids = []) : (s.put (some d) v).newTok e n xs = (s.newTok e n xs).put (some d) v := by
  simp only [St.put, St.newTok, subL_setf hv, List.set_comm _ _ h]
  rfl
theorem newMap_put {s : St} {d e : Tmp} {v : AV} (h : d ≠ e) (hv : v.ids = []) : (s.put (some d) v).newMap e = (s.newMap e).put (some d) v := by
  simp only [St.put, St.newMap, subL_setf hv, List.set_comm _ _ h]
  rfl
theorem newArr_put {s : St} {d e : Tmp} {v : AV} {g : Bool} {n : Nat} {es : List (List AV)} (h : d ≠ e) (hv : v.ids = []) : (s.put (some d) v).newArr e g n es = (s.newArr e g n es).put (some d) v := by
  simp only [St.put, St.newArr, subL_setf hv, List.set_comm _ _ h]
  rfl
theorem grow_put {s : St} {d : Tmp} {e : Option Tmp} {v : AV} {id : Id} {n : Nat} {xs ys : List D} (h : e ≠ some d) (hv : v.ids = []) : (s.put (some d) v).grow e id n xs ys = (s.grow e id n xs ys).put (some d) v := by
  cases e with
  | none => simp only [St.put, St.grow, subL_setf hv]
  | some e => simp only [St.put, St.grow, subL_setf hv, List.set_comm _ _ (fun he : d = e => h (by rw [he]))]
theorem growA_put {s : St} {d : Tmp} {e : Option Tmp} {v : AV} {id : Id} {g : Bool} {n : Nat} {es fs : List (List AV)} (h : e ≠ some d) (hv : v.ids = []) : (s.put (some d) v).growA e id g n es fs = (s.growA e id g n es fs).put (some d) v := by
  cases e with
  | none => simp only [St.put, St.growA, subL_setf hv]
  | some e => simp only [St.put, St.growA, subL_setf hv, List.set_comm _ _ (fun he : d = e => h (by rw [he]))]
theorem ice_put {s : St} {d : Tmp} {v : AV} {id : Id} {cs : List D} (hv : v.ids = []) : (s.put (some d) v).ice id cs = (s.ice id cs).put (some d) v := by
  simp only [St.put, St.ice, subL_setf hv]

end
end Go.Ab

namespace Go.Ab

section
variable {T : Ctx} {E : Abs}

theorem put_keeps {s : St} {d e : Nat} {v x : AV} (h : some e ≠ some d) (hx : s.t[d]? = some x) : (s.put (some e) v).t[d]? = some x := by
  have : e ≠ d := fun he => h (by rw [he])
  simp only [St.put, List.getElem?_set_ne this, hx]
theorem put_keeps' {s : St} {d : Nat} {e : Option Tmp} {v x : AV} (h : e ≠ some d) (hx : s.t[d]? = some x) : (s.put e v).t[d]? = some x := by
  cases e with
  | none => exact hx
  | some e => exact put_keeps h hx
theorem newBox_keeps {s : St} {d e : Nat} {cs : List AV} {x : AV} (h : some e ≠ some d) (hx : s.t[d]? = some x) (hf : x.ids = []) : (s.newBox e cs).t[d]? = some x := by
  have : e ≠ d := fun he => h (by rw [he])
  simp only [St.newBox, List.getElem?_set_ne this]
  exact subL_get _ _ _ hx hf
theorem newTok_keeps {s : St} {d e : Nat} {n : Nat} {xs : List D} {x : AV} (h : some e ≠ some d) (hx : s.t[d]? = some x) (hf : x.ids = []) : (s.newTok e n xs).t[d]? = some x := by
  have : e ≠ d := fun he => h (by rw [he])
  simp only [St.newTok, List.getElem?_set_ne this]
  exact subL_get _ _ _ hx hf

theorem turn_alloc {op : Oper} {t : TypeId} (ho : op.op = .alloc t) : Turn T E op := by
  constructor
  · intro R s κ r hk
    simp only [opK, ho] at hk
    split at hk
    · rename_i d hd
      split at hk
      · rename_i hz
        exact ⟨_, hk, fun κ' => by simp only [opK, ho, hd, if_pos hz], fun e x he hx hf => newBox_keeps (hd ▸ he) hx hf⟩
      · simp at hk
    · simp at hk
  · intro R s κ d v hd hv hn
    simp only [opK, ho]
    split
    · rename_i e he
      have : d ≠ e := fun h => hd (by rw [he, h])
      split
      · rw [newBox_put this hv]
      · rfl
    · rfl
theorem turn_box {op : Oper} {t : TypeId} {x : Operand} (ho : op.op = .box t x) (hi : op.type ≠ iceMark) : Turn T E op := by
  constructor
  · intro R s κ r hk
    simp only [opK, ho, if_neg hi] at hk
    split at hk
    · rename_i d cs hd hcs
      exact ⟨_, hk, fun κ' => by simp only [opK, ho, if_neg hi, hd, hcs], fun e x he hx hf => newBox_keeps (hd ▸ he) hx hf⟩
    · simp at hk
  · intro R s κ d v hd hv hn
    have hx : x ≠ .tmp d := fun h => hn (by simp [ho, Op.operands, h])
    simp only [opK, ho, if_neg hi, get_put hx]
    split
    · rename_i e cs he _
      have : d ≠ e := fun h => hd (by rw [he, h])
      rw [newBox_put this hv]
    · rfl
theorem turn_store {op : Oper} {t : TypeId} {a x : Operand} (ho : op.op = .store t a x) : Turn T E op := by
  constructor
  · intro R s κ r hk
    simp only [opK, ho] at hk
    split at hk
    · rename_i id off vs h1 h2
      split at hk
      · rename_i cs h3
        split at hk
        · rename_i h4
          refine ⟨_, hk, fun κ' => by simp only [opK, ho, h1, h2, h3, if_pos h4], fun e x he hx hf => ?_⟩
          exact put_keeps' he hx
        · simp at hk
      · simp at hk
    · rename_i id i off vs h1 h2
      split at hk
      · rename_i g n es h3
        split at hk
        · rename_i el h5
          split at hk
          · rename_i h4
            refine ⟨_, hk, fun κ' => by simp only [opK, ho, h1, h2, h3, h5, if_pos h4], fun e x he hx hf => ?_⟩
            exact put_keeps' he hx
          · simp at hk
        · simp at hk
      · simp at hk
    · simp at hk
  · intro R s κ d v hd hv hn
    have ha : a ≠ .tmp d := fun h => hn (by simp [ho, Op.operands, h])
    have hx : x ≠ .tmp d := fun h => hn (by simp [ho, Op.operands, h])
    simp only [opK, ho, get_put hx, get_put ha]
    split
    · have e0 : (s.put (some d) v).o = s.o := rfl
      simp only [e0]
      split
      · split
        · rw [← put_put' hd]
          rfl
        · rfl
      · rfl
    · have e0 : (s.put (some d) v).o = s.o := rfl
      simp only [e0]
      split
      · split
        · split
          · rw [← put_put' hd]
            rfl
          · rfl
        · rfl
      · rfl
    · rfl
theorem newArr_keeps {s : St} {d e : Nat} {g : Bool} {n : Nat} {es : List (List AV)} {x : AV} (h : some e ≠ some d) (hx : s.t[d]? = some x) (hf : x.ids = []) : (s.newArr e g n es).t[d]? = some x := by
  have : e ≠ d := fun he => h (by rw [he])
  simp only [St.newArr, List.getElem?_set_ne this]
  exact subL_get _ _ _ hx hf
theorem turn_buildSlice {op : Oper} {t : TypeId} {n : Nat} {ps : Array (Nat × Operand)} (ho : op.op = .buildSlice t n ps) : Turn T E op := by
  have hmap : ∀ (s : St) (d : Tmp) (v : AV) (e : TypeId), .tmp d ∉ op.op.operands.toList → ps.toList.map (fun p => nilfix T e ((s.put (some d) v).get T p.2)) = ps.toList.map (fun p => nilfix T e (s.get T p.2)) := by
    intro s d v e hn
    refine List.map_congr_left fun p hp => ?_
    rw [get_put]
    intro he
    exact hn (by simp [ho, Op.operands]; exact ⟨p.1, by rw [← he]; simpa using hp⟩)
  have hdst : ∀ d, bldW T op = some d → op.dst = some d := by
    intro d h
    unfold bldW at h
    split at h
    · rename_i e he
      split at h
      · cases h; exact he
      · simp at h
    · simp at h
  constructor
  · intro R s κ r hk
    simp only [opK, ho] at hk
    split at hk
    · rename_i e h1
      split at hk
      · rename_i xs h2
        split at hk
        · rename_i h3
          split at hk
          · rename_i d hd
            exact ⟨_, hk, fun κ' => by simp only [opK, ho, h1, h2, if_pos h3, hd], fun e x he hx hf => newTok_keeps (hd ▸ he) hx hf⟩
          · rename_i h0
            split at hk
            · rename_i h4
              have step : ∀ {R' : Type} (κ' : St → Option R'), opK T E op s κ' = (match bldW T op with
                  | some d => κ' (s.newArr d (T.td e).agg (T.sz e) (xs.map fun x => x.cells.map .d))
                  | none => κ' (s.put op.dst (.tight (T.sz e) xs))) := fun κ' => by
                simp only [opK, ho, h1, h2, if_pos h3, if_pos h4]
                split <;> simp_all
              split at hk
              · rename_i d hb
                exact ⟨_, hk, fun κ' => by rw [step κ', hb], fun e x he hx hf => newArr_keeps (hdst d hb ▸ he) hx hf⟩
              · rename_i hb
                exact ⟨_, hk, fun κ' => by rw [step κ', hb], fun e x he hx hf => put_keeps' he hx⟩
            · simp at hk
        · simp at hk
      · simp at hk
    · simp at hk
  · intro R s κ d v hd hv hn
    simp only [opK, ho, hmap s d v _ hn]
    have e0 : (s.put (some d) v).o = s.o := rfl
    simp only [e0]
    split
    · split
      · split
        · split
          · have hh := ‹op.dst = some _›
            rw [newTok_put (fun h => hd (by rw [hh, h])) hv]
          · split
            · split
              · rename_i d' hb
                rw [newArr_put (fun h => hd (by rw [hdst d' hb, h])) hv]
              · rw [put_put' hd]
            · rfl
        · rfl
      · rfl
    · rfl
theorem ice_keeps {s : St} {d : Nat} {e : Option Tmp} {id : Id} {cs : List D} {x v : AV} (h : e ≠ some d) (hx : s.t[d]? = some x) (hf : x.ids = []) : ((s.ice id cs).put e v).t[d]? = some x :=
  put_keeps' h (subL_get _ _ _ hx hf)
theorem turn_makeInterface {op : Oper} {t : TypeId} {x : Operand} (ho : op.op = .makeInterface t x) : Turn T E op := by
  constructor
  · intro R s κ r hk
    have key : ∀ {R' : Type} (κ' : St → Option R'), opK T E op s κ' = (match T.td t with
      | .iface _ => none
      | .other => none
      | _ => (match (nilfix T t (s.get T x)).data s.o with
        | some x => κ' (s.put op.dst (.d (.ifc t x)))
        | none => (match s.get T x with
          | .ref id 0 => if id.1 = 0 then none else (match lookup id s.o with
            | some (.box cs) => (match datas s.o cs with | some ds => if ds.all D.cell then κ' ((s.ice id ds).put op.dst (.d (.ifc t (.ptr ds)))) else none | none => none)
            | _ => none)
          | _ => none))) := fun κ' => by
        simp only [opK, ho]
        rfl
    rw [key κ] at hk
    split at hk
    · simp at hk
    · simp at hk
    · rename_i h1 h2
      split at hk
      · exact ⟨_, hk, fun κ' => by rw [key κ']; split <;> simp_all, fun e x he hx hf => put_keeps' he hx⟩
      · split at hk
        · split at hk
          · simp at hk
          · split at hk
            · split at hk
              · split at hk
                · exact ⟨_, hk, fun κ' => by rw [key κ']; split <;> simp_all, fun e x he hx hf => ice_keeps he hx hf⟩
                · simp at hk
              · simp at hk
            · simp at hk
        · simp at hk
  · intro R s κ d v hd hv hn
    have hx : x ≠ .tmp d := fun h => hn (by simp [ho, Op.operands, h])
    have e0 : (s.put (some d) v).o = s.o := rfl
    simp only [opK, ho, get_put hx, e0, put_put' hd, ice_put hv]
theorem grow_keeps {s : St} {d : Nat} {e : Option Tmp} {id : Id} {n : Nat} {xs ys : List D} {x : AV} (h : e ≠ some d) (hx : s.t[d]? = some x) (hf : x.ids = []) : (s.grow e id n xs ys).t[d]? = some x :=
  put_keeps' h (subL_get _ _ _ hx hf)
theorem growA_keeps {s : St} {d : Nat} {e : Option Tmp} {id : Id} {g : Bool} {n : Nat} {es fs : List (List AV)} {x : AV} (h : e ≠ some d) (hx : s.t[d]? = some x) (hf : x.ids = []) : (s.growA e id g n es fs).t[d]? = some x :=
  put_keeps' h (subL_get _ _ _ hx hf)
theorem turn_append {op : Oper} {c : Call} (ho : op.op = .call c) (hc : c.callee = .builtin .append) : Turn T E op := by
  constructor
  · intro R s κ r hk
    have key : ∀ {R' : Type} (κ' : St → Option R'), opK T E op s κ' = (match c.args.toList, c.argTypes.toList with
      | [x, y], [t, t'] => (match T.td t, T.td t', (nilfix T t' (s.get T y)).data s.o with
        | .slice e, .slice _, some (.sl n' ys) => (match s.get T x with
          | .own k => (match lookup k s.o with
            | some (.tok n xs) => if n = T.sz e ∧ n' = n ∧ (xs.length + ys.length ≤ lim ∨ T.small e = true ∧ xs.length + ys.length ≤ lim2) then κ' (s.grow op.dst k n xs ys) else none
            | some (.arr g n es) => if n = T.sz e ∧ n' = n ∧ es.length + ys.length ≤ lim then κ' (s.growA op.dst k g n es (ys.map fun y => y.cells.map .d)) else none
            | _ => none)
          | x => (match tightOf T t x, op.dst with
            | some (n, xs), some d => if n = T.sz e ∧ n' = n ∧ (xs.length + ys.length ≤ lim ∨ T.small e = true ∧ xs.length + ys.length ≤ lim2) then κ' (s.newTok d n (xs ++ ys)) else none
            | _, _ => none))
        | .slice e, .str, some (.s l) => (match s.get T x with
          | .own k => (match lookup k s.o with
            | some (.tok n xs) => if n = T.sz e ∧ n = 1 ∧ xs.length + l.length ≤ lim then κ' (s.grow op.dst k n xs (l.map encB)) else none
            | _ => none)
          | _ => none)
        | _, _, _ => none)
      | _, _ => none) := fun κ' => by
        simp only [opK, ho, hc]
        generalize c.args.toList = xs, c.argTypes.toList = ts
        rcases xs with _ | ⟨x, _ | ⟨y, _ | ⟨z, xs⟩⟩⟩ <;> rcases ts with _ | ⟨t, _ | ⟨t', _ | ⟨t'', ts⟩⟩⟩ <;> rfl
    rw [key κ] at hk
    split at hk
    · rename_i x y t t' hx ht
      split at hk
      · rename_i h3 h4 h5
        split at hk
        · rename_i h6
          split at hk
          · rename_i h7
            split at hk
            · rename_i h8
              exact ⟨_, hk, fun κ' => by rw [key κ', hx, ht]; simp only [h3, h4, h5, h6, h7]; rw [if_pos h8], fun e x he hx hf => grow_keeps he hx hf⟩
            · simp at hk
          · rename_i h7
            split at hk
            · rename_i h8
              exact ⟨_, hk, fun κ' => by rw [key κ', hx, ht]; simp only [h3, h4, h5, h6, h7]; rw [if_pos h8], fun e x he hx hf => growA_keeps he hx hf⟩
            · simp at hk
          · simp at hk
        · split at hk
          · rename_i h6 h7
            have hno : ∀ k, s.get T x ≠ .own k := fun k e => by
              rw [e] at h6
              simp [tightOf] at h6
            split at hk
            · rename_i h8
              refine ⟨_, hk, fun κ' => ?_, fun e x he hx hf => newTok_keeps (h7 ▸ he) hx hf⟩
              rw [key κ', hx, ht]
              simp only [h3, h4, h5]
              generalize s.get T x = xv at *
              cases xv with
              | own k => exact absurd rfl (hno k)
              | _ =>
                simp only [h6, h7]
                rw [if_pos h8]
            · simp at hk
          · simp at hk
      · rename_i h3 h4 h5
        split at hk
        · rename_i h6
          split at hk
          · rename_i h7
            split at hk
            · rename_i h8
              exact ⟨_, hk, fun κ' => by rw [key κ', hx, ht]; simp only [h3, h4, h5, h6, h7]; rw [if_pos h8], fun e x he hx hf => grow_keeps he hx hf⟩
            · simp at hk
          · simp at hk
        · simp at hk
      · simp at hk
    · simp at hk
  · intro R s κ d v hd hv hn
    have e0 : (s.put (some d) v).o = s.o := rfl
    have ha : ∀ x ∈ c.args.toList, x ≠ .tmp d := fun x hx h => hn (by simp [ho, Op.operands, Call.operands, hc, ← h]; simpa using hx)
    simp only [opK, ho, hc]
    generalize c.args.toList = xs at ha
    generalize c.argTypes.toList = ts
    rcases xs with _ | ⟨x, _ | ⟨y, _ | ⟨z, xs⟩⟩⟩ <;> rcases ts with _ | ⟨t, _ | ⟨t', _ | ⟨t'', ts⟩⟩⟩ <;> try rfl
    have h1 := ha x (by simp)
    have h2 := ha y (by simp)
    simp only [get_put h1, get_put h2, e0, grow_put hd hv, growA_put hd hv]
    split
    · split
      · rfl
      · split
        · rename_i n xs d' h6 h7
          have : d ≠ d' := fun h => hd (by rw [h7, h])
          rw [newTok_put this hv]
        · rfl
    · rfl
    · rfl
theorem newMap_keeps {s : St} {d e : Nat} {x : AV} (h : some e ≠ some d) (hx : s.t[d]? = some x) (hf : x.ids = []) : (s.newMap e).t[d]? = some x := by
  have : e ≠ d := fun he => h (by rw [he])
  simp only [St.newMap, List.getElem?_set_ne this]
  exact subL_get _ _ _ hx hf
theorem turn_makeMap {op : Oper} {t : TypeId} {m : Option Operand} (ho : op.op = .makeMap t m) : Turn T E op := by
  constructor
  · intro R s κ r hk
    simp only [opK, ho] at hk
    split at hk
    · rename_i d h1 hd
      exact ⟨_, hk, fun κ' => by simp only [opK, ho, h1, hd], fun e x he hx hf => newMap_keeps (hd ▸ he) hx hf⟩
    · rename_i d x0 h1 hd
      split at hk
      · rename_i h2
        exact ⟨_, hk, fun κ' => by simp only [opK, ho, h1, hd, h2], fun e x he hx hf => newMap_keeps (hd ▸ he) hx hf⟩
      · simp at hk
    · simp at hk
  · intro R s κ d v hd hv hn
    cases m with
    | none =>
      simp only [opK, ho]
      split
      · rename_i e _ he _
        have : d ≠ e := fun h => hd (by rw [he, h])
        rw [newMap_put this hv]
      · cases ‹(none : Option Operand) = some _›
      · rfl
    | some x =>
      have hx : x ≠ .tmp d := fun h => hn (by simp [ho, Op.operands, h])
      simp only [opK, ho]
      split
      · cases ‹some x = (none : Option Operand)›
      · rename_i e x' _ he e1
        injection e1 with e1
        subst e1
        have : d ≠ e := fun h => hd (by rw [he, h])
        rw [newMap_put this hv, get_put hx]
      · rfl
theorem turn_mapUpdate {op : Oper} {t : TypeId} {m k y : Operand} (ho : op.op = .mapUpdate t m k y) : Turn T E op := by
  constructor
  · intro R s κ r hk
    simp only [opK, ho] at hk
    split at hk
    · rename_i h1 h2 h3
      split at hk
      · rename_i h4
        split at hk
        · rename_i h5
          split at hk
          · rename_i h6
            exact ⟨_, hk, fun κ' => by simp only [opK, ho, h1, h2, h3, if_pos h4, h5, h6], fun e x he hx hf => put_keeps' he hx⟩
          · simp at hk
        · simp at hk
      · simp at hk
    · simp at hk
  · intro R s κ d v hd hv hn
    have hm : m ≠ .tmp d := fun h => hn (by simp [ho, Op.operands, h])
    have hk : k ≠ .tmp d := fun h => hn (by simp [ho, Op.operands, h])
    have hy : y ≠ .tmp d := fun h => hn (by simp [ho, Op.operands, h])
    have e0 : (s.put (some d) v).o = s.o := rfl
    simp only [opK, ho, get_put hm, get_put hk, get_put hy, e0]
    split
    · split
      · split
        · split
          · rw [← put_put' hd]
            rfl
          · rfl
        · rfl
      · rfl
    · rfl
theorem turn_insert {op : Oper} {t : TypeId} {m k y : Operand} (ho : op.op = .insert t m k y) : Turn T E op := by
  constructor
  · intro R s κ r hk
    simp only [opK, ho] at hk
    split at hk
    · rename_i h1 h2 h3
      split at hk
      · rename_i h4
        split at hk
        · rename_i h5
          split at hk
          · rename_i h6
            exact ⟨_, hk, fun κ' => by simp only [opK, ho, h1, h2, h3, if_pos h4, h5, h6], fun e x he hx hf => put_keeps' he hx⟩
          · simp at hk
        · simp at hk
      · simp at hk
    · simp at hk
  · intro R s κ d v hd hv hn
    have hm : m ≠ .tmp d := fun h => hn (by simp [ho, Op.operands, h])
    have hk : k ≠ .tmp d := fun h => hn (by simp [ho, Op.operands, h])
    have hy : y ≠ .tmp d := fun h => hn (by simp [ho, Op.operands, h])
    have e0 : (s.put (some d) v).o = s.o := rfl
    simp only [opK, ho, get_put hm, get_put hk, get_put hy, e0]
    split
    · split
      · split
        · split
          · rw [← put_put' hd]
            rfl
          · rfl
        · rfl
      · rfl
    · rfl
theorem turn_delete {op : Oper} {c : Call} (ho : op.op = .call c) (hc : c.callee = .builtin .delete) : Turn T E op := by
  have key : ∀ (s : St) {R' : Type} (κ' : St → Option R'), opK T E op s κ' = (match c.args.toList, c.argTypes.toList with
      | [m, k], [t, _] => (match T.td t, s.get T m, (s.get T k).data s.o with
        | .map kt _, .own id, some k => if keyOkT T kt k = true then (match lookup id s.o with
          | some (.map es) => (match delM T kt k es with
            | some es' => κ' (St.put { s with o := update id (.map es') s.o } op.dst (.tup []))
            | none => none)
          | _ => none) else none
        | _, _, _ => none)
      | _, _ => none) := fun s κ' => by
        intro κ'
        simp only [opK, ho, hc]
        generalize c.args.toList = xs, c.argTypes.toList = ts
        rcases xs with _ | ⟨x, _ | ⟨y, _ | ⟨z, xs⟩⟩⟩ <;> rcases ts with _ | ⟨t, _ | ⟨t', _ | ⟨t'', ts⟩⟩⟩ <;> rfl
  constructor
  · intro R s κ r hk
    rw [key s κ] at hk
    split at hk
    · rename_i m k t t' hx ht
      split at hk
      · rename_i h1 h2 h3
        split at hk
        · rename_i h4
          split at hk
          · rename_i h5
            split at hk
            · rename_i h6
              exact ⟨_, hk, fun κ' => by rw [key s κ', hx, ht]; simp only [h1, h2, h3, if_pos h4, h5, h6], fun e x he hx hf => put_keeps' he hx⟩
            · simp at hk
          · simp at hk
        · simp at hk
      · simp at hk
    · simp at hk
  · intro R s κ d v hd hv hn
    have e0 : (s.put (some d) v).o = s.o := rfl
    have ha : ∀ x ∈ c.args.toList, x ≠ .tmp d := fun x hx h => hn (by simp [ho, Op.operands, Call.operands, hc, ← h]; simpa using hx)
    rw [key, key]
    split
    · rename_i m k t t' hx ht
      have h1 := ha m (by rw [hx]; simp)
      have h2 := ha k (by rw [hx]; simp)
      simp only [get_put h1, get_put h2, e0]
      split
      · split
        · split
          · split
            · rw [← put_put' hd]
              rfl
            · rfl
          · rfl
        · rfl
      · rfl
    · rfl
theorem turn_makeSlice {op : Oper} {t : TypeId} {l c : Operand} (ho : op.op = .makeSlice t l c) : Turn T E op := by
  constructor
  · intro R s κ r hk
    simp only [opK, ho] at hk
    split at hk
    · rename_i e d q1 l' q2 c' h1 hd h2 h3
      split at hk
      · rename_i h4
        refine ⟨_, hk, fun κ' => by simp only [opK, ho, h1, hd, h2, h3, if_pos h4], fun e x he hx hf => ?_⟩
        split
        · exact newArr_keeps (hd ▸ he) hx hf
        · exact newTok_keeps (hd ▸ he) hx hf
      · simp at hk
    · simp at hk
  · intro R s κ d v hd hv hn
    have hl : l ≠ .tmp d := fun h => hn (by simp [ho, Op.operands, h])
    have hc : c ≠ .tmp d := fun h => hn (by simp [ho, Op.operands, h])
    simp only [opK, ho, get_put hl, get_put hc]
    generalize hod : op.dst = od
    rw [hod] at hd
    cases od with
    | none => cases T.td t <;> rfl
    | some e =>
      have : d ≠ e := fun h => hd (by rw [h])
      split
      · rename_i e2 d2 _ _ _ he _ _
        injection he with he
        subst he
        split
        · rw [newArr_put this hv, newTok_put this hv]
          split <;> rfl
        · rfl
      · rfl
theorem gAfter_put {s : St} {d : Tmp} {v : AV} {dst : Option Tmp} (hd : dst ≠ some d) (hv : v.ids = []) (L : List Id) (rs : List AV) (o2 : Obs) : gAfter (s.put (some d) v) dst L rs o2 = (gAfter s dst L rs o2).put (some d) v := by
  unfold gAfter
  simp only
  rw [← put_put' hd]
  congr 1
  simp only [St.put, subL_setf hv]
theorem iceA_put {s : St} {d : Tmp} {v : AV} (hv : v.ids = []) (id : Id) (n : Nat) (xs : List D) : (s.put (some d) v).iceA id n xs = (s.iceA id n xs).put (some d) v := by
  simp only [St.put, St.iceA, subL_setf hv]
theorem iceL_put {d : Tmp} {v : AV} (hv : v.ids = []) : ∀ (L : List Id) (s : St), (s.put (some d) v).iceL L = (s.iceL L).put (some d) v
  | [], s => rfl
  | k :: r, s => by
    have e0 : (s.put (some d) v).o = s.o := rfl
    unfold St.iceL
    simp only [e0]
    split
    · split
      · rw [iceA_put hv, iceL_put hv r]
      · exact iceL_put hv r s
    · exact iceL_put hv r s
theorem cool_put {s : St} {d : Tmp} {v : AV} (hv : v.ids = []) (dst : Option Tmp) : (s.put (some d) v).cool T dst = (s.cool T dst).put (some d) v := by
  unfold St.cool St.iceN
  split
  · exact iceL_put hv _ s
  · rfl
theorem iceL_keeps {d : Nat} {x : AV} (hf : x.ids = []) : ∀ (L : List Id) (s : St), s.t[d]? = some x → (s.iceL L).t[d]? = some x
  | [], s, hx => hx
  | k :: r, s, hx => by
    unfold St.iceL
    split
    · split
      · exact iceL_keeps hf r _ (subL_get _ _ _ hx hf)
      · exact iceL_keeps hf r s hx
    · exact iceL_keeps hf r s hx
theorem cool_keeps {s : St} {d : Nat} {x : AV} (dst : Option Tmp) (hx : s.t[d]? = some x) (hf : x.ids = []) : (s.cool T dst).t[d]? = some x := by
  unfold St.cool St.iceN
  split
  · exact iceL_keeps hf _ s hx
  · exact hx
theorem chill_put {s : St} {d : Tmp} {v : AV} (hv : v.ids = []) {dst : Option Tmp} {c : Call} (ha : ∀ x ∈ c.args.toList, x ≠ .tmp d) : (s.put (some d) v).chill T dst c = (s.chill T dst c).put (some d) v := by
  have e : c.args.toList.map ((s.put (some d) v).get T) = c.args.toList.map (s.get T) := List.map_congr_left fun x hx => get_put (ha x hx)
  unfold St.chill
  rw [e]
  split
  · exact iceL_put hv _ s
  · rfl
theorem chill_keeps {s : St} {d : Nat} {x : AV} (dst : Option Tmp) (c : Call) (hx : s.t[d]? = some x) (hf : x.ids = []) : (s.chill T dst c).t[d]? = some x := by
  unfold St.chill
  split
  · exact iceL_keeps hf _ s hx
  · exact hx
theorem turn_callV {op : Oper} {c : Call} {f : Operand} (ho : op.op = .call c) (hc : c.callee = .value f) : Turn T E op := by
  constructor
  · intro R s κ r hk
    simp only [opK, ho, hc] at hk
    split at hk
    · rename_i g first cap hg
      split at hk
      · rename_i hsz
        unfold gcallK gcallL at hk
        split at hk
        · rename_i hL
          split at hk
          · rename_i o1 ho1
            split at hk
            · rename_i rs o2 hm
              refine ⟨_, hk, fun κ' => ?_, fun d x he hx hf => cool_keeps _ (put_keeps' he (subL_get _ _ _ (chill_keeps _ _ hx hf) hf)) hf⟩
              simp only [opK, ho, hc, hg, if_pos hsz]
              unfold gcallK gcallL
              rw [if_pos hL, ho1]
              simp only [hm]
            · simp at hk
          · simp at hk
        · simp at hk
      · simp at hk
    · rename_i hg
      split at hk
      · rename_i g first cap ds h1 h2
        split at hk
        · rename_i hsz
          split at hk
          · rename_i rs hrs
            exact ⟨_, hk, fun κ' => by simp only [opK, ho, hc, hg, h1, h2, if_pos hsz, hrs], fun d x he hx hf => put_keeps' he hx⟩
          · simp at hk
        · simp at hk
      · simp at hk
  · intro R s κ d v hd hv hn
    have hf : f ≠ .tmp d := fun h => hn (by simp [ho, Op.operands, Call.operands, hc, h])
    have ha : ∀ x ∈ c.args.toList, x ≠ .tmp d := fun x hx h => hn (by simp [ho, Op.operands, Call.operands, hc, ← h]; exact .inr (by simpa using hx))
    have e0 : (s.put (some d) v).o = s.o := rfl
    have e1 := zip_same (T := T) (s := s) (s' := s.put (some d) v) c.args.toList c.argTypes.toList fun x hx => get_put (ha x hx)
    have e2 := zip_same (T := T) (s := s.chill T op.dst c) (s' := (s.chill T op.dst c).put (some d) v) c.args.toList c.argTypes.toList fun x hx => get_put (ha x hx)
    have e3 : ((s.chill T op.dst c).put (some d) v).o = (s.chill T op.dst c).o := rfl
    simp only [opK, ho, hc, chill_put hv ha, get_put hf, e1, e2, e0]
    split
    · split
      · unfold gcallK gcallL
        simp only [e3]
        split
        · split
          · split
            · rw [gAfter_put hd hv, cool_put hv]
            · rfl
          · rfl
        · rfl
      · rfl
    · split
      · split
        · split
          · rw [put_put' hd]
          · rfl
        · rfl
      · rfl
theorem turn_op {op : Oper} {ops : Array Oper} {fr : List Nat} (hb : isB T.gf ops fr op = true) : Turn T E op := by
  unfold isB at hb
  split at hb
  · exact turn_alloc (by assumption)
  · exact turn_store (by assumption)
  · exact turn_box (by assumption) (by simpa using hb)
  · exact turn_makeInterface (by assumption)
  · exact turn_buildSlice (by assumption)
  · exact turn_buildSlice (by assumption)
  · split at hb
    · exact turn_append (by assumption) (by assumption)
    · exact turn_delete (by assumption) (by assumption)
    · exact turn_callV (by assumption) (by assumption)
    · exact turn_callV (by assumption) (by assumption)
    · simp at hb
  · exact turn_makeMap (by assumption)
  · exact turn_mapUpdate (by assumption)
  · exact turn_insert (by assumption)
  · exact turn_makeSlice (by assumption)
  · simp at hb
end
end Go.Ab

namespace Go.Ab

/-! ### an append and what only reads what stays where it is -/
mutual
theorem sub_fx {fo : Id → AV} {fr : Id → Nat → AV} : ∀ x : AV, (∀ k ∈ x.ids, fo k = .own k ∧ ∀ off, fr k off = .ref k off) → x.sub fo fr = x
  | .d x, _ => rfl
  | .own j, h => by simp only [AV.sub, (h j (by simp [AV.ids])).1]
  | .tight n xs, _ => rfl
  | .ref j off, h => by simp only [AV.sub, (h j (by simp [AV.ids])).2]
  | .elt j i off, h => by simp only [AV.sub, (h j (by simp [AV.ids])).1, eltO]
  | .agg cs, h => by simp only [AV.sub, subL_fx cs (fun k hk => h k (by simpa only [AV.ids] using hk))]
  | .tup cs, h => by simp only [AV.sub, subL_fx cs (fun k hk => h k (by simpa only [AV.ids] using hk))]
  | .clo f as bs, h => by
    simp only [AV.ids, List.mem_append] at h
    simp only [AV.sub, subL_fx as (fun k hk => h k (.inl hk)), subL_fx bs (fun k hk => h k (.inr hk))]
  | .undef, _ => rfl
theorem subL_fx {fo : Id → AV} {fr : Id → Nat → AV} : ∀ xs : List AV, (∀ k ∈ idsL xs, fo k = .own k ∧ ∀ off, fr k off = .ref k off) → subL fo fr xs = xs
  | [], _ => rfl
  | x :: xs, h => by
    simp only [idsL, List.mem_append] at h
    simp only [subL, sub_fx x (fun k hk => h k (.inl hk)), subL_fx xs (fun k hk => h k (.inr hk))]
end
theorem subL_getP {fo : Id → AV} {fr : Id → Nat → AV} : ∀ (xs : List AV) (i : Nat), (subL fo fr xs)[i]? = (xs[i]?).map (AV.sub fo fr)
  | [], i => by simp [subL]
  | x :: xs, 0 => by simp [subL]
  | x :: xs, i + 1 => by simp [subL, subL_getP xs i]
theorem subL_setP {fo : Id → AV} {fr : Id → Nat → AV} (v : AV) : ∀ (xs : List AV) (d : Nat), subL fo fr (xs.set d v) = (subL fo fr xs).set d (v.sub fo fr)
  | [], d => by simp [subL]
  | x :: xs, 0 => by simp [subL]
  | x :: xs, d + 1 => by simp [subL, subL_setP v xs d]
theorem subL_lenP {fo : Id → AV} {fr : Id → Nat → AV} : ∀ xs : List AV, (subL fo fr xs).length = xs.length
  | [] => rfl
  | x :: xs => by simp [subL, subL_lenP xs]
theorem subL_dropP {fo : Id → AV} {fr : Id → Nat → AV} : ∀ (xs : List AV) (n : Nat), subL fo fr (xs.drop n) = (subL fo fr xs).drop n
  | [], n => by simp [subL]
  | x :: xs, 0 => rfl
  | x :: xs, n + 1 => by simp [subL, subL_dropP xs n]
theorem subL_takeP {fo : Id → AV} {fr : Id → Nat → AV} : ∀ (xs : List AV) (n : Nat), subL fo fr (xs.take n) = (subL fo fr xs).take n
  | [], n => by simp [subL]
  | x :: xs, 0 => rfl
  | x :: xs, n + 1 => by simp [subL, subL_takeP xs n]
theorem valA_sub {fo : Id → AV} {fr : Id → Nat → AV} {g : Bool} {cs : List AV} : (valA g cs).sub fo fr = valA g (subL fo fr cs) := by
  cases g with
  | true => simp only [valA, if_true, AV.sub]
  | false => cases cs <;> simp [valA, subL, AV.sub]

/-- What an append does to a state whose objects are o. -/
structure AppF (F : St → St) (d0 : Tmp) (o : Obs) (fo : Id → AV) (fr : Id → Nat → AV) : Prop where
  t : ∀ s : St, s.o = o → ∀ t, t ≠ d0 → (F s).t[t]? = (s.t[t]?).map (AV.sub fo fr)
  put : ∀ (s : St) d v, s.o = o → d ≠ d0 → v.sub fo fr = v → F (s.put (some d) v) = (F s).put (some d) v
  box : ∀ s : St, s.o = o → ∀ k cs, k ≠ (1, d0) → lookup k o = some (.box cs) → lookup k (F s).o = some (.box (subL fo fr cs))
  fx : ∀ k cs, k ≠ (1, d0) → lookup k o = some (.box cs) → fo k = .own k ∧ ∀ off, fr k off = .ref k off

theorem appF_grow {d0 : Tmp} {o : Obs} {k : Id} {n : Nat} {xs ys : List D} (hl : lookup k o = some (.tok n xs)) : AppF (fun s => s.grow (some d0) k n xs ys) d0 o (shutO k n xs) (dropR k) := by
  have hne : ∀ j cs, lookup j o = some (.box cs) → j ≠ k := fun j cs h e => by rw [e, hl] at h; simp at h
  refine ⟨fun s hs t ht => ?_, fun s d v hs hd hv => ?_, fun s hs j cs hj hb => ?_, fun j cs hj hb => ?_⟩
  · simp only [St.grow, St.put]
    rw [List.getElem?_set_ne (Ne.symm ht), subL_getP]
  · simp only [St.grow, St.put, subL_setP, hv]
    rw [List.set_comm _ _ hd]
  · simp only [St.grow, St.put]
    rw [lookup_update_ne _ (hne j cs hb), lookup_subO, hs, hb]
    rfl
  · have := hne j cs hb
    exact ⟨by simp only [shutO, if_neg this], fun off => by simp only [dropR, if_neg this]⟩
theorem appF_growA {d0 : Tmp} {o : Obs} {k : Id} {g : Bool} {n : Nat} {es fs : List (List AV)} (hl : lookup k o = some (.arr g n es)) : AppF (fun s => s.growA (some d0) k g n es fs) d0 o (forO k) (dropR k) := by
  have hne : ∀ j cs, lookup j o = some (.box cs) → j ≠ k := fun j cs h e => by rw [e, hl] at h; simp at h
  refine ⟨fun s hs t ht => ?_, fun s d v hs hd hv => ?_, fun s hs j cs hj hb => ?_, fun j cs hj hb => ?_⟩
  · simp only [St.growA, St.put]
    rw [List.getElem?_set_ne (Ne.symm ht), subL_getP]
  · simp only [St.growA, St.put, subL_setP, hv]
    rw [List.set_comm _ _ hd]
  · simp only [St.growA, St.put]
    rw [lookup_update_ne _ (hne j cs hb), lookup_subO, hs, hb]
    rfl
  · have := hne j cs hb
    exact ⟨by simp only [forO, if_neg this], fun off => by simp only [dropR, if_neg this]⟩
theorem dropO_o {id : Id} {s : St} {o : Obs} (h : s.o = o) : dropO id s = dropO id ⟨[], o⟩ := by
  funext k
  simp only [dropO, h]
theorem appF_newTok {d0 : Tmp} {o : Obs} {n : Nat} {zs : List D} : AppF (fun s => s.newTok d0 n zs) d0 o (dropO (1, d0) ⟨[], o⟩) (dropR (1, d0)) := by
  refine ⟨fun s hs t ht => ?_, fun s d v hs hd hv => ?_, fun s hs j cs hj hb => ?_, fun j cs hj hb => ?_⟩
  · simp only [St.newTok, dropO_o hs]
    rw [List.getElem?_set_ne (Ne.symm ht), subL_getP]
  · have hs' : (St.put s (some d) v).o = o := hs
    simp only [St.newTok]
    rw [dropO_o hs, dropO_o hs']
    simp only [St.put, subL_setP, hv]
    rw [List.set_comm _ _ hd]
  · simp only [St.newTok, dropO_o hs, lookup]
    rw [if_neg (Ne.symm hj), lookup_subO, lookup_erase hj, hs, hb]
    rfl
  · exact ⟨by simp only [dropO, if_neg hj], fun off => by simp only [dropR, if_neg hj]⟩

section
variable {T : Ctx} {E : Abs}
theorem app_cases {op : Oper} {c : Call} {d0 : Tmp} (ho : op.op = .call c) (hc : c.callee = .builtin .append) (hd : op.dst = some d0) {R : Type} {s : St} {κ : St → Option R} {r : R} (hk : opK T E op s κ = some r) :
    ∃ (F : St → St) (fo : Id → AV) (fr : Id → Nat → AV), AppF F d0 s.o fo fr ∧ κ (F s) = some r ∧ ∀ s' : St, s'.o = s.o → (∀ x ∈ op.op.operands.toList, s'.get T x = s.get T x) → ∀ {R' : Type} (κ' : St → Option R'), opK T E op s' κ' = κ' (F s') := by
  have key : ∀ {R' : Type} (s : St) (κ' : St → Option R'), opK T E op s κ' = (match c.args.toList, c.argTypes.toList with
      | [x, y], [t, t'] => (match T.td t, T.td t', (nilfix T t' (s.get T y)).data s.o with
        | .slice e, .slice _, some (.sl n' ys) => (match s.get T x with
          | .own k => (match lookup k s.o with
            | some (.tok n xs) => if n = T.sz e ∧ n' = n ∧ (xs.length + ys.length ≤ lim ∨ T.small e = true ∧ xs.length + ys.length ≤ lim2) then κ' (s.grow op.dst k n xs ys) else none
            | some (.arr g n es) => if n = T.sz e ∧ n' = n ∧ es.length + ys.length ≤ lim then κ' (s.growA op.dst k g n es (ys.map fun y => y.cells.map .d)) else none
            | _ => none)
          | x => (match tightOf T t x, op.dst with
            | some (n, xs), some d => if n = T.sz e ∧ n' = n ∧ (xs.length + ys.length ≤ lim ∨ T.small e = true ∧ xs.length + ys.length ≤ lim2) then κ' (s.newTok d n (xs ++ ys)) else none
            | _, _ => none))
        | .slice e, .str, some (.s l) => (match s.get T x with
          | .own k => (match lookup k s.o with
            | some (.tok n xs) => if n = T.sz e ∧ n = 1 ∧ xs.length + l.length ≤ lim then κ' (s.grow op.dst k n xs (l.map encB)) else none
            | _ => none)
          | _ => none)
        | _, _, _ => none)
      | _, _ => none) := fun s κ' => by
        simp only [opK, ho, hc]
        generalize c.args.toList = xs, c.argTypes.toList = ts
        rcases xs with _ | ⟨x, _ | ⟨y, _ | ⟨z, xs⟩⟩⟩ <;> rcases ts with _ | ⟨t, _ | ⟨t', _ | ⟨t'', ts⟩⟩⟩ <;> rfl
  have hmem : ∀ x, x ∈ c.args.toList → x ∈ op.op.operands.toList := fun x hx => by
    simp only [ho, Op.operands, Call.operands, hc]
    simpa using hx
  rw [key s κ, hd] at hk
  split at hk
  · rename_i x y t t' hx ht
    have mx : x ∈ op.op.operands.toList := hmem x (by rw [hx]; simp)
    have my : y ∈ op.op.operands.toList := hmem y (by rw [hx]; simp)
    split at hk
    · rename_i h3 h4 h5
      split at hk
      · rename_i h6
        split at hk
        · rename_i h7
          split at hk
          · rename_i h8
            exact ⟨_, _, _, appF_grow h7, hk, fun s' e g {_} κ' => by rw [key s' κ', hx, ht, hd]; simp only [h3, h4, g y my, g x mx, e, h5, h6, h7]; rw [if_pos h8]⟩
          · simp at hk
        · rename_i h7
          split at hk
          · rename_i h8
            exact ⟨_, _, _, appF_growA h7, hk, fun s' e g {_} κ' => by rw [key s' κ', hx, ht, hd]; simp only [h3, h4, g y my, g x mx, e, h5, h6, h7]; rw [if_pos h8]⟩
          · simp at hk
        · simp at hk
      · split at hk
        · rename_i d' h6 h7
          cases h7
          have hno : ∀ k, s.get T x ≠ .own k := fun k e => by
            rw [e] at h6
            simp [tightOf] at h6
          split at hk
          · rename_i h8
            refine ⟨_, _, _, appF_newTok, hk, fun s' e g {_} κ' => ?_⟩
            rw [key s' κ', hx, ht, hd]
            simp only [h3, h4, g y my, g x mx, e, h5]
            generalize s.get T x = xv at *
            cases xv with
            | own k => exact absurd rfl (hno k)
            | _ =>
              simp only [h6]
              rw [if_pos h8]
          · simp at hk
        · simp at hk
    · rename_i h3 h4 h5
      split at hk
      · rename_i h6
        split at hk
        · rename_i h7
          split at hk
          · rename_i h8
            exact ⟨_, _, _, appF_grow h7, hk, fun s' e g {_} κ' => by rw [key s' κ', hx, ht, hd]; simp only [h3, h4, g y my, g x mx, e, h5, h6, h7]; rw [if_pos h8]⟩
          · simp at hk
        · simp at hk
      · simp at hk
    · simp at hk
  · simp at hk

/-- What only reads: it gives the like where all that it looks at is put otherwise alike. -/
theorem rd_equiv {op : Oper} (h : isRdOp op.op = true) {R : Type} {s : St} {κ : St → Option R} {r : R} (hk : opK T E op s κ = some r) (hbox : ∀ x ∈ op.op.operands.toList, ∀ id ∈ (s.get T x).ids, ∃ cs, lookup id s.o = some (.box cs)) :
    ∃ v, κ (s.put op.dst v) = some r ∧ ∀ (s' : St) (fo : Id → AV) (fr : Id → Nat → AV), (∀ x ∈ op.op.operands.toList, s'.get T x = s.get T x) →
      (∀ x ∈ op.op.operands.toList, ∀ id ∈ (s.get T x).ids, ∀ cs, lookup id s.o = some (.box cs) → lookup id s'.o = some (.box (subL fo fr cs))) →
      (∀ x ∈ op.op.operands.toList, ∀ id ∈ (s.get T x).ids, fo id = .own id ∧ ∀ off, fr id off = .ref id off) →
      ∀ {R' : Type} (κ' : St → Option R'), opK T E op s' κ' = κ' (s'.put op.dst (v.sub fo fr)) := by
  cases ho : op.op with
  | move x =>
    have mx : x ∈ op.op.operands.toList := by simp [ho, Op.operands]
    simp only [opK, ho] at hk
    refine ⟨_, hk, fun s' fo fr hg hl hf {_} κ' => ?_⟩
    rw [← ho] at hg hf
    have : (nilfix T op.type (s.get T x)).sub fo fr = nilfix T op.type (s.get T x) := sub_fx _ fun k hk => hf x mx k (nilfix_sub hk)
    simp only [opK, ho, hg x mx, this]
  | load t x =>
    have mx : x ∈ op.op.operands.toList := by simp [ho, Op.operands]
    rw [← ho]
    simp only [opK, ho] at hk
    split at hk
    · rename_i id off h1
      split at hk
      · rename_i cs h2
        split at hk
        · rename_i h3
          refine ⟨_, hk, fun s' fo fr hg hl hf {_} κ' => ?_⟩
          have h4 := hl x mx id (by rw [h1]; simp [AV.ids]) cs h2
          simp only [opK, ho, hg x mx, h1, h4, subL_lenP]
          rw [if_pos h3, valA_sub, subL_takeP, subL_dropP]
        · simp at hk
      · simp at hk
    · rename_i id i off h1
      obtain ⟨cs, h2⟩ := hbox x mx id (by rw [h1]; simp [AV.ids])
      simp [h2] at hk
    · rename_i cs h1
      split at hk
      · rename_i h3
        refine ⟨_, hk, fun s' fo fr hg hl hf {_} κ' => ?_⟩
        simp only [opK, ho, hg x mx, h1, AV.sub]
        rw [if_pos h3]
      · simp at hk
    · simp at hk
  | nilCheck x =>
    have mx : x ∈ op.op.operands.toList := by simp [ho, Op.operands]
    rw [← ho]
    simp only [opK, ho] at hk
    split at hk
    · rename_i cs h1
      exact ⟨_, hk, fun s' fo fr hg hl hf {_} κ' => by simp only [opK, ho, hg x mx, h1, AV.sub]⟩
    · rename_i id off h1
      refine ⟨_, hk, fun s' fo fr hg hl hf {_} κ' => ?_⟩
      have h4 := hf x mx id (by rw [h1]; simp [AV.ids])
      simp only [opK, ho, hg x mx, h1, AV.sub, h4.2]
    · rename_i id i off h1
      refine ⟨_, hk, fun s' fo fr hg hl hf {_} κ' => ?_⟩
      have h4 := hf x mx id (by rw [h1]; simp [AV.ids])
      simp only [opK, ho, hg x mx, h1, AV.sub, h4.1, eltO]
    · simp at hk
  | fieldAddr t x i =>
    have mx : x ∈ op.op.operands.toList := by simp [ho, Op.operands]
    rw [← ho]
    simp only [opK, ho] at hk
    split at hk
    · rename_i fs h0
      split at hk
      · rename_i ft off h00
        split at hk
        · rename_i id off h1
          refine ⟨_, hk, fun s' fo fr hg hl hf {_} κ' => ?_⟩
          have h4 := hf x mx id (by rw [h1]; simp [AV.ids])
          simp only [opK, ho, h0, h00, hg x mx, h1, AV.sub, h4.2]
        · rename_i id i off h1
          refine ⟨_, hk, fun s' fo fr hg hl hf {_} κ' => ?_⟩
          have h4 := hf x mx id (by rw [h1]; simp [AV.ids])
          simp only [opK, ho, h0, h00, hg x mx, h1, AV.sub, h4.1, eltO]
        · rename_i cs h1
          split at hk
          · rename_i h3
            refine ⟨_, hk, fun s' fo fr hg hl hf {_} κ' => ?_⟩
            simp only [opK, ho, h0, h00, hg x mx, h1, AV.sub]
            rw [if_pos h3]
          · simp at hk
        · simp at hk
      · simp at hk
    · simp at hk
  | _ => simp [ho, isRdOp] at h
end
end Go.Ab

namespace Go.Ab

section
variable {T : Ctx} {E : Abs} {ops : Array Oper}

theorem looks_mem {o : Oper} {t : Tmp} (h : Operand.tmp t ∈ o.op.operands.toList) : t ∈ o.looksAt ops :=
  List.mem_append_left _ (List.mem_filterMap.2 ⟨_, h, rfl⟩)

/-- A slot's value is free of objects. -/
def Free (s : St) (t : Nat) : Prop := ∀ x, s.t[t]? = some x → x.ids = []
structure AlikeG (ops : Array Oper) (o : Oper) (s s' : St) : Prop where
  get : ∀ t ∈ o.looksAt ops, s'.t[t]? = s.t[t]?
  o : ∀ t ∈ o.looksAt ops, ∀ x, s.t[t]? = some x → ∀ id ∈ x.ids, lookup id s'.o = lookup id s.o
theorem AlikeG.same {ops : Array Oper} {o : Oper} {s s' : St} (h : ∀ t ∈ o.looksAt ops, s'.t[t]? = s.t[t]?) (ho : s'.o = s.o) : AlikeG ops o s s' := ⟨h, fun _ _ _ _ _ _ => by rw [ho]⟩
theorem AlikeG.free {ops : Array Oper} {o : Oper} {s s' : St} (h : ∀ t ∈ o.looksAt ops, s'.t[t]? = s.t[t]?) (hf : ∀ t ∈ o.looksAt ops, Free s t) : AlikeG ops o s s' := ⟨h, fun t ht x hx id hi => by rw [hf t ht x hx] at hi; cases hi⟩

theorem get_free {s : St} {x : Operand} (h : ∀ t, x = .tmp t → Free s t) : (s.get T x).ids = [] := by
  cases x with
  | tmp t =>
    simp only [St.get, List.getD_eq_getElem?_getD]
    cases hx : s.t[t]? with
    | none => rfl
    | some x => exact h t rfl x hx
  | const v => rfl
  | global g => simp only [St.get]; split <;> rfl
  | func f => rfl
theorem AlikeG.alike {o : Oper} {s s' : St} (h : AlikeG ops o s s') : Alike T o s s' := by
  have hget : ∀ x ∈ o.op.operands.toList, s'.get T x = s.get T x := fun x hx => by
    cases x with
    | tmp t => simp only [St.get, List.getD_eq_getElem?_getD, h.get t (looks_mem hx)]
    | const v => rfl
    | global g => rfl
    | func f => rfl
  have ho : ∀ x ∈ o.op.operands.toList, ∀ id ∈ (s.get T x).ids, lookup id s'.o = lookup id s.o := fun x hx id hi => by
    cases x with
    | tmp t =>
      simp only [St.get, List.getD_eq_getElem?_getD] at hi
      cases hx2 : s.t[t]? with
      | none => rw [hx2] at hi; simp [AV.ids] at hi
      | some y => rw [hx2] at hi; exact h.o t (looks_mem hx) y hx2 id hi
    | const v => simp [St.get, AV.ids] at hi
    | global g => simp only [St.get] at hi; split at hi <;> simp [AV.ids] at hi
    | func f => simp [St.get, AV.ids] at hi
  exact ⟨hget, fun x hx => by rw [hget x hx]; exact data_lk _ (ho x hx), ho⟩

theorem guard_same {o : Oper} {j : Nat} {want : Bool} {s s' : St} (hg : o.guard = some (j, want)) (h : ∀ t ∈ o.looksAt ops, s'.t[t]? = s.t[t]?) :
    ((ops.toList[j]?).bind (·.dst)).bind (s'.t[·]?) = ((ops.toList[j]?).bind (·.dst)).bind (s.t[·]?) := by
  rw [Array.getElem?_toList]
  cases hd : (ops[j]?).bind (·.dst) with
  | none => rfl
  | some d =>
    simp only [Option.bind_some]
    exact h d (List.mem_append_right _ (by simp [hg, hd]))

theorem valG {fr : List Nat} {o : Oper} (hb : isB T.gf ops fr o = false) (hna : ∀ x, o.op ≠ .assign x) {R : Type} {s : St} {κ : St → Option R} {r : R} (hm : isMk o = true → ∀ t ∈ o.looksAt ops, Free s t)
    (hk : opG T E ops.toList o s κ = some r) : ∃ v, κ (s.put o.dst v) = some r ∧ ∀ {R' : Type} (s' : St) (κ' : St → Option R'), AlikeG ops o s s' → opG T E ops.toList o s' κ' = κ' (s'.put o.dst v) := by
  have hop : ∀ {R : Type} {κ : St → Option R} {r : R}, opK T E o s κ = some r → ∃ v, κ (s.put o.dst v) = some r ∧ ∀ {R' : Type} (s' : St) (κ' : St → Option R'), Alike T o s s' → opK T E o s' κ' = κ' (s'.put o.dst v) := by
    intro R κ r hk
    cases hmk : isMk o with
    | false => exact val_op hb hmk hna hk
    | true =>
      have hmk' := hmk
      unfold isMk at hmk
      split at hmk
      · rename_i t x ho
        exact val_makeInterface ho (get_free fun t he => hm hmk' t (looks_mem (by simp [ho, Op.operands, he]))) hk
      · simp at hmk
  unfold opG at hk
  split at hk
  · rename_i hg
    obtain ⟨v, h1, h2⟩ := hop hk
    exact ⟨v, h1, fun s' κ' h => by unfold opG; rw [hg]; exact h2 s' κ' h.alike⟩
  · rename_i j want hg
    split at hk
    · rename_i b hb'
      split at hk
      · obtain ⟨v, h1, h2⟩ := hop hk
        exact ⟨v, h1, fun s' κ' h => by unfold opG; rw [hg]; simp only; rw [guard_same hg h.get, hb']; exact h2 s' κ' h.alike⟩
      · obtain ⟨v, h1, h2⟩ := hop hk
        exact ⟨v, h1, fun s' κ' h => by unfold opG; rw [hg]; simp only; rw [guard_same hg h.get, hb']; exact h2 s' κ' h.alike⟩
      · rename_i h3 h4
        refine ⟨_, hk, fun s' κ' h => ?_⟩
        unfold opG; rw [hg]; simp only; rw [guard_same hg h.get, hb']
        cases b <;> cases want <;> simp_all
    · rename_i vs hb'
      exact ⟨_, hk, fun s' κ' h => by unfold opG; rw [hg]; simp only; rw [guard_same hg h.get, hb']⟩
    · simp at hk

theorem turnG_step' {o : Oper} (ht : Turn T E o) {R : Type} {s : St} {κ : St → Option R} {r : R} (hk : opG T E ops.toList o s κ = some r) :
    ∃ s', κ s' = some r ∧ (∀ {R' : Type} (κ' : St → Option R'), opG T E ops.toList o s κ' = κ' s') ∧ ∀ d x, o.dst ≠ some d → s.t[d]? = some x → x.ids = [] → s'.t[d]? = some x := by
  unfold opG at hk
  split at hk
  · rename_i hg
    obtain ⟨s', h1, h2, h3⟩ := ht.step hk
    exact ⟨s', h1, fun κ' => by unfold opG; rw [hg]; exact h2 κ', h3⟩
  · rename_i j want hg
    split at hk
    · rename_i b hb'
      split at hk
      · obtain ⟨s', h1, h2, h3⟩ := ht.step hk
        exact ⟨s', h1, fun κ' => by unfold opG; rw [hg]; simp only; rw [hb']; exact h2 κ', h3⟩
      · obtain ⟨s', h1, h2, h3⟩ := ht.step hk
        exact ⟨s', h1, fun κ' => by unfold opG; rw [hg]; simp only; rw [hb']; exact h2 κ', h3⟩
      · refine ⟨_, hk, fun κ' => ?_, fun d x hd hx _ => put_keeps' hd hx⟩
        unfold opG; rw [hg]; simp only; rw [hb']
        cases b <;> cases want <;> simp_all
    · rename_i vs hb'
      exact ⟨_, hk, fun κ' => by unfold opG; rw [hg]; simp only; rw [hb'], fun d x hd hx _ => put_keeps' hd hx⟩
    · simp at hk
theorem turnG_step {fr : List Nat} {o : Oper} (hb : isB T.gf ops fr o = true) {R : Type} {s : St} {κ : St → Option R} {r : R} (hk : opG T E ops.toList o s κ = some r) :
    ∃ s', κ s' = some r ∧ (∀ {R' : Type} (κ' : St → Option R'), opG T E ops.toList o s κ' = κ' s') ∧ ∀ d x, o.dst ≠ some d → s.t[d]? = some x → x.ids = [] → s'.t[d]? = some x :=
  turnG_step' (turn_op hb) hk
theorem turnG_frame {fr : List Nat} {o : Oper} (hb : isB T.gf ops fr o = true) {R : Type} (s : St) (κ : St → Option R) (d : Tmp) (v : AV) (hd : o.dst ≠ some d) (hv : v.ids = []) (hn : d ∉ o.looksAt ops) :
    opG T E ops.toList o (s.put (some d) v) κ = opG T E ops.toList o s fun s' => κ (s'.put (some d) v) := by
  have ht := turn_op (T := T) (E := E) hb
  have hf := ht.frame s κ d v hd hv fun h => hn (looks_mem h)
  unfold opG
  cases hg : o.guard with
  | none => exact hf
  | some jw =>
    obtain ⟨j, want⟩ := jw
    simp only
    rw [guard_same (s := s) (s' := s.put (some d) v) hg fun t ht => by
      have : d ≠ t := fun e => hn (e ▸ ht)
      simp only [St.put, List.getElem?_set_ne this]]
    split
    · split
      · exact hf
      · exact hf
      · rw [put_put' hd]
    · rw [put_put' hd]
    · rfl

/-- What is free stays free. -/
def FrInv (fr : List Nat) (s : St) : Prop := (∀ d ∈ fr, d < 500000 → clear fr s (some d) = true) ∧ kGate fr s = true
theorem clear_gate {fr : List Nat} {s : St} {d : Option Tmp} (h : clear fr s d = true) : kGate fr s = true := by
  cases d with
  | none => exact h
  | some d =>
    simp only [clear, Bool.and_eq_true] at h
    exact h.2
theorem FrInv.free {fr : List Nat} {s : St} (h : FrInv fr s) {d : Nat} (hd : d ∈ fr) (hl : d < 500000) : ∃ x, s.t[d]? = some x ∧ x.ids = [] := by
  have := h.1 d hd hl
  simp only [clear, Bool.and_eq_true, Bool.or_eq_true, Bool.not_eq_true', List.contains_eq_mem, decide_eq_false_iff_not] at this
  rcases this.1 with h1 | h1
  · exact absurd hd h1
  · split at h1
    · rename_i x hx
      exact ⟨x, hx, by simpa using h1⟩
    · simp at h1
theorem clear_of {fr : List Nat} {s : St} {d : Nat} {x : AV} (hx : s.t[d]? = some x) (hf : x.ids = []) (hg : kGate fr s = true) : clear fr s (some d) = true := by
  simp [clear, hx, hf, hg]
theorem clear_same {fr : List Nat} {s s' : St} {d : Option Nat} (h : ∀ t, d = some t → s'.t[t]? = s.t[t]?) (hg : kGate fr s' = true) (hc : clear fr s d = true) : clear fr s' d = true := by
  cases d with
  | none => exact hg
  | some d =>
    simp only [clear, h d rfl, Bool.and_eq_true] at hc ⊢
    exact ⟨hc.1, hg⟩
/-- The gate of a state whose slots are those of two that pass it. -/
theorem kGate_mix' {fr : List Nat} {s s2 s' : St} (h1 : kGate fr s = true) (h2 : kGate fr s2 = true) (h : ∀ t : Nat, (s'.t[t]? = s.t[t]? ∧ s'.o = s.o) ∨ (s'.t[t]? = s2.t[t]? ∧ s'.o = s2.o) ∨ ∃ x : AV, s'.t[t]? = some x ∧ pinB s'.o x = true ∧ kfree fr x = true) : kGate fr s' = true := by
  simp only [kGate, Bool.and_eq_true, Bool.or_eq_true, decide_eq_true_eq] at h1 h2 ⊢
  refine ⟨?_, ?_⟩
  · by_cases hl : fr.headD 0 < 800000
    · exact .inl hl
    · refine .inr ?_
      replace h1 := h1.1.resolve_left hl
      replace h2 := h2.1.resolve_left hl
      simp only [kOk, List.all_eq_true] at h1 h2 ⊢
      intro e he
      have a1 := h1 e he
      have a2 := h2 e he
      cases hr : (decide (500000 ≤ e) && decide (e < 800000)) with
      | false => rfl
      | true =>
        rw [hr] at a1 a2
        simp only [Bool.not_true, Bool.false_or] at a1 a2 ⊢
        rcases h (e - 500000) with ⟨h, _⟩ | ⟨h, _⟩ | ⟨x, hx, _, hf⟩
        · rw [h]; exact a1
        · rw [h]; exact a2
        · rw [hx]
          exact hf
  · by_cases hl : fr.headD 0 < 900000
    · exact .inl hl
    · refine .inr ?_
      replace h1 := h1.2.resolve_left hl
      replace h2 := h2.2.resolve_left hl
      simp only [pOk, List.all_eq_true] at h1 h2 ⊢
      intro e he
      have a1 := h1 e he
      have a2 := h2 e he
      cases hr : (decide (500000 ≤ e) && decide (e < 800000)) with
      | false => rfl
      | true =>
        rw [hr] at a1 a2
        simp only [Bool.not_true, Bool.false_or] at a1 a2 ⊢
        rcases h (e - 500000) with ⟨h, ho⟩ | ⟨h, ho⟩ | ⟨x, hx, hf, _⟩
        · rw [h, ho]; exact a1
        · rw [h, ho]; exact a2
        · rw [hx]
          exact hf
theorem free_pin {o : Obs} {fr : List Nat} {x : AV} (h : x.ids = []) : pinB o x = true ∧ kfree fr x = true := by simp [pinB, kfree, h]
theorem kGate_mix {fr : List Nat} {s s2 s' : St} (h1 : kGate fr s = true) (h2 : kGate fr s2 = true) (h : ∀ t : Nat, (s'.t[t]? = s.t[t]? ∧ s'.o = s.o) ∨ (s'.t[t]? = s2.t[t]? ∧ s'.o = s2.o) ∨ ∃ x : AV, s'.t[t]? = some x ∧ x.ids = []) : kGate fr s' = true :=
  kGate_mix' h1 h2 fun t => (h t).imp id (.imp id fun ⟨x, hx, hf⟩ => ⟨x, hx, free_pin hf⟩)
/-- The like where nothing is asked of the objects. -/
theorem kGate_mixN {fr : List Nat} (hh : fr.headD 0 < 900000) {s s2 s' : St} (h1 : kGate fr s = true) (h2 : kGate fr s2 = true) (h : ∀ t : Nat, s'.t[t]? = s.t[t]? ∨ s'.t[t]? = s2.t[t]? ∨ ∃ x : AV, s'.t[t]? = some x ∧ x.ids = []) : kGate fr s' = true := by
  simp only [kGate, Bool.and_eq_true, Bool.or_eq_true, decide_eq_true_eq] at h1 h2 ⊢
  refine ⟨?_, .inl hh⟩
  have q : kGate fr ⟨s'.t, []⟩ = true := kGate_mix (s := ⟨s.t, []⟩) (s2 := ⟨s2.t, []⟩) (by
    simp only [kGate, Bool.and_eq_true, Bool.or_eq_true, decide_eq_true_eq]
    exact ⟨h1.1, .inl hh⟩) (by
    simp only [kGate, Bool.and_eq_true, Bool.or_eq_true, decide_eq_true_eq]
    exact ⟨h2.1, .inl hh⟩) fun t => (h t).imp (fun h => ⟨h, rfl⟩) (.imp (fun h => ⟨h, rfl⟩) id)
  simp only [kGate, Bool.and_eq_true, Bool.or_eq_true, decide_eq_true_eq] at q
  exact q.1
theorem put_o {s : St} {d : Option Tmp} {v : AV} : (s.put d v).o = s.o := by cases d <;> rfl
theorem put_other {s : St} {d : Option Tmp} {v : AV} {t : Nat} (h : d ≠ some t) : (s.put d v).t[t]? = s.t[t]? := by
  cases d with
  | none => rfl
  | some d =>
    have : d ≠ t := fun e => h (by rw [e])
    simp only [St.put, List.getElem?_set_ne this]
theorem FrInv.put {fr : List Nat} {s : St} (h : FrInv fr s) {d : Option Tmp} {v : AV} (hc : clear fr (s.put d v) d = true) : FrInv fr (s.put d v) := by
  refine ⟨fun t ht hl => ?_, clear_gate hc⟩
  by_cases he : d = some t
  · rw [← he]; exact hc
  · exact clear_same (fun t' e => by cases e; exact put_other he) (clear_gate hc) (h.1 t ht hl)
theorem FrInv.turn {fr : List Nat} {s s' : St} (h : FrInv fr s) {d : Option Tmp} (hk : ∀ t x, d ≠ some t → s.t[t]? = some x → x.ids = [] → s'.t[t]? = some x) (hc : clear fr s' d = true) : FrInv fr s' := by
  refine ⟨fun t ht hl => ?_, clear_gate hc⟩
  by_cases he : d = some t
  · rw [← he]; exact hc
  · obtain ⟨x, hx, hf⟩ := h.free ht hl
    exact clear_of (hk t x he hx hf) hf (clear_gate hc)
theorem put_swap {s : St} {d e : Option Tmp} {v u : AV} (h : ∀ t, d = some t → e ≠ some t) : (s.put d v).put e u = (s.put e u).put d v := by
  cases d with
  | none => rfl
  | some d => exact put_put' (h d rfl)

theorem frS {fr : List Nat} {o : Oper} {s : St} (hs : FrInv fr s) (hf : frOp ops fr o = true) : ∀ t ∈ o.looksAt ops, ∃ x, s.t[t]? = some x ∧ x.ids = [] := by
  intro t ht
  simp only [frOp, Bool.and_eq_true, List.all_eq_true, List.contains_eq_mem, decide_eq_true_eq, Nat.blt_eq] at hf
  exact hs.free (hf.1 t ht).1 (hf.1 t ht).2
theorem frT {fr : List Nat} {o : Oper} {s : St} (hs : FrInv fr s) (hf : frOp ops fr o = true) {d : Nat} (hd : o.dst = some d) : ∃ x, s.t[d]? = some x ∧ x.ids = [] := by
  simp only [frOp, Bool.and_eq_true, hd, List.contains_eq_mem, decide_eq_true_eq, Nat.blt_eq] at hf
  exact hs.free hf.2.1 hf.2.2
theorem frl {fr : List Nat} {o : Oper} {s : St} (hs : FrInv fr s) (hf : frOp ops fr o = true) : ∀ t ∈ o.looksAt ops, Free s t := by
  intro t ht x hx
  obtain ⟨y, hy, hy'⟩ := frS hs hf t ht
  rw [hy] at hx
  cases hx
  exact hy'
theorem put_at {s : St} {d : Tmp} {v : AV} {t : Nat} (h : d = t) (hl : t < s.t.length) : (s.put (some d) v).t[t]? = some v := by
  subst h
  simp [St.put, hl]
/-- Two neighbours change places. -/
theorem swapO {fr : List Nat} {a i : Oper} (haa : ∀ x, a.op ≠ .assign x) (hia : ∀ x, i.op ≠ .assign x) (hap : a.apart ops i = true) (hcl : (match isB T.gf ops fr a, isB T.gf ops fr i with
      | true, true => false
      | true, false => frOp ops fr i
      | false, true => frOp ops fr a
      | false, false => (!isMk a || frOp ops fr a) && (!isMk i || frOp ops fr i)) = true) {R : Type} {s : St} {κ : St → Option R} {r : R} (hs : FrInv fr s)
    (hk : opG T E ops.toList a s (fun s1 => if clear fr s1 a.dst = true then opG T E ops.toList i s1 (fun s2 => if clear fr s2 i.dst = true then κ s2 else none) else none) = some r) :
    opG T E ops.toList i s (fun s1 => if clear fr s1 i.dst = true then opG T E ops.toList a s1 (fun s2 => if clear fr s2 a.dst = true then κ s2 else none) else none) = some r := by
  have frd : ∀ {o : Oper} {s : St} {v : AV}, frOp ops fr o = true → clear fr (s.put o.dst v) o.dst = true → o.dst = none ∨ ∃ d, o.dst = some d ∧ v.ids = [] := by
    intro o s v hf hcl
    cases hd : o.dst with
    | none => exact .inl rfl
    | some d =>
      refine .inr ⟨d, rfl, ?_⟩
      simp only [frOp, Bool.and_eq_true, hd] at hf
      rw [hd] at hcl
      have hmem : d ∈ fr := by simpa using hf.2.1
      simp only [clear, Bool.and_eq_true, Bool.or_eq_true, Bool.not_eq_true', List.contains_eq_mem, decide_eq_false_iff_not] at hcl
      rcases hcl.1 with h1 | h1
      · exact absurd hmem h1
      · split at h1
        · rename_i x hx
          simp only [St.put, List.getElem?_set, if_true] at hx
          split at hx
          · cases hx
            simpa using h1
          · simp at hx
        · simp at h1
  obtain ⟨p1, p2, p3⟩ := Oper.apart_spec hap
  have p2' : ∀ d, i.dst = some d → a.dst ≠ some d := fun d hd he => p2 d he hd
  cases hba : isB T.gf ops fr a with
  | true =>
    cases hbi : isB T.gf ops fr i with
    | true => simp [hba, hbi] at hcl
    | false =>
      simp only [hba, hbi] at hcl
      obtain ⟨s1, hk, ha', hkeep⟩ := turnG_step hba hk
      split at hk
      · rename_i hca
        have hs1 := hs.turn hkeep hca
        obtain ⟨v, hk, hi'⟩ := valG hbi hia (fun _ => frl hs1 hcl) hk
        split at hk
        · rename_i hci
          have hlook : ∀ t ∈ i.looksAt ops, s.t[t]? = s1.t[t]? := fun t ht => by
            obtain ⟨x, hx, hf⟩ := frS hs hcl t ht
            rw [hx, hkeep t x (fun he => p1 t he ht) hx hf]
          rw [hi' s _ (.free hlook (frl hs1 hcl))]
          rcases frd hcl hci with hd | ⟨d, hd, hv⟩
          · have e : ∀ s : St, s.put i.dst v = s := fun s => by rw [hd]; rfl
            simp only [e] at hk ⊢
            rw [if_pos (by rw [hd]; exact hs.2), ha', if_pos hca]
            exact hk
          · obtain ⟨x, hx, _⟩ := frT hs hcl hd
            have hlt : d < s.t.length := (List.getElem?_eq_some_iff.1 hx).1
            have hg : kGate fr (s.put i.dst v) = true := kGate_mix hs.2 hs.2 fun t => by
              by_cases he : d = t
              · exact .inr (.inr ⟨v, by rw [hd]; exact put_at he (he ▸ hlt), hv⟩)
              · exact .inl ⟨put_other (by rw [hd]; exact fun h => he (Option.some.inj h)), put_o⟩
            have hcd : clear fr (s.put i.dst v) i.dst = true := by
              rw [hd] at hg ⊢
              exact clear_of (x := v) (put_at rfl hlt) hv hg
            rw [if_pos hcd, hd, turnG_frame hba s _ d v (p2' d hd) hv (p3 d hd), ha']
            rw [hd] at hk hci
            rw [if_pos (clear_same (s := s1) (fun t e => put_other fun h => p2' t (hd.trans h) e) (clear_gate hci) hca)]
            exact hk
        · simp at hk
      · simp at hk
  | false =>
    cases hbi : isB T.gf ops fr i with
    | true =>
      simp only [hba, hbi] at hcl
      obtain ⟨v, hk, ha'⟩ := valG hba haa (fun _ => frl hs hcl) hk
      split at hk
      · rename_i hca
        have fin : ∀ s1 : St, (if clear fr (s1.put a.dst v) i.dst = true then κ (s1.put a.dst v) else none) = some r → (∀ {R' : Type} (κ' : St → Option R'), opG T E ops.toList i s κ' = κ' s1) → (∀ d x, i.dst ≠ some d → s.t[d]? = some x → x.ids = [] → s1.t[d]? = some x) →
            opG T E ops.toList i s (fun s1 => if clear fr s1 i.dst = true then opG T E ops.toList a s1 (fun s2 => if clear fr s2 a.dst = true then κ s2 else none) else none) = some r := by
          intro s1 hk hi' hkeep
          split at hk
          · rename_i hci
            rw [hi']
            have hg1 : kGate fr s1 = true := kGate_mix (clear_gate hci) (clear_gate hci) fun t => by
              by_cases he : a.dst = some t
              · obtain ⟨x, hx, hf⟩ := frT hs hcl he
                exact .inr (.inr ⟨x, hkeep t x (fun h => p2 t he h) hx hf, hf⟩)
              · exact .inl ⟨(put_other he).symm, put_o.symm⟩
            have hci' : clear fr s1 i.dst = true := clear_same (s := s1.put a.dst v) (fun t e => (put_other fun h => p2 t h e).symm) hg1 hci
            have hs1 : FrInv fr s1 := hs.turn hkeep hci'
            have hlook : ∀ t ∈ a.looksAt ops, s1.t[t]? = s.t[t]? := fun t ht => by
              obtain ⟨x, hx, hf⟩ := frS hs hcl t ht
              rw [hx, hkeep t x (fun he => p3 t he ht) hx hf]
            rw [if_pos hci', ha' s1 _ (.free hlook (frl hs hcl))]
            have : clear fr (s1.put a.dst v) a.dst = true := by
              rcases frd hcl hca with hd | ⟨d, hd, hv⟩
              · rw [hd]; exact hg1
              · have hg := clear_gate hci
                rw [hd] at hg ⊢
                obtain ⟨x, hx, _⟩ := frT hs1 hcl hd
                have hlt : d < s1.t.length := (List.getElem?_eq_some_iff.1 hx).1
                exact clear_of (x := v) (put_at rfl hlt) hv hg
            rw [if_pos this]
            exact hk
          · simp at hk
        rcases frd hcl hca with hd | ⟨d, hd, hv⟩
        · have e : ∀ s : St, s.put a.dst v = s := fun s => by rw [hd]; rfl
          rw [e] at hk
          obtain ⟨s1, hk, hi', hkeep⟩ := turnG_step hbi hk
          exact fin s1 (by rw [e]; exact hk) hi' hkeep
        · rw [hd] at hk
          rw [turnG_frame hbi s _ d v (p2 d hd) hv (p1 d hd)] at hk
          obtain ⟨s1, hk, hi', hkeep⟩ := turnG_step hbi hk
          exact fin s1 (by rw [hd]; exact hk) hi' hkeep
      · simp at hk
    | false =>
      simp only [hba, hbi, Bool.and_eq_true, Bool.or_eq_true, Bool.not_eq_true'] at hcl
      have hma : ∀ {s : St}, FrInv fr s → isMk a = true → ∀ t ∈ a.looksAt ops, Free s t := fun hs h => frl hs (hcl.1.resolve_left (by rw [h]; simp))
      have hmi : ∀ {s : St}, FrInv fr s → isMk i = true → ∀ t ∈ i.looksAt ops, Free s t := fun hs h => frl hs (hcl.2.resolve_left (by rw [h]; simp))
      obtain ⟨v, hk, ha'⟩ := valG hba haa (hma hs) hk
      split at hk
      · rename_i hca
        have hs1 := hs.put hca
        obtain ⟨u, hk, hi'⟩ := valG hbi hia (hmi hs1) hk
        split at hk
        · rename_i hci
          rw [hi' s _ (.same (fun t ht => (put_other fun h => p1 t h ht).symm) (by cases a.dst <;> rfl))]
          have hgi : kGate fr (s.put i.dst u) = true := kGate_mix hs.2 (clear_gate hci) fun t => by
            by_cases he : a.dst = some t
            · exact .inl ⟨put_other fun h => p2 t he h, put_o⟩
            · rw [put_swap p2]
              exact .inr (.inl ⟨(put_other he).symm, put_o.symm⟩)
          have h1 : clear fr (s.put i.dst u) i.dst = true := by
            rw [put_swap p2] at hci
            exact clear_same (s := (s.put i.dst u).put a.dst v) (fun t e => (put_other fun h => p2 t h e).symm) hgi hci
          rw [if_pos h1, ha' (s.put i.dst u) _ (.same (fun t ht => put_other fun h => p3 t h ht) (by cases i.dst <;> rfl))]
          rw [← put_swap p2]
          have h2 : clear fr ((s.put a.dst v).put i.dst u) a.dst = true := clear_same (fun t e => put_other fun h => p2 t e h) (clear_gate hci) hca
          rw [if_pos h2]
          exact hk
        · simp at hk
      · simp at hk

/-! ### a new box may be made before or behind what does not name it -/
mutual
theorem sub_nk {k : Id} {fo : Id → AV} {fr : Id → Nat → AV} (hfo : ∀ j, j ≠ k → fo j = .own j) (hfr : ∀ j off, j ≠ k → fr j off = .ref j off) : ∀ x : AV, k ∉ x.ids → x.sub fo fr = x
  | .d x, _ => rfl
  | .own j, h => by
    simp only [AV.ids, List.mem_singleton] at h
    simp only [AV.sub, hfo j (Ne.symm h)]
  | .tight n xs, _ => rfl
  | .ref j off, h => by
    simp only [AV.ids, List.mem_singleton] at h
    simp only [AV.sub, hfr j off (Ne.symm h)]
  | .elt j i off, h => by
    simp only [AV.ids, List.mem_singleton] at h
    simp only [AV.sub, hfo j (Ne.symm h), eltO]
  | .agg cs, h => by
    simp only [AV.ids] at h
    simp only [AV.sub, subL_nk hfo hfr cs h]
  | .tup cs, h => by
    simp only [AV.ids] at h
    simp only [AV.sub, subL_nk hfo hfr cs h]
  | .clo f as bs, h => by
    simp only [AV.ids, List.mem_append, not_or] at h
    simp only [AV.sub, subL_nk hfo hfr as h.1, subL_nk hfo hfr bs h.2]
  | .undef, _ => rfl
theorem subL_nk {k : Id} {fo : Id → AV} {fr : Id → Nat → AV} (hfo : ∀ j, j ≠ k → fo j = .own j) (hfr : ∀ j off, j ≠ k → fr j off = .ref j off) : ∀ xs : List AV, k ∉ idsL xs → subL fo fr xs = xs
  | [], _ => rfl
  | x :: xs, h => by
    simp only [idsL, List.mem_append, not_or] at h
    simp only [subL, sub_nk hfo hfr x h.1, subL_nk hfo hfr xs h.2]
end
theorem idsL_append : ∀ (xs ys : List AV), idsL (xs ++ ys) = idsL xs ++ idsL ys
  | [], _ => rfl
  | x :: xs, ys => by simp only [List.cons_append, idsL, idsL_append xs ys, List.append_assoc]
theorem subE_nk {k : Id} {fo : Id → AV} {fr : Id → Nat → AV} (hfo : ∀ j, j ≠ k → fo j = .own j) (hfr : ∀ j off, j ≠ k → fr j off = .ref j off) : ∀ es : List (List AV), k ∉ idsL es.flatten → subE fo fr es = es
  | [], _ => rfl
  | e :: es, h => by
    simp only [List.flatten_cons, idsL_append, List.mem_append, not_or] at h
    simp only [subE, subL_nk hfo hfr e h.1, subE_nk hfo hfr es h.2]
theorem subM_nk {k : Id} {fo : Id → AV} {fr : Id → Nat → AV} (hfo : ∀ j, j ≠ k → fo j = .own j) (hfr : ∀ j off, j ≠ k → fr j off = .ref j off) : ∀ es : List (D × AV), k ∉ idsM es → subM fo fr es = es
  | [], _ => rfl
  | (d, v) :: es, h => by
    simp only [idsM, List.mem_append, not_or] at h
    simp only [subM, sub_nk hfo hfr v h.1, subM_nk hfo hfr es h.2]
theorem subO_nk {k : Id} {fo : Id → AV} {fr : Id → Nat → AV} (hfo : ∀ j, j ≠ k → fo j = .own j) (hfr : ∀ j off, j ≠ k → fr j off = .ref j off) : ∀ o : Obs, (∀ p ∈ o, k ∉ p.2.idsB) → subO fo fr o = o
  | [], _ => rfl
  | (j, .box cs) :: o, h => by
    have h1 := h (j, .box cs) (by simp)
    simp only [Ob.idsB] at h1
    simp only [subO, subL_nk hfo hfr cs h1, subO_nk hfo hfr o fun p hp => h p (by simp [hp])]
  | (j, .tok n xs) :: o, h => by simp only [subO, subO_nk hfo hfr o fun p hp => h p (by simp [hp])]
  | (j, .arr g n es) :: o, h => by
    have h1 := h (j, .arr g n es) (by simp)
    simp only [Ob.idsB] at h1
    simp only [subO, subE_nk hfo hfr es h1, subO_nk hfo hfr o fun p hp => h p (by simp [hp])]
  | (j, .map es) :: o, h => by
    have h1 := h (j, .map es) (by simp)
    simp only [Ob.idsB] at h1
    simp only [subO, subM_nk hfo hfr es h1, subO_nk hfo hfr o fun p hp => h p (by simp [hp])]
theorem erase_nk {k : Id} : ∀ o : Obs, (∀ p ∈ o, p.1 ≠ k) → erase k o = o
  | [], _ => rfl
  | (j, x) :: o, h => by
    have h1 := h (j, x) (by simp)
    simp only at h1
    simp only [erase, if_neg h1, erase_nk o fun p hp => h p (by simp [hp])]
theorem freshB_spec {k : Id} {s : St} (h : freshB k s = true) : (∀ (t : Nat) (x : AV), s.t[t]? = some x → k ∉ x.ids) ∧ ∀ p ∈ s.o, p.1 ≠ k ∧ k ∉ p.2.idsB := by
  simp only [freshB, Bool.and_eq_true, List.all_eq_true, Bool.not_eq_true', beq_eq_false_iff_ne, ne_eq] at h
  refine ⟨fun t x hx => ?_, fun p hp => ?_⟩
  · have := h.1 x (List.mem_of_getElem? hx)
    simpa using this
  · have := h.2 p hp
    exact ⟨this.1, by simpa using this.2⟩
theorem freshB_of {k : Id} {s : St} (h1 : ∀ (t : Nat) (x : AV), s.t[t]? = some x → k ∉ x.ids) (h2 : ∀ p ∈ s.o, p.1 ≠ k ∧ k ∉ p.2.idsB) : freshB k s = true := by
  simp only [freshB, Bool.and_eq_true, List.all_eq_true, Bool.not_eq_true', beq_eq_false_iff_ne, ne_eq]
  refine ⟨fun x hx => ?_, fun p hp => ⟨(h2 p hp).1, by simpa using (h2 p hp).2⟩⟩
  obtain ⟨t, ht⟩ := List.mem_iff_getElem?.1 hx
  simpa using h1 t x ht
theorem zA_ids (z : D) : (zA z).ids = [] := by
  unfold zA
  split <;> rfl
theorem newBox_fresh {d : Tmp} {s : St} {zs : List D} (h : freshB (1, d) s = true) : s.newBox d (zs.map zA) = { t := s.t.set d (.ref (1, d) 0), o := ((1, d), .box (zs.map zA)) :: s.o } := by
  obtain ⟨h1, h2⟩ := freshB_spec h
  have hfo : ∀ j, j ≠ (1, d) → dropO (1, d) s j = .own j := fun j hj => by simp only [dropO, if_neg hj]
  have hfr : ∀ j off, j ≠ (1, d) → dropR (1, d) j off = .ref j off := fun j off hj => by simp only [dropR, if_neg hj]
  have hz : idsL (zs.map zA) = [] := by
    induction zs with
    | nil => rfl
    | cons z zs ih => simp only [List.map_cons, idsL, zA_ids, ih, List.append_nil]
  have ht : (1, d) ∉ idsL s.t := by
    have key : ∀ l : List AV, (∀ x ∈ l, (1, d) ∉ x.ids) → (1, d) ∉ idsL l := by
      intro l
      induction l with
      | nil => intro _; simp [idsL]
      | cons x l ih =>
        intro h
        simp only [idsL, List.mem_append, not_or]
        exact ⟨h x (by simp), ih fun y hy => h y (by simp [hy])⟩
    refine key _ fun x hx => ?_
    obtain ⟨t, ht⟩ := List.mem_iff_getElem?.1 hx
    exact h1 t x ht
  simp only [St.newBox]
  rw [subL_nk hfo hfr _ ht, subL_nk hfo hfr _ (by rw [hz]; simp), erase_nk _ fun p hp => (h2 p hp).1, subO_nk hfo hfr _ fun p hp => (h2 p hp).2]
theorem isNew_spec {fr : List Nat} {o : Oper} {d : Tmp} (h : isNew fr o = some d) : ∃ t, o.op = .alloc t ∧ o.dst = some d ∧ o.guard = none ∧ 800000 + d ∈ fr ∧ 800000 ≤ fr.headD 0 ∧ fr.headD 0 < 900000 := by
  unfold isNew at h
  split at h
  · rename_i t d' h1 h2 h3
    split at h
    · rename_i h4
      cases h
      exact ⟨t, h1, h2, h3, by simpa using h4.2.2, h4.1, h4.2.1⟩
    · cases h
  · cases h
theorem opG_new {fr : List Nat} {o : Oper} {d : Tmp} (h : isNew fr o = some d) : ∃ t, ∀ {R : Type} (s : St) (κ : St → Option R), opG T E ops.toList o s κ = if (T.td t).ok = true then κ (s.newBox d ((T.zero t).map zA)) else none := by
  obtain ⟨t, h1, h2, h3, _, _, _⟩ := isNew_spec h
  exact ⟨t, fun s κ => by unfold opG; rw [h3]; simp only [opK, h1, h2]⟩
/-- What a listed slot holds names no new box. -/
theorem gate_free {fr : List Nat} {s : St} (hg : kGate fr s = true) {d : Tmp} (hd : 800000 + d ∈ fr) (hh : 800000 ≤ fr.headD 0) {e : Tmp} (he : 500000 + e ∈ fr) (hl : e < 300000) {x : AV} (hx : s.t[e]? = some x) : (1, d) ∉ x.ids := by
  simp only [kGate, Bool.and_eq_true, Bool.or_eq_true, decide_eq_true_eq] at hg
  have h1 := hg.1.resolve_left (Nat.not_lt.2 hh)
  simp only [kOk, List.all_eq_true] at h1
  have h2 := h1 _ he
  rw [Nat.add_sub_cancel_left, hx] at h2
  have e1 : decide (500000 ≤ 500000 + e) = true := by simp
  have e2 : decide (500000 + e < 800000) = true := decide_eq_true (Nat.add_lt_add_left hl 500000)
  rw [e1, e2] at h2
  simp only [Bool.and_self, Bool.not_true, Bool.false_or, kfree, List.all_eq_true] at h2
  intro hm
  have h3 := h2 _ hm
  simp [hd] at h3
theorem kOp_spec {fr : List Nat} {o : Oper} (h : kOp fr o = true) {e : Tmp} (he : o.dst = some e) : 500000 + e ∈ fr ∧ e < 300000 := by
  simp only [kOp, he, Bool.and_eq_true, List.contains_eq_mem, decide_eq_true_eq, Nat.blt_eq] at h
  exact h
theorem preB_none {fr : List Nat} {o : Oper} (h : isNew fr o = none) (s : St) : preB fr o s = true := by simp only [preB, h]
theorem preB_some {fr : List Nat} {o : Oper} {d : Tmp} (h : isNew fr o = some d) (s : St) : preB fr o s = freshB (1, d) s := by simp only [preB, h]
theorem new_alike {o : Oper} {d : Tmp} {s : St} {zs : List D} (hf : freshB (1, d) s = true) (hd : d ∉ o.looksAt ops) : AlikeG ops o (s.newBox d (zs.map zA)) s ∧ AlikeG ops o s (s.newBox d (zs.map zA)) := by
  obtain ⟨h1, h2⟩ := freshB_spec hf
  rw [newBox_fresh hf]
  have hg : ∀ t ∈ o.looksAt ops, (s.t.set d (.ref (1, d) 0))[t]? = s.t[t]? := fun t ht => List.getElem?_set_ne fun e => hd (by rw [e]; exact ht)
  have hlk : ∀ (t : Nat) (x : AV), s.t[t]? = some x → ∀ id ∈ x.ids, lookup id (((1, d), Ob.box (zs.map zA)) :: s.o) = lookup id s.o := fun t x hx id hi => by
    have : (1, d) ≠ id := fun e => h1 t x hx (e ▸ hi)
    simp only [lookup, if_neg this]
  exact ⟨⟨fun t ht => (hg t ht).symm, fun t ht x hx id hi => (hlk t x ((hg t ht) ▸ hx) id hi).symm⟩, ⟨hg, fun t ht x hx id hi => hlk t x hx id hi⟩⟩
theorem put_new {s : St} {d : Tmp} {e : Option Tmp} {v : AV} {zs : List D} (hf : freshB (1, d) s = true) (hf2 : freshB (1, d) (s.put e v) = true) (hde : e ≠ some d) : (s.put e v).newBox d (zs.map zA) = (s.newBox d (zs.map zA)).put e v := by
  rw [newBox_fresh hf, newBox_fresh hf2]
  cases e with
  | none => rfl
  | some e =>
    have : e ≠ d := fun h => hde (by rw [h])
    simp only [St.put, List.set_comm _ _ this]
theorem set_len {s : St} {e : Option Tmp} {v : AV} : (s.put e v).t.length = s.t.length := by cases e <;> simp [St.put]
/-- What is in the slot behind a put. -/
theorem put_look {s s2 : St} {e : Tmp} {v : AV} (h : s.t.length = s2.t.length) : (s.put (some e) v).t[e]? = (s2.put (some e) v).t[e]? := by
  simp only [St.put, List.getElem?_set, if_true, h]
theorem swapN {fr : List Nat} {a i : Oper} {d : Tmp} (ha : isNew fr a = some d) (hi : isNew fr i = none) (hia : ∀ x, i.op ≠ .assign x) (p1 : d ∉ i.looksAt ops) (p2 : i.dst ≠ some d) (hib : isB T.gf ops fr i = false) (him : isMk i = false) (hk0 : kOp fr i = true)
    {R : Type} {s : St} {κ : St → Option R} {r : R} (hs : FrInv fr s) :
    ((if preB fr a s = true then opG T E ops.toList a s (fun s1 => if clear fr s1 a.dst = true then (if preB fr i s1 = true then opG T E ops.toList i s1 (fun s2 => if clear fr s2 i.dst = true then κ s2 else none) else none) else none) else none) = some r) ↔
    ((if preB fr i s = true then opG T E ops.toList i s (fun s1 => if clear fr s1 i.dst = true then (if preB fr a s1 = true then opG T E ops.toList a s1 (fun s2 => if clear fr s2 a.dst = true then κ s2 else none) else none) else none) else none) = some r) := by
  obtain ⟨t, hop⟩ := opG_new (T := T) (E := E) (ops := ops) ha
  obtain ⟨_, _, had, _, hmem, hhead, hlow⟩ := isNew_spec ha
  have hfl : ∀ {s : St} {e : Tmp} {x : AV}, kGate fr s = true → i.dst = some e → s.t[e]? = some x → (1, d) ∉ x.ids := fun hg he hx => gate_free hg hmem hhead (kOp_spec hk0 he).1 (kOp_spec hk0 he).2 hx
  simp only [preB_none hi, if_true, preB_some ha, hop, had]
  constructor
  · intro hk
    split at hk
    · rename_i hf
      split at hk
      · rename_i ht
        split at hk
        · rename_i hca
          obtain ⟨v, hk, hal⟩ := valG hib hia (fun h => absurd h (by simp [him])) hk
          split at hk
          · rename_i hci
            rw [hal s _ (new_alike hf p1).1]
            have hlen : s.t.length = (s.newBox d ((T.zero t).map zA)).t.length := by rw [newBox_fresh hf]; simp
            have hslot : ∀ u, i.dst = some u → (s.put i.dst v).t[u]? = ((s.newBox d ((T.zero t).map zA)).put i.dst v).t[u]? := fun u hu => by rw [hu]; exact put_look hlen
            have hg : kGate fr (s.put i.dst v) = true := kGate_mixN hlow hs.2 (clear_gate hci) fun u => by
              by_cases hu : i.dst = some u
              · exact .inr (.inl (hslot u hu))
              · exact .inl (put_other hu)
            have h1 : clear fr (s.put i.dst v) i.dst = true := clear_same (fun u hu => hslot u hu) hg hci
            have hf2 : freshB (1, d) (s.put i.dst v) = true := by
              obtain ⟨q1, q2⟩ := freshB_spec hf
              refine freshB_of (fun u x hx => ?_) (by cases i.dst <;> exact q2)
              by_cases hu : i.dst = some u
              · exact hfl hg hu hx
              · rw [put_other hu] at hx
                exact q1 u x hx
            rw [if_pos h1, if_pos hf2, if_pos ht, put_new hf hf2 p2]
            have h2 : clear fr ((s.newBox d ((T.zero t).map zA)).put i.dst v) (some d) = true := clear_same (fun u hu => put_other fun h => p2 (h.trans hu.symm)) (clear_gate hci) hca
            rw [if_pos h2]
            exact hk
          · simp at hk
        · simp at hk
      · simp at hk
    · simp at hk
  · intro hk
    obtain ⟨v, hk, hal⟩ := valG hib hia (fun h => absurd h (by simp [him])) hk
    split at hk
    · rename_i hci
      split at hk
      · rename_i hf2
        split at hk
        · rename_i ht
          split at hk
          · rename_i hca
            have hf : freshB (1, d) s = true := by
              obtain ⟨q1, q2⟩ := freshB_spec hf2
              have q3 : (s.put i.dst v).o = s.o := by cases i.dst <;> rfl
              rw [q3] at q2
              refine freshB_of (fun u x hx => ?_) q2
              by_cases hu : i.dst = some u
              · exact hfl hs.2 hu hx
              · exact q1 u x (by rw [put_other hu]; exact hx)
            rw [put_new hf hf2 p2] at hk hca
            rw [if_pos hf, if_pos ht]
            have hg : kGate fr (s.newBox d ((T.zero t).map zA)) = true := kGate_mixN hlow hs.2 (clear_gate hca) fun u => by
              by_cases hu : u = d
              · subst hu
                exact .inr (.inl (put_other p2).symm)
              · rw [newBox_fresh hf]
                exact .inl (List.getElem?_set_ne (Ne.symm hu))
            have h1 : clear fr (s.newBox d ((T.zero t).map zA)) (some d) = true := clear_same (fun u hu => by cases hu; exact (put_other p2).symm) hg hca
            rw [if_pos h1, hal _ _ (new_alike hf p1).2]
            have hlen : s.t.length = (s.newBox d ((T.zero t).map zA)).t.length := by rw [newBox_fresh hf]; simp
            have h2 : clear fr ((s.newBox d ((T.zero t).map zA)).put i.dst v) i.dst = true := clear_same (fun u hu => by rw [hu]; exact (put_look hlen).symm) (clear_gate hca) hci
            rw [if_pos h2]
            exact hk
          · simp at hk
        · simp at hk
      · simp at hk
    · simp at hk
theorem isApp_spec {fr : List Nat} {o : Oper} {d : Tmp} (h : isApp fr o = some d) : ∃ c, o.op = .call c ∧ c.callee = .builtin .append ∧ o.dst = some d ∧ o.guard = none ∧ 900000 ≤ fr.headD 0 ∧ 800000 + d ∈ fr := by
  unfold isApp at h
  split at h
  · rename_i c d' h1 h2 h3
    split at h
    · rename_i h5
      split at h
      · rename_i h4
        cases h
        exact ⟨c, h1, h5, h2, h3, h4.1, by simpa using h4.2⟩
      · cases h
    · cases h
  · cases h
theorem isRd_spec {fr : List Nat} {o : Oper} (h : isRd fr o = true) : isRdOp o.op = true ∧ o.guard = none ∧ (∀ t, Operand.tmp t ∈ o.op.operands.toList → 500000 + t ∈ fr ∧ t < 300000) ∧ ∃ d, o.dst = some d ∧ 500000 + d ∈ fr ∧ d < 300000 := by
  simp only [isRd, Bool.and_eq_true, Option.isNone_iff_eq_none] at h
  obtain ⟨⟨⟨h1, h2⟩, h3⟩, h4⟩ := h
  refine ⟨h1, h2, fun t ht => ?_, ?_⟩
  · rw [← Array.all_toList, List.all_eq_true] at h3
    have := h3 _ ht
    simpa only [Bool.and_eq_true, List.contains_eq_mem, decide_eq_true_eq, Nat.blt_eq] using this
  · cases hd : o.dst with
    | none => simp [hd] at h4
    | some d =>
      rw [hd] at h4
      simp only [Bool.and_eq_true, List.contains_eq_mem, decide_eq_true_eq, Nat.blt_eq] at h4
      exact ⟨d, rfl, h4⟩
/-- What a listed slot holds: boxes' names alone. -/
theorem gate_pin {fr : List Nat} {s : St} (hg : kGate fr s = true) (hh : 900000 ≤ fr.headD 0) {e : Tmp} (he : 500000 + e ∈ fr) (hl : e < 300000) : ∃ x, s.t[e]? = some x ∧ pinB s.o x = true ∧ kfree fr x = true := by
  simp only [kGate, Bool.and_eq_true, Bool.or_eq_true, decide_eq_true_eq] at hg
  have h1 := hg.1.resolve_left (by omega)
  have h2 := hg.2.resolve_left (by omega)
  simp only [kOk, pOk, List.all_eq_true] at h1 h2
  have a1 := h1 _ he
  have a2 := h2 _ he
  have e1 : decide (500000 ≤ 500000 + e) = true := by simp
  have e2 : decide (500000 + e < 800000) = true := decide_eq_true (Nat.add_lt_add_left hl 500000)
  rw [e1, e2, Nat.add_sub_cancel_left] at a1 a2
  simp only [Bool.and_self, Bool.not_true, Bool.false_or] at a1 a2
  cases hx : s.t[e]? with
  | none => simp [hx] at a1
  | some x =>
    rw [hx] at a1 a2
    exact ⟨x, rfl, a2, a1⟩
theorem pin_box {o : Obs} {x : AV} (h : pinB o x = true) {id : Id} (hi : id ∈ x.ids) : ∃ cs, lookup id o = some (.box cs) := by
  simp only [pinB, List.all_eq_true] at h
  have := h id hi
  split at this
  · rename_i cs hc
    exact ⟨cs, hc⟩
  · simp at this
theorem kfree_ne {fr : List Nat} {x : AV} (h : kfree fr x = true) {d : Tmp} (hd : 800000 + d ∈ fr) {id : Id} (hi : id ∈ x.ids) : id ≠ (1, d) := by
  simp only [kfree, List.all_eq_true] at h
  have := h id hi
  rintro rfl
  simp [hd] at this
theorem swapP {fr : List Nat} {a i : Oper} {d0 : Tmp} (ha : isRd fr a = true) (hi : isApp fr i = some d0) (hap : a.apart ops i = true) {R : Type} {s : St} {κ : St → Option R} {r : R} (hs : FrInv fr s)
    (hk : opG T E ops.toList a s (fun s1 => if clear fr s1 a.dst = true then opG T E ops.toList i s1 (fun s2 => if clear fr s2 i.dst = true then κ s2 else none) else none) = some r) :
    opG T E ops.toList i s (fun s1 => if clear fr s1 i.dst = true then opG T E ops.toList a s1 (fun s2 => if clear fr s2 a.dst = true then κ s2 else none) else none) = some r := by
  obtain ⟨ro, rg, rl, d, rd, rm, rb⟩ := isRd_spec ha
  obtain ⟨c, io, ic, idd, ig, hh, im⟩ := isApp_spec hi
  obtain ⟨p1, p2, p3⟩ := Oper.apart_spec hap
  have hGa : ∀ {R' : Type} (s : St) (κ : St → Option R'), opG T E ops.toList a s κ = opK T E a s κ := fun s κ => by unfold opG; rw [rg]
  have hGi : ∀ {R' : Type} (s : St) (κ : St → Option R'), opG T E ops.toList i s κ = opK T E i s κ := fun s κ => by unfold opG; rw [ig]
  simp only [hGa, hGi] at hk ⊢
  have hne : d ≠ d0 := fun e => p2 d rd (by rw [idd, e])
  -- what it looks at
  have hop : ∀ x ∈ a.op.operands.toList, pinB s.o (s.get T x) = true ∧ kfree fr (s.get T x) = true := by
    intro x hx
    cases x with
    | tmp t =>
      obtain ⟨m, l⟩ := rl t hx
      obtain ⟨y, hy, h1, h2⟩ := gate_pin hs.2 hh m l
      simp only [St.get, List.getD_eq_getElem?_getD, hy, Option.getD_some]
      exact ⟨h1, h2⟩
    | const v => exact free_pin rfl
    | global g => simp only [St.get]; split <;> exact free_pin rfl
    | func f => exact free_pin rfl
  obtain ⟨v, hk, heq⟩ := rd_equiv ro hk fun x hx id hid => pin_box (hop x hx).1 hid
  split at hk
  case isFalse => simp at hk
  rename_i hca
  rw [rd] at hk hca
  obtain ⟨F, fo, fr', hF, hk, hev⟩ := app_cases io ic idd hk
  have ho1 : (s.put (some d) v).o = s.o := rfl
  rw [ho1] at hF
  split at hk
  case isFalse => simp at hk
  rename_i hci
  rw [idd] at hci
  obtain ⟨y, hy, hy1, hy2⟩ := gate_pin hs.2 hh rm rb
  have hlt : d < s.t.length := (List.getElem?_eq_some_iff.1 hy).1
  have hfx : ∀ {x : AV}, pinB s.o x = true → kfree fr x = true → ∀ k ∈ x.ids, fo k = .own k ∧ ∀ off, fr' k off = .ref k off := fun h1 h2 k hk => by
    obtain ⟨cs, hc⟩ := pin_box h1 hk
    exact hF.fx k cs (kfree_ne h2 im hk) hc
  have hv : v.sub fo fr' = v := by
    obtain ⟨y', hy', h1, h2⟩ := gate_pin (clear_gate hca) hh rm rb
    have : (s.put (some d) v).t[d]? = some v := by simp [St.put, hlt]
    rw [this] at hy'
    cases hy'
    exact sub_fx v (hfx h1 h2)
  have hFs : F (s.put (some d) v) = (F s).put (some d) v := hF.put s d v rfl hne hv
  have hget : ∀ x ∈ i.op.operands.toList, s.get T x = (s.put (some d) v).get T x := fun x hx => by
    refine (get_put ?_).symm
    rintro rfl
    exact p1 d rd (looks_mem hx)
  rw [hev s rfl hget, idd]
  have hys : y.sub fo fr' = y := sub_fx y (hfx hy1 hy2)
  have hFd : (F s).t[d]? = some y := by rw [hF.t s rfl d hne, hy, Option.map_some, hys]
  have hpin : ∀ {x : AV}, pinB s.o x = true → kfree fr x = true → pinB (F s).o x = true := fun {x} h1 h2 => by
    simp only [pinB, List.all_eq_true]
    intro k hk
    obtain ⟨cs, hc⟩ := pin_box h1 hk
    rw [hF.box s rfl k cs (kfree_ne h2 im hk) hc]
  have hg : kGate fr (F s) = true := kGate_mix' (clear_gate hci) (clear_gate hci) fun t => by
    rw [hFs]
    by_cases he : t = d
    · subst he
      exact .inr (.inr ⟨y, hFd, hpin hy1 hy2, hy2⟩)
    · exact .inl ⟨(put_other fun h => he (Option.some.inj h).symm).symm, put_o.symm⟩
  have hc0 : clear fr (F s) (some d0) = true := clear_same (s := F (s.put (some d) v)) (fun t e => by
    cases e
    rw [hFs]
    exact (put_other fun h => hne (Option.some.inj h)).symm) hg hci
  rw [if_pos hc0, heq (F s) fo fr' (fun x hx => ?_) (fun x hx id hid cs hc => hF.box s rfl id cs (kfree_ne (hop x hx).2 im hid) hc) (fun x hx id hid => hfx (hop x hx).1 (hop x hx).2 id hid), hv, rd, ← hFs]
  · have hc1 : clear fr (F (s.put (some d) v)) (some d) = true := clear_same (s := s.put (some d) v) (fun t e => by
      cases e
      rw [hFs]
      have hlt' : d < (F s).t.length := (List.getElem?_eq_some_iff.1 hFd).1
      simp [St.put, hlt, hlt']) (clear_gate hci) hca
    rw [if_pos hc1]
    exact hk
  · cases x with
    | tmp t =>
      have ht : t ≠ d0 := fun e => p3 d0 idd (e ▸ looks_mem hx)
      obtain ⟨m, l⟩ := rl t hx
      obtain ⟨z, hz, h1, h2⟩ := gate_pin hs.2 hh m l
      simp only [St.get, List.getD_eq_getElem?_getD, hF.t s rfl t ht, hz, Option.map_some, Option.getD_some]
      exact sub_fx z (hfx h1 h2)
    | const v => rfl
    | global g => rfl
    | func f => rfl
/-- Two neighbours change places. -/
theorem swap {fr : List Nat} {a i : Oper} (haa : ∀ x, a.op ≠ .assign x) (hia : ∀ x, i.op ≠ .assign x) (hc : comm T.gf ops fr a i = true) {R : Type} {s : St} {κ : St → Option R} {r : R} (hs : FrInv fr s)
    (hk : (if preB fr a s = true then opG T E ops.toList a s (fun s1 => if clear fr s1 a.dst = true then (if preB fr i s1 = true then opG T E ops.toList i s1 (fun s2 => if clear fr s2 i.dst = true then κ s2 else none) else none) else none) else none) = some r) :
    (if preB fr i s = true then opG T E ops.toList i s (fun s1 => if clear fr s1 i.dst = true then (if preB fr a s1 = true then opG T E ops.toList a s1 (fun s2 => if clear fr s2 a.dst = true then κ s2 else none) else none) else none) else none) = some r := by
  unfold comm at hc
  rw [Bool.and_eq_true] at hc
  obtain ⟨hap, hc⟩ := hc
  obtain ⟨p1, p2, p3⟩ := Oper.apart_spec hap
  cases ha : isNew fr a with
  | some d =>
    cases hi : isNew fr i with
    | some e => simp [ha, hi] at hc
    | none =>
      simp only [ha, hi, Bool.and_eq_true, Bool.not_eq_true'] at hc
      obtain ⟨_, _, had, _⟩ := isNew_spec ha
      exact (swapN ha hi hia (p1 d had) (p2 d had) hc.1.1 hc.1.2 hc.2 hs).1 hk
  | none =>
    cases hi : isNew fr i with
    | some e =>
      simp only [ha, hi, Bool.and_eq_true, Bool.not_eq_true'] at hc
      obtain ⟨_, _, hid, _⟩ := isNew_spec hi
      exact (swapN hi ha haa (p3 e hid) (fun h => p2 e h hid) hc.1.1 hc.1.2 hc.2 hs).2 hk
    | none =>
      simp only [ha, hi] at hc
      simp only [preB_none ha, preB_none hi, if_true] at hk ⊢
      by_cases hx : (isRd fr a && (isApp fr i).isSome) = true
      · rw [Bool.and_eq_true, Option.isSome_iff_exists] at hx
        obtain ⟨h1, d0, h2⟩ := hx
        exact swapP h1 h2 hap hs hk
      · rw [Bool.not_eq_true] at hx
        rw [hx] at hc
        simp only [Bool.or_false] at hc
        exact swapO haa hia hap hc hs hk

theorem mv_dst (fr : List Nat) (o : Oper) : (mv fr o).dst = o.dst := by
  unfold mv
  split
  · rfl
  · split <;> rfl
  · rfl
  · rfl
theorem mv_guard (fr : List Nat) (o : Oper) : (mv fr o).guard = o.guard := by
  unfold mv
  split
  · rfl
  · split <;> rfl
  · rfl
  · rfl
theorem mv_new (fr fr' : List Nat) (o : Oper) : isNew fr (mv fr' o) = isNew fr o := by
  unfold mv
  split
  · rename_i x h
    simp only [isNew, h]
  · rename_i t y d h1 h2
    split
    · simp only [isNew, h1]
    · rfl
  · rename_i t n ps h1
    simp only [isNew, h1]
  · rfl
theorem mv_pre (fr : List Nat) (o : Oper) (s : St) : preB fr (mv fr o) s = preB fr o s := by simp only [preB, mv_new]
theorem mv_not (fr : List Nat) (o : Oper) : ∀ x, (mv fr o).op ≠ .assign x := by
  intro x
  unfold mv
  split
  · simp
  · rename_i t y d h1 h2
    split
    · simp [h1]
    · simp [h1]
  · rename_i t n ps h1
    simp [h1]
  · rename_i h h' h''
    exact fun e => h x e
theorem mv_exec (fr : List Nat) (o : Oper) (ρ : Operand → Value) : execOp ρ (mv fr o) = execOp ρ o := by
  unfold mv
  split
  · rename_i x h
    simp only [execOp, h]
  · rename_i t y d h1 h2
    split
    · simp only [execOp, h1]
    · rfl
  · rename_i t n ps h1
    simp only [execOp, h1]
  · rfl

theorem stepG {f0 : List Nat} {o : Oper} (hna : ∀ x, o.op ≠ .assign x) {R : Type} {s : St} {κ : St → Option R} {r : R} (hk : opG T E ops.toList o s κ = some r) :
    ∃ s', κ s' = some r ∧ (∀ {R' : Type} (κ' : St → Option R'), opG T E ops.toList o s κ' = κ' s') ∧ ∀ {fr : List Nat}, FrInv fr s → clear fr s' o.dst = true → FrInv fr s' := by
  cases hb : isB T.gf ops f0 o with
  | true =>
    obtain ⟨s', h1, h2, h3⟩ := turnG_step hb hk
    exact ⟨s', h1, h2, fun hs hc => hs.turn h3 hc⟩
  | false =>
    cases hm : isMk o with
    | false =>
      obtain ⟨v, h1, h2⟩ := valG hb hna (fun h => absurd h (by simp [hm])) hk
      exact ⟨_, h1, fun κ' => h2 s κ' (.same (fun _ _ => rfl) rfl), fun hs hc => hs.put hc⟩
    | true =>
      unfold isMk at hm
      split at hm
      · rename_i t x ho
        obtain ⟨s', h1, h2, h3⟩ := turnG_step' (turn_makeInterface ho) hk
        exact ⟨s', h1, h2, fun hs hc => hs.turn h3 hc⟩
      · simp at hm
/-- What may go ahead goes ahead. -/
theorem front {fr : List Nat} {R : Type} {κ : St → Option R} {r : R} {i : Oper} {B : List Oper} : ∀ (A : List Oper) (s : St), FrInv fr s → (∀ a ∈ A, comm T.gf ops fr (mv fr a) (mv fr i) = true) → dopsK T E fr ops.toList (A ++ i :: B) s κ = some r → dopsK T E fr ops.toList (i :: (A ++ B)) s κ = some r
  | [], s, _, _, hk => hk
  | a :: A, s, hs, hc, hk => by
    simp only [List.cons_append, dopsK] at hk
    split at hk
    case isFalse => simp at hk
    rename_i hpa
    obtain ⟨s1, hk, hst, hfr⟩ := stepG (f0 := fr) (mv_not fr a) hk
    split at hk
    · rename_i hcl
      have hs1 := hfr hs (by rw [mv_dst]; exact hcl)
      have ih := front A s1 hs1 (fun b hb => hc b (by simp [hb])) hk
      simp only [dopsK] at ih
      have hboth : (if preB fr (mv fr a) s = true then opG T E ops.toList (mv fr a) s (fun s1 => if clear fr s1 (mv fr a).dst = true then (if preB fr (mv fr i) s1 = true then opG T E ops.toList (mv fr i) s1 (fun s2 => if clear fr s2 (mv fr i).dst = true then dopsK T E fr ops.toList (A ++ B) s2 κ else none) else none) else none) else none) = some r := by
        rw [mv_pre, if_pos hpa, hst, mv_dst, if_pos hcl, mv_dst, mv_pre]
        exact ih
      have := swap (mv_not fr a) (mv_not fr i) (hc a (by simp)) hs hboth
      simp only [mv_dst, mv_pre] at this
      simp only [List.cons_append, dopsK]
      exact this
    · simp at hk

theorem anc_listed {U : List Nat} (hdown : ∀ (j : Nat) (o : Oper), ops[j]? = some o → j ∉ U → ∀ e ∈ o.after, Region.binds .any e = true → e.on ∉ U) : ∀ (n i : Nat) (o : Oper), ops[i]? = some o → (∀ e ∈ o.after, Region.binds .any e = true → e.on ∉ U) → ∀ a ∈ anc ops n i, a ∉ U
  | 0, i, o, _, _, a, ha => by simp [anc] at ha
  | n + 1, i, o, ho, he, a, ha => by
    simp only [anc, ho, List.mem_flatMap, List.mem_filter] at ha
    obtain ⟨e, ⟨hmem, hb⟩, ha⟩ := ha
    have hon := he e (by simpa using hmem) hb
    rcases List.mem_cons.1 ha with rfl | ha
    · exact hon
    · cases hoe : ops[e.on]? with
      | none =>
        cases n with
        | zero => simp [anc] at ha
        | succ n => simp [anc, hoe] at ha
      | some oe => exact anc_listed hdown n e.on oe hoe (hdown e.on oe hoe hon) a ha

section
variable {P : Program} (hT : TOk P T) (hE : ∀ f, Pure P T f (E f))
include hT hE

theorem any_sound {fr : List Nat} {R : Type} {N : Mut} {X : Fm} {w0 : World} {Q : Exit → Act → World → Prop} {κ : St → Option R} {r : R} (hd : drawOk T.gf fr ops = true)
    (hn : ∀ γ' w' s' a', SR T N w0 X γ' w' s' a' → κ s' = some r → Q .normal a' w') :
    ∀ (fuel : Nat) (U : List Nat) (listed : Array Bool) (γ : Gam) (w : World) (s : St) (a : Act), U.length ≤ fuel → U.Pairwise (· < ·) → (∀ j ∈ U, j < ops.size) → (∀ j, j < ops.size → listed[j]? = some (decide (j ∉ U))) →
      (∀ (j : Nat) (o : Oper), ops[j]? = some o → j ∉ U → ∀ e ∈ o.after, Region.binds .any e = true → e.on ∉ U) →
      FrInv fr s → SR T N w0 X γ w s a → dopsK T E fr ops.toList (U.filterMap (ops[·]?)) s κ = some r → wpAny P .any ops Q fuel listed a w := by
  have hon : ∀ (j : Nat) (o : Oper), ops[j]? = some o → ∀ e ∈ o.after, Region.binds .any e = true → e.on < j := by
    intro j o ho e he hb
    have hlt := (Array.getElem?_eq_some_iff.1 ho).1
    simp only [drawOk, List.all_eq_true, List.mem_range] at hd
    have := hd j hlt
    simp only [ho, Bool.and_eq_true, List.all_eq_true] at this
    have := this.1 e (by simpa using he)
    simpa [hb] using this
  have hcomm : ∀ (i a : Nat) (oi oa : Oper), ops[i]? = some oi → ops[a]? = some oa → a < i → a ∉ anc ops ops.size i → comm T.gf ops fr (mv fr oa) (mv fr oi) = true := by
    intro i a oi oa hi ha hlt hna
    have hil := (Array.getElem?_eq_some_iff.1 hi).1
    simp only [drawOk, List.all_eq_true, List.mem_range] at hd
    have := hd i hil
    simp only [hi, Bool.and_eq_true, List.all_eq_true, List.mem_range] at this
    have := this.2 a hlt
    simpa [hna, ha] using this
  have hready : ∀ (U : List Nat) (listed : Array Bool), (∀ j, j < ops.size → listed[j]? = some (decide (j ∉ U))) → ∀ i, i ∈ Region.ready .any ops listed ↔ i < ops.size ∧ i ∈ U ∧ ∀ o, ops[i]? = some o → ∀ e ∈ o.after, Region.binds .any e = true → e.on ∉ U := by
    intro U listed hl i
    rw [mem_ready]
    constructor
    · rintro ⟨h1, o, ho, h2⟩
      have hlt := (Array.getElem?_eq_some_iff.1 ho).1
      refine ⟨hlt, ?_, fun o' ho' e he hb => ?_⟩
      · simpa [hl i hlt] using h1
      · have : o = o' := by rw [ho] at ho'; exact Option.some.inj ho'
        subst this
        have hlt' : e.on < ops.size := Nat.lt_trans (hon i o ho e he hb) hlt
        simpa [hl e.on hlt'] using h2 e he hb
    · rintro ⟨hlt, h1, h2⟩
      have ho : ops[i]? = some ops[i] := Array.getElem?_eq_getElem hlt
      refine ⟨by simpa [hl i hlt] using h1, _, ho, fun e he hb => ?_⟩
      have hlt' : e.on < ops.size := Nat.lt_trans (hon i _ ho e he hb) hlt
      simpa [hl e.on hlt'] using h2 _ ho e he hb
  have hdone : ∀ (U : List Nat) (listed : Array Bool) (γ : Gam) (w : World) (s : St) (a : Act), U.Pairwise (· < ·) → (∀ j ∈ U, j < ops.size) → (∀ j, j < ops.size → listed[j]? = some (decide (j ∉ U))) → SR T N w0 X γ w s a → dopsK T E fr ops.toList (U.filterMap (ops[·]?)) s κ = some r → Region.ready .any ops listed = [] → Q .normal a w := by
    intro U listed γ w s a hp hlt hl h hk hr
    cases U with
    | nil =>
      simp only [List.filterMap_nil, dopsK] at hk
      exact hn γ w s a h hk
    | cons i U =>
      exfalso
      have : i ∈ Region.ready .any ops listed := by
        rw [hready _ _ hl]
        refine ⟨hlt i (by simp), by simp, fun o ho e he hb hmem => ?_⟩
        have h1 := hon i o ho e he hb
        rcases List.mem_cons.1 hmem with h2 | h2
        · omega
        · have := List.rel_of_pairwise_cons hp h2
          omega
      rw [hr] at this
      simp at this
  intro fuel
  induction fuel with
  | zero =>
    intro U listed γ w s a hlen hp hlt hl hdown hs h hk
    have : U = [] := List.eq_nil_of_length_eq_zero (by omega)
    subst this
    have hr : Region.ready .any ops listed = [] := List.eq_nil_iff_forall_not_mem.2 fun i hi => by
      rw [hready _ _ hl] at hi
      simp at hi
    exact ⟨hr, hdone [] listed γ w s a hp hlt hl h hk hr⟩
  | succ fuel ih =>
    intro U listed γ w s a hlen hp hlt hl hdown hs h hk
    refine ⟨hdone U listed γ w s a hp hlt hl h hk, fun i hi => ?_⟩
    rw [hready _ _ hl] at hi
    obtain ⟨hil, hiU, hpre⟩ := hi
    have ho : ops[i]? = some ops[i] := Array.getElem?_eq_getElem hil
    obtain ⟨A, B, rfl⟩ := List.append_of_mem hiU
    have hA : ∀ a ∈ A, a < i := fun a ha => (List.pairwise_append.1 hp).2.2 a ha i (by simp)
    have hB : ∀ b ∈ B, i < b := fun b hb => List.rel_of_pairwise_cons (List.pairwise_append.1 hp).2.1 hb
    have hup := anc_listed hdown ops.size i _ ho (hpre _ ho)
    have hf := front (T := T) (E := E) (ops := ops) (fr := fr) (κ := κ) (r := r) (i := ops[i]) (B := B.filterMap (ops[·]?)) (A.filterMap (ops[·]?)) s hs (by
      intro oa hoa
      obtain ⟨a, ha, hoa⟩ := List.mem_filterMap.1 hoa
      exact hcomm i a _ oa ho hoa (hA a ha) fun hmem => hup a hmem (by simp [ha])) (by
      rw [List.filterMap_append, List.filterMap_cons, ho] at hk
      exact hk)
    rw [← List.filterMap_append] at hf
    simp only [dopsK] at hf
    split at hf
    case isFalse => simp at hf
    unfold wpOp
    simp only [ho]
    have hmem : ∀ j, j ∈ A ++ B ↔ j ∈ A ++ i :: B ∧ j ≠ i := by
      intro j
      simp only [List.mem_append, List.mem_cons]
      constructor
      · rintro (h | h)
        · have := hA j h
          exact ⟨.inl h, by omega⟩
        · have := hB j h
          exact ⟨.inr (.inr h), by omega⟩
      · rintro ⟨h | h | h, hne⟩
        · exact .inl h
        · exact absurd h hne
        · exact .inr h
    obtain ⟨s1, hf1, hst, hfr⟩ := stepG (f0 := fr) (mv_not fr ops[i]) hf
    have hf' : opG T E ops.toList (mv fr ops[i]) s (fun s' => open Classical in if s' = s1 then some r else none) = some r := by
      rw [hst]
      simp
    have step := opG_sound hT hE (ops := ops) (o := mv fr ops[i]) (Q := Q) (next := wpAny P .any ops Q fuel (listed.setIfInBounds i true)) h hf' (fun γ' w' s' a' h' hk'' => by
      have hs1 : s' = s1 := by
        by_cases he : s' = s1
        · exact he
        · simp [he] at hk''
      subst hs1
      have hk' := hf1
      split at hk'
      · rename_i hcl
        refine ih (A ++ B) _ γ' w' s' a' (by simp at hlen ⊢; omega) ?_ ?_ ?_ ?_ ?_ h' hk'
        · exact hp.sublist (by simp)
        · exact fun j hj => hlt j ((hmem j).1 hj).1
        · intro j hj
          by_cases hji : i = j
          · subst hji
            have : i < listed.size := by
              have := hl i hj
              exact (Array.getElem?_eq_some_iff.1 this).1
            rw [Array.getElem?_setIfInBounds_self_of_lt this]
            congr 1
            simp only [hmem]
            simp
          · rw [Array.getElem?_setIfInBounds_ne hji, hl j hj]
            congr 1
            have := hmem j
            simp only [this, Ne.symm hji, ne_eq, not_false_eq_true, and_true]
        · intro j o ho' hj e he hb hin
          by_cases hji : j = i
          · subst hji
            exact hpre o ho' e he hb ((hmem _).1 hin).1
          · exact hdown j o ho' (fun h => hj ((hmem j).2 ⟨h, hji⟩)) e he hb ((hmem _).1 hin).1
        · exact hfr hs (by rw [mv_dst]; exact hcl)
      · simp at hk')
    have hw : Region.wanted (mv fr ops[i]) = Region.wanted ops[i] := by
      funext y
      simp only [Region.wanted, mv_guard]
    have hwp : ∀ K, (mv fr ops[i]).wp P a w K Q = ops[i].wp P a w K Q := fun K => by
      simp only [Oper.wp, mv_exec]
      unfold Oper.upon
      simp only [mv_dst]
    have hask : (mv fr ops[i]).asks P a w = ops[i].asks P a w := by
      simp only [Oper.asks, mv_exec]
    rw [hw, hwp, hask, mv_dst] at step
    exact step

theorem draw_sound {id : Nat} {fr : List Nat} {R : Type} {N : Mut} {X : Fm} {w0 w : World} {γ : Gam} {s : St} {a : Act} {Q : Exit → Act → World → Prop} {κ : St → Option R} {r : R}
    (hd : drawOk T.gf fr ops = true) (hn : ∀ γ' w' s' a', SR T N w0 X γ' w' s' a' → κ s' = some r → Q .normal a' w') (h : SR T N w0 X γ w s a) (hk : drawK T E fr ops s κ = some r) : (Code.region id ops true).wp P Q a w := by
  unfold drawK at hk
  split at hk
  · rename_i hf
    simp only [Bool.and_eq_true, List.all_eq_true, Bool.or_eq_true, decide_eq_true_eq] at hf
    replace hf := hf.2
    have hall : (List.range ops.size).filterMap (ops[·]?) = ops.toList := by
      apply List.ext_getElem?
      intro k
      have : (List.range ops.size).filterMap (ops[·]?) = (List.range ops.size).filterMap (fun i => ops.toList[i]?) := by simp
      rw [this]
      have h2 : ∀ (l : List Oper), (List.range l.length).filterMap (fun i => l[i]?) = l := by
        intro l
        induction l with
        | nil => rfl
        | cons x l ih =>
          rw [List.length_cons, List.range_succ_eq_map, List.filterMap_cons]
          simp only [List.getElem?_cons_zero, List.filterMap_map, Function.comp_def, List.getElem?_cons_succ]
          rw [ih]
      rw [← Array.length_toList, h2]
    refine wp_region_any hT.mixed (any_sound hT hE hd hn ops.size (List.range ops.size) _ γ _ s a (by simp) List.pairwise_lt_range (by simp) ?_ ?_ ?_ (h.world (Chg.drew w)) (by rw [hall]; exact hk))
    · intro j hj
      simp [hj]
    · intro j o ho hj
      have := (Array.getElem?_eq_some_iff.1 ho).1
      simp [this] at hj
    · exact ⟨fun d hd hl => (hf.1 d hd).resolve_left (by omega), hf.2⟩
  · simp at hk
end
end
end Go.Ab

namespace Go.Ab

/-! ### scopes: jumps back to labels -/
/-- From a label's place on, within a scope. -/
def ScopeGo (P : Program) (c rest : Code) (Q : Exit → Act → World → Prop) (a : Act) (w : World) : Prop :=
  ∀ b k cs, ∃ e a' w', Q e a' w' ∧ Arrives P (lone (b.at a (.code rest :: .inScope c :: k)) cs w) b k cs e a' w'
/-- What a piece of a scope owes. -/
def inScopeQ (P : Program) (c : Code) (Q : Exit → Act → World → Prop) : Exit → Act → World → Prop
  | .goto l, a, w => ∃ rest, findLabel c l = some rest ∧ ScopeGo P c rest Q a w
  | e, a, w => Q e a w
theorem scopeGo_of {P : Program} {c rest : Code} {Q : Exit → Act → World → Prop} {a : Act} {w : World} (h : rest.wp P (inScopeQ P c Q) a w) : ScopeGo P c rest Q a w := by
  intro b k cs
  obtain ⟨e, a₁, w₁, hq, harr⟩ := h b (.inScope c :: k) cs
  cases e with
  | normal => exact ⟨.normal, a₁, w₁, hq, Steps.trans harr (.one step_inScope)⟩
  | exit id => exact ⟨.exit id, a₁, w₁, hq, fun k' hk => harr k' (by simp [exitTo, hk])⟩
  | goto l =>
    obtain ⟨rest', hf, hgo⟩ := hq
    obtain ⟨e₂, a₂, w₂, hq₂, harr₂⟩ := hgo b k cs
    exact ⟨e₂, a₂, w₂, hq₂, .of_steps (harr _ (by simp [gotoIn, hf])) harr₂⟩
  | ret => exact ⟨_, a₁, w₁, hq, harr⟩
  | panic ch => exact ⟨_, a₁, w₁, hq, harr⟩
  | outgrown => exact ⟨_, a₁, w₁, hq, harr⟩
theorem scope_wp {P : Program} {c : Code} {Q : Exit → Act → World → Prop} {a : Act} {w : World} (h : c.wp P (inScopeQ P c Q) a w) : (Code.scope c).wp P Q a w := by
  intro b k cs
  obtain ⟨e, a₁, w₁, hq, harr⟩ := scopeGo_of h b k cs
  exact ⟨e, a₁, w₁, hq, .of_steps (.one step_scope) harr⟩
def JmpOk (P : Program) (T : Ctx) {R : Type} (N : Mut) (X : Fm) (w0 : World) (r : R) (jmp : Jmp R) (fr : Nat → List Nat) : Prop :=
  ∀ (c rest : Code) (l : Nat) (κ : Ex → St → Option R) (Q : Exit → Act → World → Prop) (γ : Gam) (w : World) (s : St) (a : Act), drawsOk T.gf fr c = true → findLabel c l = some rest →
    SR T N w0 X γ w s a → jmp c rest s κ = some r → (∀ e γ' w' s' a', SR T N w0 X γ' w' s' a' → κ e s' = some r → Q e.to a' w') → ScopeGo P c rest Q a w
theorem drawsOk_label {gf : FuncId → Bool} {fr : Nat → List Nat} : ∀ {c rest : Code} {l : Nat}, drawsOk gf fr c = true → findLabel c l = some rest → drawsOk gf fr rest = true
  | .seq x y, rest, l, hd, hf => by
    simp only [drawsOk, Bool.and_eq_true] at hd
    simp only [findLabel] at hf
    split at hf
    · rename_i r hr
      simp only [Option.some.injEq] at hf
      subst hf
      simp only [drawsOk, Bool.and_eq_true]
      exact ⟨drawsOk_label hd.1 hr, hd.2⟩
    · exact drawsOk_label hd.2 hf
  | .label l', rest, l, hd, hf => by
    simp only [findLabel] at hf
    split at hf
    · simp only [Option.some.injEq] at hf
      subst hf
      rfl
    · simp at hf
  | .skip, rest, l, hd, hf => by simp [findLabel] at hf
  | .region _ _ _, rest, l, hd, hf => by simp [findLabel] at hf
  | .cond _ _ _, rest, l, hd, hf => by simp [findLabel] at hf
  | .block _ _, rest, l, hd, hf => by simp [findLabel] at hf
  | .loop _, rest, l, hd, hf => by simp [findLabel] at hf
  | .scope _, rest, l, hd, hf => by simp [findLabel] at hf
  | .exit _, rest, l, hd, hf => by simp [findLabel] at hf
  | .ret, rest, l, hd, hf => by simp [findLabel] at hf
  | .rangeFunc .., rest, l, hd, hf => by simp [findLabel] at hf
  | .goto _, rest, l, hd, hf => by simp [findLabel] at hf
  | .refuse _, rest, l, hd, hf => by simp [findLabel] at hf

section
variable {P : Program} {T : Ctx} (hT : TOk P T) {E : Abs} (hE : ∀ f, Pure P T f (E f))
include hT hE

theorem code_soundG {fr : Nat → List Nat} {R : Type} {N : Mut} {X : Fm} {w0 : World} {r : R} (jmp : Jmp R) (hj : JmpOk P T N X w0 r jmp fr) (kp : Nat → List Nat) (n : Nat) : ∀ (c : Code) (κ : Ex → St → Option R) (Q : Exit → Act → World → Prop) (γ : Gam) (w : World) (s : St) (a : Act),
    drawsOk T.gf fr c = true → SR T N w0 X γ w s a → codeG T E jmp kp fr n c s κ = some r → (∀ e γ' w' s' a', SR T N w0 X γ' w' s' a' → κ e s' = some r → Q e.to a' w') → c.wp P Q a w
  | .skip, κ, Q, γ, w, s, a, hd, h, hk, hn => by
    simp only [codeG] at hk
    exact wp_skip (hn .normal γ w s a h hk)
  | .label l, κ, Q, γ, w, s, a, hd, h, hk, hn => by
    simp only [codeG] at hk
    exact wp_label (hn .normal γ w s a h hk)
  | .region id ops false, κ, Q, γ, w, s, a, hd, h, hk, hn => by
    simp only [codeG] at hk
    refine wp_region ?_
    have := opsK_sound hT hE (κ := κ .normal) (Q := Q) (fun γ' w' s' a' h' hk' => hn .normal γ' w' s' a' h' hk') ops.toList 0 γ w s a (by simp) h hk
    rw [List.range_eq_range']
    simpa using this
  | .region id ops true, κ, Q, γ, w, s, a, hd, h, hk, hn => by
    simp only [codeG] at hk
    simp only [drawsOk, Bool.or_eq_true] at hd
    rcases hd with hd | hd
    · have : drawK T E (fr id) ops s (κ .normal) = none := by unfold drawK; rw [hd]; rfl
      rw [this] at hk
      cases hk
    exact draw_sound hT hE hd (κ := κ .normal) (fun γ' w' s' a' h' hk' => hn .normal γ' w' s' a' h' hk') h hk
  | .seq x y, κ, Q, γ, w, s, a, hd, h, hk, hn => by
    simp only [codeG] at hk
    simp only [drawsOk, Bool.and_eq_true] at hd
    refine wp_seq (code_soundG jmp hj kp n x _ _ γ w s a hd.1 h hk fun e γ' w' s' a' h' hk' => ?_)
    cases e with
    | normal => exact code_soundG jmp hj kp n y _ _ γ' w' s' a' hd.2 h' hk' hn
    | exit i => exact hn (.exit i) γ' w' s' a' h' hk'
    | goto l => exact hn (.goto l) γ' w' s' a' h' hk'
    | ret => exact hn .ret γ' w' s' a' h' hk'
  | .cond c x y, κ, Q, γ, w, s, a, hd, h, hk, hn => by
    simp only [codeG] at hk
    simp only [drawsOk, Bool.and_eq_true] at hd
    split at hk
    · rename_i t hc
      have hcv := h.get c
      rw [hc] at hcv
      simp only [RV, Rd] at hcv
      cases t with
      | true => exact wp_cond_true hcv (code_soundG jmp hj kp n x _ _ γ w s a hd.1 h hk hn)
      | false => exact wp_cond_false hcv (code_soundG jmp hj kp n y _ _ γ w s a hd.2 h hk hn)
    · simp at hk
  | .block id c, κ, Q, γ, w, s, a, hd, h, hk, hn => by
    simp only [codeG] at hk
    refine wp_block (code_soundG jmp hj kp n c _ _ γ w s a (by simpa only [drawsOk] using hd) h hk fun e γ' w' s' a' h' hk' => ?_)
    cases e with
    | normal => exact hn .normal γ' w' s' a' h' hk'
    | exit i =>
      simp only [Ex.to, Exit.inBlock]
      simp only at hk'
      split at hk'
      · rename_i e
        rw [if_pos e]
        exact hn .normal γ' w' s' a' h' hk'
      · rename_i e
        rw [if_neg e]
        exact hn (.exit i) γ' w' s' a' h' hk'
    | goto l => exact hn (.goto l) γ' w' s' a' h' hk'
    | ret => exact hn .ret γ' w' s' a' h' hk'
  | .loop c, κ, Q, γ, w, s, a, hd, h, hk, hn => by
    simp only [codeG] at hk
    refine wp_loop_rounds n (iter_sound (c := c) (fun κ' Q' γ w s a h hk hn => ?_) hn n γ w s a h hk)
    obtain ⟨s', h', hk'⟩ := h.keep _ hk
    exact code_soundG jmp hj kp n c _ _ γ w s' a (by simpa only [drawsOk] using hd) h' hk' hn
  | .scope c, κ, Q, γ, w, s, a, hd, h, hk, hn => by
    simp only [codeG] at hk
    simp only [drawsOk] at hd
    refine scope_wp (code_soundG jmp hj kp n c _ _ γ w s a hd h hk fun e γ' w' s' a' h' hk' => ?_)
    cases e with
    | normal => exact hn .normal γ' w' s' a' h' hk'
    | exit i => exact hn (.exit i) γ' w' s' a' h' hk'
    | ret => exact hn .ret γ' w' s' a' h' hk'
    | goto l =>
      simp only at hk'
      split at hk'
      · rename_i rest hf
        obtain ⟨s2, h2, hk2⟩ := h'.keep _ hk'
        exact ⟨rest, hf, hj c rest l κ Q γ' w' s2 a' hd hf h2 hk2 hn⟩
      · simp at hk'
  | .exit i, κ, Q, γ, w, s, a, hd, h, hk, hn => by
    simp only [codeG] at hk
    exact wp_exit (hn (.exit i) γ w s a h hk)
  | .ret, κ, Q, γ, w, s, a, hd, h, hk, hn => by
    simp only [codeG] at hk
    exact wp_ret (hn .ret γ w s a h hk)
  | .rangeFunc .., κ, Q, γ, w, s, a, hd, h, hk, hn => by simp [codeG] at hk
  | .goto l, κ, Q, γ, w, s, a, hd, h, hk, hn => by
    simp only [codeG] at hk
    exact wp_goto (hn (.goto l) γ w s a h hk)
  | .refuse why, κ, Q, γ, w, s, a, hd, h, hk, hn => by simp [codeG] at hk

theorem runG_ok {R : Type} {N : Mut} {X : Fm} {w0 : World} {r : R} (kp fr : Nat → List Nat) (n : Nat) : ∀ m : Nat, JmpOk P T N X w0 r (runG T E kp fr n m) fr
  | 0 => fun c rest l κ Q γ w s a _ _ _ hk _ => by simp [runG] at hk
  | m + 1 => fun c rest l κ Q γ w s a hd hf h hk hn => by
    simp only [runG] at hk
    refine scopeGo_of (code_soundG hT hE _ (runG_ok kp fr n m) kp n rest _ _ γ w s a (drawsOk_label hd hf) h hk fun e γ' w' s' a' h' hk' => ?_)
    cases e with
    | normal => exact hn .normal γ' w' s' a' h' hk'
    | exit i => exact hn (.exit i) γ' w' s' a' h' hk'
    | ret => exact hn .ret γ' w' s' a' h' hk'
    | goto l' =>
      simp only at hk'
      split at hk'
      · rename_i rest' hf'
        obtain ⟨s2, h2, hk2⟩ := h'.keep _ hk'
        exact ⟨rest', hf', runG_ok kp fr n m c rest' l' κ Q γ' w' s2 a' hd hf' h2 hk2 hn⟩
      · simp at hk'
theorem code_sound {R : Type} {N : Mut} {X : Fm} {w0 : World} {r : R} (kp fr : Nat → List Nat) (n : Nat) (c : Code) (κ : Ex → St → Option R) (Q : Exit → Act → World → Prop) (γ : Gam) (w : World) (s : St) (a : Act)
    (hd : drawsOk T.gf fr c = true) (h : SR T N w0 X γ w s a) (hk : codeK T E kp fr n c s κ = some r) (hn : ∀ e γ' w' s' a', SR T N w0 X γ' w' s' a' → κ e s' = some r → Q e.to a' w') : c.wp P Q a w :=
  code_soundG hT hE _ (runG_ok hT hE kp fr n n) kp n c κ Q γ w s a hd h hk hn
end

section
variable {P : Program} {T : Ctx} (hT : TOk P T) {E : Abs} (hE : ∀ f, Pure P T f (E f))

theorem resD_ok {N : Mut} {X : Fm} {w0 w : World} {γ : Gam} {s : St} {a : Act} (h : SR T N w0 X γ w s a) {x : AV} {u : Value} {d : D} (hx : RV γ s.o (all γ N s.o) w x u) (hd : resD s x = some d) : Rd N w d u := by
  have hk : Keep (all γ N s.o) N w w := (Chg.refl (fun _ _ => False) w).keep (fun _ _ hf => hf.elim) fun b i _ hm => .inl hm
  unfold resD at hd
  split at hd
  · rename_i i off
    simp only [RV] at hx
    obtain ⟨b, hb, rfl⟩ := hx
    split at hd
    · rename_i cs hl
      split at hd
      · rename_i ds hds
        split at hd
        · rename_i hcell
          simp only [Option.some.injEq] at hd
          subst hd
          obtain ⟨b', arr, ty, hb', hh, hvs⟩ := h.inv.obs _ (lookup_mem hl)
          have hbb : b' = b := by
            have : some b' = some b := by rw [← hb', hb]
            injection this
          subst hbb
          have hrd := datas_ok h.inv _ _ _ (RVL_drop off hvs) hds
          simp only [Rd]
          refine ⟨_, rfl, ?_⟩
          have h1 := RdC_of N w hh (fun j => h.inv.sep _ (lookup_mem hl) b' hb j) ds (arr.toList.drop off) off (RdL.keep hk _ _ hrd) (by simpa using hcell) fun i u hi => by simpa [List.getElem?_drop] using hi
          have h2 := (RdC_shift N w ds ⟨b', 0, none⟩ off 0).2 (by simpa using h1)
          simpa [add_plain] using h2
        · simp at hd
      · simp at hd
    · simp at hd
  · rename_i k
    split at hd
    · rename_i g n es hl
      split at hd
      · rename_i xs hxs
        simp only [Option.some.injEq] at hd
        subst hd
        simp only [RV] at hx
        obtain ⟨ob, l, hl', hs, rfl⟩ := hx
        rw [hl] at hl'
        injection hl' with hl'
        subst hl'
        simp only [Ob.sl, Option.some.injEq] at hs
        subst hs
        obtain ⟨h1, h2⟩ := datasE_ok s.o g n es xs hxs (arr_n h hl)
        have hro := h.inv.obs _ (lookup_mem hl)
        simp only [RO] at hro
        cases hb : (γ k).b with
        | none =>
          rw [hb] at hro
          obtain ⟨rfl, hval⟩ := hro
          simp only [slVal, tokVal, hb, hval, Rd]
          exact ⟨none, _, _, rfl, h2.2, by simp, fun _ => rfl, fun p hp => by simp at hp⟩
        | some b =>
          rw [hb] at hro
          obtain ⟨arr, ty, hh, hcap, hsz, hn, us, rest, e3, hv⟩ := hro
          have hrd := RdL.keep hk _ _ (datas_ok h.inv _ _ _ hv h1)
          simp only [slVal, tokVal, hb, Rd]
          refine ⟨_, _, _, rfl, h2.2, hcap, fun hn => by simp at hn, fun p hp => ?_⟩
          simp only [Option.some.injEq] at hp
          subst hp
          refine (RdE_flat ..).2 ⟨h2.1.1, RdC_of N w hh (fun j => h.inv.sep _ (lookup_mem hl) b hb j) _ us 0 hrd h2.1.2 fun i u hi => ?_⟩
          have hil := (List.getElem?_eq_some_iff.1 hi).1
          have : arr.toList[i]? = some u := by rw [e3, List.getElem?_append_left hil, hi]
          simpa using this
      · simp at hd
    · exact Rd.keep hk _ _ (data_ok h.inv _ _ _ hx hd)
  · exact Rd.keep hk _ _ (data_ok h.inv _ _ _ hx hd)

def resOne (tmps : Array Value) : ResultVar → Sem Value
  | .tmp t => pure (tmps.getD t undef)
  | .cell b t => do loadVar t (← asAddr (tmps.getD b undef))
theorem results_eq (fn : Func) (tmps : Array Value) : results fn tmps = (fn.results.mapM (resOne tmps)) >>= fun vs => pure (if h : vs.size = 1 then vs[0] else .tuple vs) := by
  unfold results
  congr 1

include hT in
theorem resK_ok {N : Mut} {X : Fm} {w0 w : World} {γ : Gam} {s : St} {a : Act} (h : SR T N w0 X γ w s a) : ∀ (vs : List ResultVar) (ds : List D), resK T s vs = some ds → ∃ us : List Value, RdL N w ds us ∧
    (vs.mapM (resOne a.tmps)).run P w = .ok us w
  | [], ds, hk => by
    simp only [resK, Option.some.injEq] at hk
    subst hk
    exact ⟨[], by simp [RdL], by simp⟩
  | .tmp t :: r, ds, hk => by
    simp only [resK] at hk
    split at hk
    · rename_i x xs hx hxs
      simp only [Option.some.injEq] at hk
      subst hk
      obtain ⟨us, h1, h2⟩ := resK_ok h r xs hxs
      have hg := h.get (.tmp t)
      simp only [St.get, Act.eval] at hg
      refine ⟨a.tmps.getD t undef :: us, ?_, ?_⟩
      · simp only [RdL]
        exact ⟨_, _, rfl, resD_ok h hg hx, h1⟩
      · rw [List.mapM_cons]
        simp only [Sem.run_bind, resOne, Sem.run_pure, Result.andThen_ok, h2]
    · simp at hk
  | .cell b t :: r, ds, hk => by
    simp only [resK] at hk
    split at hk
    · rename_i i off hb
      split at hk
      · rename_i cs hl
        split at hk
        · rename_i hfit
          split at hk
          · rename_i x xs hx hxs
            simp only [Option.some.injEq] at hk
            subst hk
            obtain ⟨us, h1, h2⟩ := resK_ok h r xs hxs
            have hg := h.get (.tmp b)
            simp only [St.get, Act.eval] at hg
            rw [hb] at hg
            simp only [RV] at hg
            obtain ⟨bl, hbl, he⟩ := hg
            obtain ⟨b', arr, ty, hb', hh, hvs⟩ := h.inv.obs _ (lookup_mem hl)
            have hbb : b' = bl := by
              have : some b' = some bl := by rw [← hb', hbl]
              injection this
            subst hbb
            have hlen : arr.toList.length = cs.length := RVL_length hvs
            have hsub := RVL_take (T.sz t) (RVL_drop off hvs)
            have hto := td_ok hfit.2.2
            have hrun := run_loadVar hT w hto hfit.2.1 ⟨b', off, none⟩ ((arr.toList.drop off).take (T.sz t)) (by simp at hlen ⊢; omega) fun j u hu => by
              rw [add_plain]
              simp only [World.cell?, hh]
              rw [List.getElem?_take] at hu
              split at hu
              · simpa [List.getElem?_drop] using hu
              · simp at hu
            refine ⟨(if (T.td t).agg = true then .agg ((arr.toList.drop off).take (T.sz t)).toArray else ((arr.toList.drop off).take (T.sz t)).headD undef) :: us, ?_, ?_⟩
            · simp only [RdL]
              exact ⟨_, _, rfl, resD_ok h (valA_ok hfit.2.1 hsub (by simp; omega)) hx, h1⟩
            · rw [List.mapM_cons]
              simp only [Sem.run_bind, resOne, he, asAddr, Sem.run_pure, Result.andThen_ok, hrun, h2]
          · simp at hk
        · simp at hk
      · simp at hk
    · simp at hk

include hT hE

/-- THE EVALUATOR IS SOUND: what it gives for data is what the function gives. -/
theorem fn_sound {f : FuncId} {fn : Func} (kp fr : Nat → List Nat) (n : Nat) (hf : P.funcs[f]? = some fn) (hname : (fn.name == "runtime.NumGoroutine") = false) (hdr : ∀ c, fn.body = some c → drawsOk T.gf fr c = true) : Pure P T f (fnK T E kp fr n fn) := by
  intro ds rs hk
  unfold fnK at hk
  split at hk
  · rename_i c hc
    refine ⟨⟨fn, hf, hname, by rw [hc]; rfl⟩, fun N w vs hN hG hv => ?_⟩
    refine calls_of_wp hf hc ?_
    have hall : ∀ (γ : Gam) b i, all γ N [] b i ↔ N b i := by
      intro γ b i
      constructor
      · rintro (hm | ⟨p, hp, _⟩)
        · exact hm
        · simp at hp
      · exact .inl
    have hk0 : Keep N (all (fun _ => ⟨none, 0, .slice none 0 0⟩) N []) w w := ⟨fun _ _ _ h _ => h, fun b i _ hm hm' => hm ((hall _ b i).1 hm'), fun _ _ _ => rfl⟩
    have hinit : SR T N w ⟨fun _ _ => False, fun _ _ _ => False⟩ (fun _ => ⟨none, 0, .slice none 0 0⟩) w { t := ds.map .d ++ List.replicate (fn.ntmps - ds.length) (.d (.v undef)), o := [] } { tmps := vs.toArray ++ Array.replicate (fn.ntmps - vs.toArray.size) undef, defers := [] } := by
      refine ⟨⟨by simp, by simp, by simp, hN, by simp⟩, ?_, rfl, Chg.refl _ w, ?_, fun _ _ _ hz => hz.elim, fun g cs hg => RdC.keep hk0 _ _ _ (hG g cs hg)⟩
      · have hlen := RdL_length hv
        have h1 : ∀ (xs ys : List AV) (us us' : List Value), RVL (fun _ => ⟨none, 0, .slice none 0 0⟩) [] (all (fun _ => ⟨none, 0, .slice none 0 0⟩) N []) w xs us → RVL (fun _ => ⟨none, 0, .slice none 0 0⟩) [] (all (fun _ => ⟨none, 0, .slice none 0 0⟩) N []) w ys us' → RVL (fun _ => ⟨none, 0, .slice none 0 0⟩) [] (all (fun _ => ⟨none, 0, .slice none 0 0⟩) N []) w (xs ++ ys) (us ++ us') := by
          intro xs
          induction xs with
          | nil =>
            intro ys us us' h1 h2
            simp only [RVL] at h1
            subst h1
            simpa using h2
          | cons x xs ih =>
            intro ys us us' h1 h2
            simp only [RVL] at h1
            obtain ⟨u, us0, rfl, h3, h4⟩ := h1
            simp only [List.cons_append, RVL]
            exact ⟨_, _, rfl, h3, ih ys us0 us' h4 h2⟩
        have h2 : ∀ k, RVL (fun _ => ⟨none, 0, .slice none 0 0⟩) [] (all (fun _ => ⟨none, 0, .slice none 0 0⟩) N []) w (List.replicate k (.d (.v undef))) (List.replicate k undef) := by
          intro k
          induction k with
          | zero => simp [RVL]
          | succ k ih =>
            simp only [List.replicate_succ, RVL]
            exact ⟨_, _, rfl, by simp only [RV, Rd], ih⟩
        have h3 := h1 _ _ _ _ (RVL_data.2 (RdL.keep hk0 _ _ hv)) (h2 (fn.ntmps - ds.length))
        have e : (vs.toArray ++ Array.replicate (fn.ntmps - vs.toArray.size) undef).toList = vs ++ List.replicate (fn.ntmps - ds.length) undef := by
          simp [hlen]
        rw [e]
        exact h3
      · rintro b i ⟨p, hp, _⟩
        simp at hp
    refine code_sound hT hE kp fr n c _ _ _ w _ _ (hdr c hc) hinit hk fun e γ' w' s' a' h' hk' => ?_
    have fin : resK T s' fn.results.toList = some rs → a'.defers = [] ∧ ∃ v, (results fn a'.tmps).run P w' = .ok v w' ∧ ∃ us, RdL N w' rs us ∧ Ending.returned v = .returned (pack us) ∧ Chg (fun _ _ => False) w w' := by
      intro hres
      obtain ⟨us, h1, h2⟩ := resK_ok (P := P) hT h' _ _ hres
      refine ⟨h'.defers, pack us, ?_, us, h1, rfl, h'.chg⟩
      rw [results_eq, Array.mapM_eq_mapM_toList]
      simp only [Sem.run_bind, Sem.run_map, h2, Result.andThen_ok, Sem.run_pure]
      congr 1
      match us with
      | [] => rfl
      | [u] => rfl
      | u :: v :: us => simp [pack]
    cases e with
    | normal => exact fin hk'
    | exit i => simp at hk'
    | goto l => simp at hk'
    | ret => exact fin hk'
  · simp at hk

omit hT hE in
theorem outK_len {s : St} : ∀ (vs : List ResultVar) {xs : List AV}, outK T s vs = some xs → xs.length = vs.length
  | [], xs, h => by
    simp only [outK, Option.some.injEq] at h
    subst h
    rfl
  | .tmp t :: r, xs, h => by
    simp only [outK] at h
    split at h
    · rename_i ys hy
      cases h
      simp [outK_len r hy]
    · cases h
  | .cell b t :: r, xs, h => by
    simp only [outK] at h
    split at h
    · split at h
      · split at h
        · split at h
          · rename_i ys hy
            cases h
            simp [outK_len r hy]
          · cases h
        · cases h
      · cases h
    · cases h
omit hE in
theorem outK_ok {N : Mut} {X : Fm} {w0 w : World} {γ : Gam} {s : St} {a : Act} (h : SR T N w0 X γ w s a) : ∀ (vs : List ResultVar) (xs : List AV), outK T s vs = some xs → ∃ us : List Value, RVL γ s.o (all γ N s.o) w xs us ∧
    (vs.mapM (resOne a.tmps)).run P w = .ok us w
  | [], xs, hk => by
    simp only [outK, Option.some.injEq] at hk
    subst hk
    exact ⟨[], by simp [RVL], by simp⟩
  | .tmp t :: r, xs, hk => by
    simp only [outK] at hk
    split at hk
    · rename_i ys hy
      cases hk
      obtain ⟨us, h1, h2⟩ := outK_ok h r ys hy
      have hg := h.get (.tmp t)
      simp only [St.get, Act.eval] at hg
      refine ⟨a.tmps.getD t undef :: us, ?_, ?_⟩
      · simp only [RVL]
        exact ⟨_, _, rfl, hg, h1⟩
      · rw [List.mapM_cons]
        simp only [Sem.run_bind, resOne, Sem.run_pure, Result.andThen_ok, h2]
    · cases hk
  | .cell b t :: r, xs, hk => by
    simp only [outK] at hk
    split at hk
    · rename_i i off hb
      split at hk
      · rename_i cs hl
        split at hk
        · rename_i hfit
          split at hk
          · rename_i ys hy
            cases hk
            obtain ⟨us, h1, h2⟩ := outK_ok h r ys hy
            have hg := h.get (.tmp b)
            simp only [St.get, Act.eval] at hg
            rw [hb] at hg
            simp only [RV] at hg
            obtain ⟨bl, hbl, he⟩ := hg
            obtain ⟨b', arr, ty, hb', hh, hvs⟩ := h.inv.obs _ (lookup_mem hl)
            have hbb : b' = bl := by
              have : some b' = some bl := by rw [← hb', hbl]
              injection this
            subst hbb
            have hlen : arr.toList.length = cs.length := RVL_length hvs
            have hsub := RVL_take (T.sz t) (RVL_drop off hvs)
            have hto := td_ok hfit.2.2
            have hrun := run_loadVar hT w hto hfit.2.1 ⟨b', off, none⟩ ((arr.toList.drop off).take (T.sz t)) (by simp at hlen ⊢; omega) fun j u hu => by
              rw [add_plain]
              simp only [World.cell?, hh]
              rw [List.getElem?_take] at hu
              split at hu
              · simpa [List.getElem?_drop] using hu
              · simp at hu
            refine ⟨(if (T.td t).agg = true then .agg ((arr.toList.drop off).take (T.sz t)).toArray else ((arr.toList.drop off).take (T.sz t)).headD undef) :: us, ?_, ?_⟩
            · simp only [RVL]
              exact ⟨_, _, rfl, valA_ok hfit.2.1 hsub (by simp; omega), h1⟩
            · rw [List.mapM_cons]
              simp only [Sem.run_bind, resOne, he, asAddr, Sem.run_pure, Result.andThen_ok, hrun, h2]
          · cases hk
        · cases hk
      · cases hk
    · cases hk

/-- THE EVALUATOR IS SOUND, for a function that turns what it is handed. -/
theorem gn_sound {f : FuncId} {fn : Func} (kp fr : Nat → List Nat) (n : Nat) (hf : P.funcs[f]? = some fn) (hname : (fn.name == "runtime.NumGoroutine") = false) (hdr : ∀ c, fn.body = some c → drawsOk T.gf fr c = true) : Turns P T f (gnK T E kp fr n fn) := by
  intro as o rs o' hk
  unfold gnK at hk
  split at hk
  · rename_i c hc
    refine ⟨⟨fn, hf, hname, by rw [hc]; rfl⟩, fun γ N w vs hz hinv hv hG => ?_⟩
    refine calls_of_wp hf hc ?_
    have hinit : SR T N w ⟨own γ o, fun id b q => (γ id).b = some b ∧ ∃ ob, lookup id o = some ob ∧ ob.kd = q ∧ q ≠ 0⟩ γ w { t := as ++ List.replicate (fn.ntmps - as.length) (.d (.v undef)), o := o } { tmps := vs.toArray ++ Array.replicate (fn.ntmps - vs.toArray.size) undef, defers := [] } := by
      refine ⟨hinv, ?_, rfl, Chg.refl _ w, fun b i hm => .inl hm, fun id b q h => ⟨hz _ (lookup_mem h.2.choose_spec.1), h⟩, hG⟩
      have hlen := RVL_length hv
      have h2 : ∀ k, RVL γ o (all γ N o) w (List.replicate k (.d (.v undef))) (List.replicate k undef) := by
        intro k
        induction k with
        | zero => simp [RVL]
        | succ k ih =>
          simp only [List.replicate_succ, RVL]
          exact ⟨_, _, rfl, by simp only [RV, Rd], ih⟩
      have h3 := RVL_append hv (h2 (fn.ntmps - as.length))
      have e : (vs.toArray ++ Array.replicate (fn.ntmps - vs.toArray.size) undef).toList = vs ++ List.replicate (fn.ntmps - as.length) undef := by
        simp [hlen]
      rw [e]
      exact h3
    refine code_sound hT hE kp fr n c _ _ _ w _ _ (hdr c hc) hinit hk fun e γ' w' s' a' h' hk' => ?_
    have fin : (match outK T s' fn.results.toList with
      | some rs => leave rs s'.o (reachN s'.o 4 (idsL rs ++ zeroIds s'.o))
      | none => none) = some (rs, o') → a'.defers = [] ∧ ∃ v, (results fn a'.tmps).run P w' = .ok v w' ∧ ∃ γ' us, Inv γ' N o' w' ∧ RVL γ' o' (all γ' N o') w' rs us ∧ Ending.returned v = .returned (pack us) ∧ Chg (own γ o) w w' ∧ (∀ b i, own γ' o' b i → own γ o b i ∨ w.heap.size ≤ b) ∧
      ∀ id ob, lookup id o = some ob → ob.kd ≠ 0 → (γ' id).b = (γ id).b ∧ ∃ ob', lookup id o' = some ob' ∧ ob'.kd = ob.kd := by
      intro hres
      split at hres
      · rename_i rs' hrs'
        unfold leave at hres
        split at hres
        · rename_i hcl
          injection hres with hres
          injection hres with e1 e2
          subst e1 e2
          obtain ⟨us, h1, h2⟩ := outK_ok (P := P) hT h' _ _ hrs'
          generalize hids : reachN s'.o 4 (idsL rs' ++ zeroIds s'.o) = ids at hcl
          have hsub : ∀ k ∈ idsL rs', k ∈ ids := fun k hk => by
            rw [← hids]
            simp [reachN, hk]
          have hown : ∀ b i, own γ' (pickO ids s'.o) b i → own γ' s'.o b i := fun b i ⟨p, hp, hb, hm⟩ => ⟨p, mem_pickO hp, hb, hm⟩
          have hkk : Keep (all γ' N s'.o) (all γ' N (pickO ids s'.o)) w' w' := Keep.less fun b i hm => hm.imp id (hown b i)
          have hd : ∀ x u, Rd (all γ' N s'.o) w' x u → Rd (all γ' N (pickO ids s'.o)) w' x u := fun x u => Rd.keep hkk x u
          refine ⟨h'.defers, pack us, ?_, γ', us, ?_, RVL.pick hd _ _ (fun k hk => lookup_pickO ids k (.inr (by simpa using hsub k hk)) _) h1, rfl, h'.chg, fun b i hm => h'.fresh b i (hown b i hm), fun id ob hl hkd => ?_⟩
          · rw [results_eq, Array.mapM_eq_mapM_toList]
            simp only [Sem.run_bind, Sem.run_map, h2, Result.andThen_ok, Sem.run_pure]
            congr 1
            match us with
            | [] => rfl
            | [u] => rfl
            | u :: v :: us => simp [pack]
          · refine ⟨pickO_nodup h'.inv.keys, fun p hp q hq b => h'.inv.apart p (mem_pickO hp) q (mem_pickO hq) b, fun p hp => h'.inv.sep p (mem_pickO hp), h'.inv.old, fun p hp => ?_⟩
            have hro := h'.inv.obs p (mem_pickO hp)
            obtain ⟨j, ob⟩ := p
            cases ob with
            | box cs =>
              obtain ⟨b, arr, ty, e, hh, hv⟩ := hro
              exact ⟨b, arr, ty, e, hh, RVL.pick hd _ _ (fun k hk => lookup_pickO ids k (closedO_ok hcl hp k hk) _) hv⟩
            | tok n xs =>
              simp only [RO] at hro ⊢
              cases hg : (γ' j).b with
              | none => rw [hg] at hro; exact ⟨hd _ _ hro.1, hro.2⟩
              | some b =>
                rw [hg] at hro
                obtain ⟨arr, ty, hb, h1, h2, h3⟩ := hro
                exact ⟨arr, ty, hb, h1, h2, RdE.keep hkk _ _ _ _ h3⟩
            | arr g n es =>
              simp only [RO] at hro ⊢
              cases hg : (γ' j).b with
              | none => rw [hg] at hro; exact hro
              | some b =>
                rw [hg] at hro
                obtain ⟨arr, ty, hb, h1, h2, h3, us, rest, e, h4⟩ := hro
                exact ⟨arr, ty, hb, h1, h2, h3, us, rest, e, RVL.pick hd _ _ (fun k hk => lookup_pickO ids k (closedO_okA hcl hp k hk) _) h4⟩
            | map es =>
              obtain ⟨b, ents, clock, e, hh, h1, h2, h3⟩ := hro
              exact ⟨b, ents, clock, e, hh, h1, h2, RVL.pick hd _ _ (fun k hk => lookup_pickO ids k (closedO_okM hcl hp k hk) _) h3⟩
          · obtain ⟨b, hb'⟩ : ∃ b, (γ id).b = some b := by
              have hro := hinv.obs _ (lookup_mem hl)
              cases ob with
              | box cs =>
                obtain ⟨b, arr, ty, hb, _⟩ := hro
                exact ⟨b, hb⟩
              | map es =>
                obtain ⟨b, ents, clock, hb, _⟩ := hro
                exact ⟨b, hb⟩
              | tok n xs => exact absurd rfl hkd
              | arr g n es => exact absurd rfl hkd
            obtain ⟨h3, h4, ob', h5, h6, _⟩ := h'.pin id b ob.kd ⟨hb', ob, hl, rfl, hkd⟩
            exact ⟨h4.trans hb'.symm, ob', by rw [lookup_pickO ids id (.inl h3), h5], h6⟩
        · cases hres
      · cases hres
    cases e with
    | normal => exact fin hk'
    | exit i => simp at hk'
    | goto l => simp at hk'
    | ret => exact fin hk'
  · simp at hk

end
end Go.Ab

namespace Go.Ab

/-- Types that are told out of a list. -/
structure TI where
  td : TD
  sz : Nat
  zero : List D
  eq : List EK := []
  cmp : Bool := false
  has : List (TypeId × Bool) := []
  meth : List (String × FuncId) := []

def mkCtx (tab : List TI) (glob : Nat → Option (List D)) : Ctx where
  gf _ := false
  small _ := false
  wr _ := false
  mf _ _ _ := none
  td t := (tab.getD t { td := .other, sz := 0, zero := [] }).td
  sz t := (tab.getD t { td := .other, sz := 0, zero := [] }).sz
  zero t := (tab.getD t { td := .other, sz := 0, zero := [] }).zero
  glob := glob
  eqt t := (tab.getD t { td := .other, sz := 0, zero := [] }).eq
  cmp t := (tab.getD t { td := .other, sz := 0, zero := [] }).cmp
  has t i := ((tab.getD t { td := .other, sz := 0, zero := [] }).has.find? (·.1 == i)).map (·.2)
  meth t n := ((tab.getD t { td := .other, sz := 0, zero := [] }).meth.find? (·.1 == n)).map (·.2)

def fieldsB (tab : List TI) : List (TypeId × Nat) → List Field → Bool
  | [], [] => true
  | (t, o) :: fs, f :: gs => t == f.type && o == f.offset && (tab.getD t { td := .other, sz := 0, zero := [] }).td.ok && (tab.getD t { td := .other, sz := 0, zero := [] }).sz != 0 && fieldsB tab fs gs
  | _, _ => false
def tdB (tab : List TI) : TD → Option TypeDesc → Bool
  | .int k, some (.int k') => k == k'
  | .bool, some .bool => true
  | .str, some .string => true
  | .slice e, some (.slice e') => e == e' && (tab.getD e { td := .other, sz := 0, zero := [] }).td.ok
  | .strct fs, some (.struct a) => fieldsB tab fs a.toList
  | .ptr e, some (.pointer e') => e == e'
  | .iface em, some (.interface ms) => ms.isEmpty == em
  | .func, some (.func _ _ _) => true
  | .map k e, some (.map k' e') => k == k' && e == e'
  | .arr n e, some (.array n' e') => n == n' && e == e' && (tab.getD e { td := .other, sz := 0, zero := [] }).td.ok
  | .other, _ => true
  | _, _ => false
def cellB : D → Value → Bool
  | .v (.int k n), .int k' n' => k == k' && n == n'
  | .v (.bool b), .bool b' => b == b'
  | .v (.pointer none), .pointer none => true
  | .v .nilFunc, .nilFunc => true
  | .v .nilIface, .nilIface => true
  | .v (.map none), .map none => true
  | .s [], .string b => b.data.isEmpty
  | .sl _ [], .slice none 0 0 => true
  | _, _ => false
def cellsB : List D → List Value → Bool
  | [], [] => true
  | d :: ds, v :: vs => cellB d v && cellsB ds vs
  | _, _ => false
def infoB (x : TI) : Option TypeInfo → Bool
  | some i => i.size == x.sz && Nat.ble i.bytes 4096 && (match i.zero with
    | some z => cellsB x.zero z.cells.toList && x.zero.length == x.sz && (match x.td.agg, z with | true, .agg _ => true | true, _ => false | false, .agg _ => false | false, _ => true)
    | none => false)
  | none => false
def tabB (P : Program) (tab : List TI) : Nat → List TI → Bool
  | _, [] => true
  | t, x :: r => (match x.td with | .other => true | d => tdB tab d (P.underlying t) && infoB x (P.info? t)) && tabB P tab (t + 1) r

theorem fieldsB_ok {tab : List TI} {glob : Nat → Option (List D)} : ∀ {fs : List (TypeId × Nat)} {gs : List Field}, fieldsB tab fs gs = true → gs.map (fun f => (f.type, f.offset)) = fs ∧ ∀ f ∈ fs, (mkCtx tab glob).td f.1 ≠ .other ∧ (mkCtx tab glob).sz f.1 ≠ 0
  | [], [], _ => by simp
  | [], _ :: _, h => by simp [fieldsB] at h
  | (t, o) :: fs, [], h => by simp [fieldsB] at h
  | (t, o) :: fs, f :: gs, h => by
    simp only [fieldsB, Bool.and_eq_true, beq_iff_eq, bne_iff_ne] at h
    obtain ⟨⟨⟨⟨h1, h2⟩, h3⟩, h4⟩, h5⟩ := h
    obtain ⟨h6, h7⟩ := fieldsB_ok (glob := glob) h5
    refine ⟨by simp [h1, h2, h6], fun g hg => ?_⟩
    rcases List.mem_cons.1 hg with rfl | hg
    · exact ⟨td_ok h3, h4⟩
    · exact h7 g hg

theorem tdB_ok {P : Program} {tab : List TI} {glob : Nat → Option (List D)} {t : TypeId} (h : tdB tab ((mkCtx tab glob).td t) (P.underlying t) = true) : tdOk P (mkCtx tab glob) t := by
  unfold tdOk
  revert h
  generalize (mkCtx tab glob).td t = d
  generalize P.underlying t = u
  intro h
  cases d with
  | int k =>
    cases u with
    | none => simp [tdB] at h
    | some u => cases u <;> simp [tdB] at h; subst h; rfl
  | bool =>
    cases u with
    | none => simp [tdB] at h
    | some u => cases u <;> simp [tdB] at h; rfl
  | str =>
    cases u with
    | none => simp [tdB] at h
    | some u => cases u <;> simp [tdB] at h; rfl
  | slice e =>
    cases u with
    | none => simp [tdB] at h
    | some u =>
      cases u <;> simp only [tdB, Bool.and_eq_true, beq_iff_eq, Bool.false_eq_true] at h
      exact ⟨by rw [h.1], td_ok h.2⟩
  | strct fs =>
    cases u with
    | none => simp [tdB] at h
    | some u =>
      cases u <;> simp only [tdB, Bool.false_eq_true] at h
      exact ⟨_, rfl, fieldsB_ok h⟩
  | ptr e =>
    cases u with
    | none => simp [tdB] at h
    | some u => cases u <;> simp [tdB] at h; subst h; rfl
  | iface em =>
    cases u with
    | none => simp [tdB] at h
    | some u =>
      cases u <;> simp only [tdB, beq_iff_eq, Bool.false_eq_true] at h
      exact ⟨_, rfl, h⟩
  | func =>
    cases u with
    | none => simp [tdB] at h
    | some u => cases u <;> simp [tdB] at h; exact ⟨_, _, _, rfl⟩
  | map k e =>
    cases u with
    | none => simp [tdB] at h
    | some u => cases u <;> simp [tdB] at h; simp [h]
  | arr n e =>
    cases u with
    | none => simp [tdB] at h
    | some u =>
      cases u <;> simp only [tdB, Bool.and_eq_true, beq_iff_eq, Bool.false_eq_true] at h
      exact ⟨by rw [h.1.1, h.1.2], td_ok h.2⟩
  | other => trivial

theorem cellB_ok {d : D} {v : Value} (h : cellB d v = true) : ∀ {ds : List D} {vs : List Value}, zeroL ds vs → zeroL (d :: ds) (v :: vs) := by
  intro ds vs hz
  unfold cellB at h
  split at h <;> first
    | (simp at h; done)
    | (simp only [zeroL]
       simp only [Bool.and_eq_true, beq_iff_eq] at h
       try obtain ⟨h1, h2⟩ := h
       subst_vars
       exact ⟨_, rfl, rfl, hz⟩)
    | (simp only [zeroL]
       exact ⟨_, rfl, rfl, hz⟩)
    | skip
  · simp only [zeroL]
    rename_i b
    have : b = ⟨#[]⟩ := by
      obtain ⟨a⟩ := b
      simpa using h
    subst this
    exact ⟨_, rfl, hz⟩
  · simp only [zeroL]
    exact ⟨_, rfl, hz⟩
theorem cellsB_ok : ∀ {ds : List D} {vs : List Value}, cellsB ds vs = true → zeroL ds vs
  | [], [], _ => by simp [zeroL]
  | [], _ :: _, h => by simp [cellsB] at h
  | _ :: _, [], h => by simp [cellsB] at h
  | d :: ds, v :: vs, h => by
    simp only [cellsB, Bool.and_eq_true] at h
    exact cellB_ok h.1 (cellsB_ok h.2)

theorem infoB_ok {x : TI} {o : Option TypeInfo} (h : infoB x o = true) : ∃ i z, o = some i ∧ i.size = x.sz ∧ i.bytes ≤ 4096 ∧ i.zero = some z ∧ zeroL x.zero z.cells.toList ∧ x.zero.length = x.sz ∧ (x.td.agg = true → ∃ us, z = .agg us) ∧ (x.td.agg = false → z.cells = #[z]) := by
  cases o with
  | none => simp [infoB] at h
  | some i =>
    simp only [infoB, Bool.and_eq_true, beq_iff_eq, Nat.ble_eq] at h
    obtain ⟨⟨h1, h2⟩, h3⟩ := h
    split at h3
    · rename_i z hz
      simp only [Bool.and_eq_true, beq_iff_eq] at h3
      obtain ⟨⟨h4, h5⟩, h6⟩ := h3
      refine ⟨i, z, rfl, h1, h2, hz, cellsB_ok h4, h5, fun ha => ?_, fun ha => ?_⟩
      · rw [ha] at h6
        cases z <;> simp at h6
        exact ⟨_, rfl⟩
      · rw [ha] at h6
        cases z <;> first | rfl | (simp at h6)
    · simp at h3

theorem tabB_ok {P : Program} {tab : List TI} : ∀ (k : Nat) (r : List TI), tabB P tab k r = true → ∀ j x, r[j]? = some x → x.td ≠ .other → tdB tab x.td (P.underlying (k + j)) = true ∧ infoB x (P.info? (k + j)) = true
  | k, [], _, j, x, hx, _ => by simp at hx
  | k, y :: r, h, 0, x, hx, ho => by
    simp at hx
    subst hx
    simp only [tabB, Bool.and_eq_true] at h
    simpa using h.1
  | k, y :: r, h, j + 1, x, hx, ho => by
    simp only [tabB, Bool.and_eq_true] at h
    have := tabB_ok (k + 1) r h.2 j x (by simpa using hx) ho
    rwa [show k + 1 + j = k + (j + 1) from by omega] at this

/-- The table fits the program. -/
def eqsB (P : Program) : Nat → List TI → Bool
  | _, [] => true
  | t, x :: r => (x.eq.isEmpty || eqB P t x.eq) && eqsB P (t + 1) r
theorem eqsB_ok {P : Program} : ∀ (i : Nat) (tab : List TI), eqsB P i tab = true → ∀ (t : Nat) (x : TI), tab[t]? = some x → x.eq ≠ [] → eqB P (i + t) x.eq = true
  | i, [], _, t, x, hx, _ => by simp at hx
  | i, y :: r, h, t, x, hx, hne => by
    simp only [eqsB, Bool.and_eq_true, Bool.or_eq_true, List.isEmpty_iff] at h
    cases t with
    | zero =>
      simp at hx
      subst hx
      exact h.1.resolve_left hne
    | succ t =>
      have := eqsB_ok (i + 1) r h.2 t x (by simpa using hx) hne
      rw [Nat.add_assoc, Nat.add_comm 1 t] at this
      exact this
def cmpB (P : Program) (t : TypeId) : Bool := match P.underlying t with
  | some (.pointer e) => (P.info? t).any (·.comparable) && (P.info? e).any fun j => j.size != 0
  | _ => false
def hasB (P : Program) (t : TypeId) (x : TypeId × Bool) : Bool := match P.underlying x.1, P.info? t, P.info? x.1 with
  | some (.interface want), some i, some j => (match j.zero with | some .nilIface => true | _ => false) && (lacking want i.methods).isEmpty == x.2
  | _, _, _ => false
def dynB (P : Program) : Nat → List TI → Bool
  | _, [] => true
  | t, x :: r => (!x.cmp || cmpB P t) && x.has.all (hasB P t) && dynB P (t + 1) r
theorem dynB_ok {P : Program} : ∀ (i : Nat) (tab : List TI), dynB P i tab = true → ∀ (t : Nat) (x : TI), tab[t]? = some x → (x.cmp = true → cmpB P (i + t) = true) ∧ x.has.all (hasB P (i + t)) = true
  | i, [], _, t, x, hx => by simp at hx
  | i, y :: r, h, t, x, hx => by
    simp only [dynB, Bool.and_eq_true, Bool.or_eq_true, Bool.not_eq_true'] at h
    cases t with
    | zero =>
      simp at hx
      subst hx
      exact ⟨fun hc => h.1.1.resolve_left (by rw [hc]; simp), h.1.2⟩
    | succ t =>
      have := dynB_ok (i + 1) r h.2 t x (by simpa using hx)
      rw [Nat.add_assoc, Nat.add_comm 1 t] at this
      exact this
/-- The methods of a list: what the program's own look-up gives. -/
def MethsOk (P : Program) (tab : List TI) : Prop := ∀ t x, tab[t]? = some x → ∀ y ∈ x.meth, ∀ (v : Value) (w : World), (Go.method (P.types.size + Made.depth) t v y.1).run P w = .ok (y.2, v) w
theorem mk_ok {P : Program} {tab : List TI} (glob : Nat → Option (List D)) (h : tabB P tab 0 tab = true) (hm : P.follows .mixedOrders = true) (hq : eqsB P 0 tab = true) (hd : dynB P 0 tab = true) (hmt : MethsOk P tab) : TOk P (mkCtx tab glob) := by
  have key : ∀ t, (mkCtx tab glob).td t ≠ .other → ∃ x, tab[t]? = some x ∧ (mkCtx tab glob).td t = x.td ∧ (mkCtx tab glob).sz t = x.sz ∧ (mkCtx tab glob).zero t = x.zero := by
    intro t ht
    cases hx : tab[t]? with
    | none => simp [mkCtx, List.getD, hx] at ht
    | some x => exact ⟨x, rfl, by simp [mkCtx, List.getD, hx], by simp [mkCtx, List.getD, hx], by simp [mkCtx, List.getD, hx]⟩
  refine ⟨fun t => ?_, fun t ht => ?_, hm, fun t ht => ?_, fun t ht => ?_, fun t i b ht => ?_, fun f as o rs o' h => by simp [mkCtx] at h, fun e he => (by cases he), fun t n g ht => ?_⟩
  · by_cases ht : (mkCtx tab glob).td t = .other
    · unfold tdOk
      rw [ht]
      trivial
    · obtain ⟨x, hx, e1, e2, e3⟩ := key t ht
      have := (tabB_ok 0 tab h t x hx (by rw [← e1]; exact ht)).1
      rw [Nat.zero_add, ← e1] at this
      exact tdB_ok this
  · obtain ⟨x, hx, e1, e2, e3⟩ := key t ht
    have := infoB_ok (tabB_ok 0 tab h t x hx (by rw [← e1]; exact ht)).2
    rw [Nat.zero_add] at this
    rw [e1, e2, e3]
    exact this
  · cases hx : tab[t]? with
    | none => simp [mkCtx, List.getD, hx] at ht
    | some x =>
      have e : (mkCtx tab glob).eqt t = x.eq := by simp [mkCtx, List.getD, hx]
      rw [e] at ht ⊢
      have := eqsB_ok 0 tab hq t x hx ht
      rwa [Nat.zero_add] at this
  · cases hx : tab[t]? with
    | none => simp [mkCtx, List.getD, hx] at ht
    | some x =>
      have e : (mkCtx tab glob).cmp t = x.cmp := by simp [mkCtx, List.getD, hx]
      rw [e] at ht
      have := (dynB_ok 0 tab hd t x hx).1 ht
      rw [Nat.zero_add] at this
      unfold cmpB at this
      split at this
      · rename_i e hu
        simp only [Bool.and_eq_true, Option.any_eq_true, bne_iff_ne] at this
        obtain ⟨⟨i, h1, h2⟩, j, h3, h4⟩ := this
        exact ⟨e, i, j, hu, h1, h2, h3, h4⟩
      · simp at this
  · cases hx : tab[t]? with
    | none => simp [mkCtx, List.getD, hx] at ht
    | some x =>
      have e : (mkCtx tab glob).has t i = (x.has.find? (·.1 == i)).map (·.2) := by simp [mkCtx, List.getD, hx]
      rw [e, Option.map_eq_some_iff] at ht
      obtain ⟨y, hy, rfl⟩ := ht
      have hi : y.1 = i := by simpa using List.find?_some hy
      have := List.all_eq_true.1 (dynB_ok 0 tab hd t x hx).2 y (List.mem_of_find?_eq_some hy)
      rw [Nat.zero_add, ] at this
      unfold hasB at this
      rw [hi] at this
      split at this
      · rename_i want xi j h1 h2 h3
        simp only [Bool.and_eq_true, beq_iff_eq] at this
        obtain ⟨h4, h5⟩ := this
        split at h4
        · rename_i hz
          exact ⟨want, xi, j, h1, h2, h3, hz, h5⟩
        · simp at h4
      · simp at this
  · cases hx : tab[t]? with
    | none => simp [mkCtx, List.getD, hx] at ht
    | some x =>
      have e : (mkCtx tab glob).meth t n = (x.meth.find? (·.1 == n)).map (·.2) := by simp [mkCtx, List.getD, hx]
      rw [e, Option.map_eq_some_iff] at ht
      obtain ⟨y, hy, rfl⟩ := ht
      have hi : y.1 = n := by simpa using List.find?_some hy
      have := hmt t x hx y (List.mem_of_find?_eq_some hy)
      rw [hi] at this
      exact this

def methIn (l : List (TypeId × String × FuncId)) : Nat → List TI → Bool
  | _, [] => true
  | t, x :: r => x.meth.all (fun y => l.contains (t, y)) && methIn l (t + 1) r
theorem methIn_ok {l : List (TypeId × String × FuncId)} : ∀ (i : Nat) (tab : List TI), methIn l i tab = true → ∀ (t : Nat) (x : TI), tab[t]? = some x → ∀ y ∈ x.meth, (i + t, y) ∈ l
  | i, [], _, t, x, hx => by simp at hx
  | i, z :: r, h, t, x, hx => by
    simp only [methIn, Bool.and_eq_true] at h
    cases t with
    | zero =>
      simp at hx
      subst hx
      intro y hy
      simpa using List.all_eq_true.1 h.1 y hy
    | succ t =>
      have := methIn_ok (i + 1) r h.2 t x (by simpa using hx)
      rw [Nat.add_assoc, Nat.add_comm 1 t] at this
      exact this
theorem meths_of {P : Program} {tab : List TI} {l : List (TypeId × String × FuncId)} (h : methIn l 0 tab = true) (hl : ∀ z ∈ l, ∀ (v : Value) (w : World), (Go.method (P.types.size + Made.depth) z.1 v z.2.1).run P w = .ok (z.2.2, v) w) : MethsOk P tab := by
  intro t x hx y hy v w
  have := methIn_ok 0 tab h t x hx y hy
  rw [Nat.zero_add] at this
  exact hl _ this v w

/-- A context in which the new slices of some slots may be written. -/
def Ctx.arrs (T : Ctx) (wr : Nat → Bool) : Ctx := { T with wr := wr }
theorem arrs_ok {P : Program} {T : Ctx} (h : TOk P T) (wr : Nat → Bool) : TOk P (T.arrs wr) :=
  ⟨h.td, h.info, h.mixed, h.eqt, h.cmp, h.has, h.mf, h.small, h.meth⟩
theorem arrs_pure {P : Program} {T : Ctx} {wr : Nat → Bool} {f : FuncId} {F : List D → Option (List D)} : Pure P (T.arrs wr) f F ↔ Pure P T f F := Iff.rfl
theorem arrs_turns {P : Program} {T : Ctx} {wr : Nat → Bool} {f : FuncId} {F : List AV → Obs → Option (List AV × Obs)} : Turns P (T.arrs wr) f F ↔ Turns P T f F := Iff.rfl
/-- A context with functions that turn what they are handed. -/
def Ctx.on (T : Ctx) (gf : FuncId → Bool) (mf : FuncId → List AV → Obs → Option (List AV × Obs)) : Ctx := { T with gf := gf, mf := mf }
theorem on_ok {P : Program} {T : Ctx} (h : TOk P T) {gf : FuncId → Bool} {mf : FuncId → List AV → Obs → Option (List AV × Obs)} (hm : ∀ f, Turns P T f (mf f)) : TOk P (T.on gf mf) :=
  ⟨h.td, h.info, h.mixed, h.eqt, h.cmp, h.has, hm, h.small, h.meth⟩
/-- A context that knows some types to be of few bytes. -/
def Ctx.few (T : Ctx) (small : TypeId → Bool) : Ctx := { T with small := small }
theorem few_ok {P : Program} {T : Ctx} (h : TOk P T) {small : TypeId → Bool} (hs : ∀ e, small e = true → ∃ i, P.info? e = some i ∧ i.bytes ≤ 64) : TOk P (T.few small) :=
  ⟨h.td, h.info, h.mixed, h.eqt, h.cmp, h.has, h.mf, hs, h.meth⟩
end Go.Ab

namespace Go.Ab

/-- An oracle with one function more. -/
def ext (E : Abs) (f : FuncId) (F : List D → Option (List D)) : Abs := fun g => if g = f then F else E g
theorem ext_ok {P : Program} {T : Ctx} {E : Abs} {f : FuncId} {F : List D → Option (List D)} (hE : ∀ g, Pure P T g (E g)) (hF : Pure P T f F) : ∀ g, Pure P T g (ext E f F g) := by
  intro g
  unfold ext
  split
  · rename_i e
    exact e ▸ hF
  · exact hE g
theorem none_ok {P : Program} {T : Ctx} : ∀ g, Pure P T g ((fun _ _ => none : Abs) g) := by
  intro g ds rs h
  simp at h
theorem Pure.of_le {P : Program} {T : Ctx} {f : FuncId} {F G : List D → Option (List D)} (hG : Pure P T f G) (h : ∀ ds rs, F ds = some rs → G ds = some rs) : Pure P T f F :=
  fun ds rs hF => hG ds rs (h ds rs hF)
theorem pure_of {P : Program} {T : Ctx} (hT : TOk P T) {E : Abs} (hE : ∀ f, Pure P T f (E f)) {f : FuncId} {fn : Func} (hf : P.funcs[f]? = some fn) (hname : (fn.name == "runtime.NumGoroutine") = false) {kp fr : Nat → List Nat} (hdr : (match fn.body with | some c => drawsOk T.gf fr c | none => true) = true)
    {F : List D → Option (List D)} (h : ∀ ds rs, F ds = some rs → ∃ n, fnK T E kp fr n fn ds = some rs) : Pure P T f F := by
  intro ds rs hF
  obtain ⟨n, hn⟩ := h ds rs hF
  exact fn_sound hT hE kp fr n hf hname (fun c hc => by rw [hc] at hdr; exact hdr) ds rs hn


theorem keep_bind {R : Type} (s : St) (ks : List Nat) (κ : St → Option R) : s.keep ks κ = (s.keep ks some).bind κ := by
  unfold St.keep
  simp only
  split <;> rfl
/-- What the simplifier shall not enter. -/
inductive Tag {α : Type} (x : α) : Type | mk
def hold {α : Type} (x : α) (m : Tag x) : α := x
section
variable {R σ : Type} (T : Ctx) (E : Abs)
/-- A loop, closed to the simplifier. -/
def loopK (kp fr : Nat → List Nat) (n : Nat) (c : Code) (s : St) (κ : Ex → St → Option R) : Option R :=
  iter (fun s κ => s.keep (kp (firstRegion c)) fun s => codeK T E kp fr n c s κ) n s κ

variable (kp fr : Nat → List Nat) (n : Nat)
/-- First the state, then what comes of it. -/
def stK (s : St) (f : St → Option R) : Option R := f s
/-- A test, closed to the simplifier as long as it is open. -/
def condK (c : Bool) (a b : Option R) : Option R := match c with | true => a | false => b
theorem ck_skip (s : St) (κ : Ex → St → Option R) : codeK T E kp fr n .skip s κ = κ .normal s := by simp only [codeK, codeG]
theorem ck_label (l : Nat) (s : St) (κ : Ex → St → Option R) : codeK T E kp fr n (.label l) s κ = κ .normal s := by simp only [codeK, codeG]
theorem ck_region (id : Nat) (l : List Oper) (s : St) (κ : Ex → St → Option R) : codeK T E kp fr n (.region id l.toArray false) s κ = opsK T E l l s (hold (κ .normal) .mk) := by simp only [codeK, codeG, hold]
theorem ck_draw (id : Nat) (l : List Oper) (s : St) (κ : Ex → St → Option R) : codeK T E kp fr n (.region id l.toArray true) s κ = if (!(fr id).contains 999999 && ((fr id).all (fun d => decide (500000 ≤ d) || clear (fr id) s (some d)) && kGate (fr id) s)) = true then dopsK T E (fr id) l l s (hold (κ .normal) .mk) else none := by simp only [codeK, codeG, drawK, hold]
theorem ck_seq (a b : Code) (s : St) (κ : Ex → St → Option R) : codeK T E kp fr n (.seq a b) s κ = codeK T E kp fr n a s (hold (fun e s => match e with | .normal => codeK T E kp fr n b s κ | .exit i => κ (.exit i) s | .goto l => κ (.goto l) s | .ret => κ .ret s) .mk) := by simp only [codeK, codeG, hold] <;> rfl
theorem ck_cond (c : Operand) (a b : Code) (s : St) (κ : Ex → St → Option R) : codeK T E kp fr n (.cond c a b) s κ = match s.get T c with
    | .d (.v (.bool t)) => condK t (hold (codeK T E kp fr n a s κ) .mk) (hold (codeK T E kp fr n b s κ) .mk)
    | _ => none := by
  simp only [codeK, codeG]
  split
  · rename_i t h
    rw [h]
    cases t <;> rfl
  · rename_i h
    split
    · rename_i t h'
      exact absurd h' (h t)
    · rfl
theorem ck_block (id : Nat) (c : Code) (s : St) (κ : Ex → St → Option R) : codeK T E kp fr n (.block id c) s κ = codeK T E kp fr n c s (hold (fun e s => match e with | .normal => κ .normal s | .exit i => if i = id then κ .normal s else κ (.exit i) s | .goto l => κ (.goto l) s | .ret => κ .ret s) .mk) := by simp only [codeK, codeG, hold] <;> rfl
theorem ck_loop (c : Code) (s : St) (κ : Ex → St → Option R) : codeK T E kp fr n (.loop c) s κ = loopK T E kp fr n (hold c .mk) s (hold κ .mk) := by simp only [codeK, codeG, loopK, hold] <;> rfl
/-- A jump back within a scope, closed to the simplifier. -/
def gotoK (c : Code) (l : Nat) (s : St) (κ : Ex → St → Option R) : Option R :=
  match findLabel c l with | some rest => s.keep (kp (1000000 + l)) fun s => runG T E kp fr n n c rest s κ | none => none
theorem ck_scope (c : Code) (s : St) (κ : Ex → St → Option R) : codeK T E kp fr n (.scope c) s κ = codeK T E kp fr n c s (hold (fun e s => match e with | .normal => κ .normal s | .exit i => κ (.exit i) s | .goto l => gotoK T E kp fr n (hold c .mk) l s κ | .ret => κ .ret s) .mk) := by
  simp only [codeK, codeG, hold]
  congr 1
  funext e s
  cases e <;> rfl
theorem ck_goto (i : Nat) (s : St) (κ : Ex → St → Option R) : codeK T E kp fr n (.goto i) s κ = κ (.goto i) s := by simp only [codeK, codeG]
theorem ck_exit (i : Nat) (s : St) (κ : Ex → St → Option R) : codeK T E kp fr n (.exit i) s κ = κ (.exit i) s := by simp only [codeK, codeG]
theorem ck_ret (s : St) (κ : Ex → St → Option R) : codeK T E kp fr n .ret s κ = κ .ret s := by simp only [codeK, codeG]

variable {T E kp fr n}
/-- A loop by rounds: what comes of it from each state on. -/
theorem loop_rule {c : Code} {κ : Ex → St → Option R} (S : σ → St) (m : σ → Nat) (ok : σ → Prop) (Post : σ → Option R) (x : σ) (ks : List Nat) {s : St} (hks : kp (firstRegion c) = ks)
    (hx : ok x) (hm : m x < n) (hs : s.keep ks some = some (S x))
    (h : ∀ x κ', ok x → (∀ y s, ok y → m y < m x → s.keep ks some = some (S y) → κ' .normal s = Post y) → (∀ i s, κ' (.exit i) s = κ (.exit i) s) → (∀ s, κ' .ret s = κ .ret s) → codeK T E kp fr n c (S x) κ' = Post x) {m1 : Tag c} {m2 : Tag κ} : loopK T E kp fr n (hold c m1) s (hold κ m2) = Post x := by
  have key : ∀ (k : Nat) (x : σ) (s : St), ok x → m x < k → s.keep ks some = some (S x) → iter (fun s κ => s.keep ks fun s => codeK T E kp fr n c s κ) k s κ = Post x := by
    intro k
    induction k with
    | zero => intro x s _ hm; exact absurd hm (Nat.not_lt_zero _)
    | succ k ih =>
      intro x s hx hm hs
      simp only [iter]
      rw [keep_bind, hs]
      simp only [Option.bind_some]
      refine h x _ hx (fun y s' hy hlt hs' => ?_) (fun i s => rfl) fun s => rfl
      exact ih y s' hy (by omega) hs'
  unfold loopK hold
  rw [hks]
  exact key n x s hx hm hs
end
/-- A frame's slots: these, and nothing in the others. -/
def slots (n : Nat) (xs : List (Nat × AV)) : List AV := xs.foldl (fun t p => t.set p.1 p.2) (List.replicate n .undef)
end Go.Ab
