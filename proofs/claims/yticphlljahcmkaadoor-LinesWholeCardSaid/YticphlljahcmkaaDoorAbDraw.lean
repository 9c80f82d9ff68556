/- One text of a proof that a law of this seat says true for every input: an evaluator of code over data, and that it tells the truth. It holds of the given program under the conditions that the row prints. -/
import Derived.Test.YticphlljahcmkaaDoorAbOp9
set_option linter.unusedVariables false
namespace Go.Ab

/-! # What an operation gives hangs on what it looks at -/

/-! ### what an operation looks at -/
mutual
theorem data_free {o o' : Obs} : ∀ x : AV, x.ids = [] → x.data o' = x.data o
  | .d x, _ => by simp only [AV.data]
  | .own k, h => by simp [AV.ids] at h
  | .tight n xs, _ => by simp only [AV.data]
  | .ref id off, h => by simp [AV.ids] at h
  | .agg cs, h => by simp only [AV.ids] at h; simp only [AV.data, datas_free (o := o) (o' := o') cs h]
  | .tup cs, _ => by simp only [AV.data]
  | .clo f as bs, h => by
    simp only [AV.ids, List.append_eq_nil_iff] at h
    simp only [AV.data, datas_free (o := o) (o' := o') as h.1, datas_free (o := o) (o' := o') bs h.2]
  | .undef, _ => by simp only [AV.data]
theorem datas_free {o o' : Obs} : ∀ xs : List AV, idsL xs = [] → datas o' xs = datas o xs
  | [], _ => by simp only [datas]
  | x :: xs, h => by
    simp only [idsL, List.append_eq_nil_iff] at h
    simp only [datas, data_free (o := o) (o' := o') x h.1, datas_free (o := o) (o' := o') xs h.2]
end
mutual
theorem sub_free {fo : Id → AV} {fr : Id → Nat → AV} : ∀ x : AV, x.ids = [] → x.sub fo fr = x
  | .d x, _ => rfl
  | .own k, h => by simp [AV.ids] at h
  | .tight n xs, _ => rfl
  | .ref id off, h => by simp [AV.ids] at h
  | .agg cs, h => by simp only [AV.ids] at h; simp only [AV.sub, subL_free cs h]
  | .tup cs, h => by simp only [AV.ids] at h; simp only [AV.sub, subL_free cs h]
  | .clo f as bs, h => by
    simp only [AV.ids, List.append_eq_nil_iff] at h
    simp only [AV.sub, subL_free as h.1, subL_free bs h.2]
  | .undef, _ => rfl
theorem subL_free {fo : Id → AV} {fr : Id → Nat → AV} : ∀ xs : List AV, idsL xs = [] → subL fo fr xs = xs
  | [], _ => rfl
  | x :: xs, h => by
    simp only [idsL, List.append_eq_nil_iff] at h
    simp only [subL, sub_free x h.1, subL_free xs h.2]
end
theorem subL_setf {fo : Id → AV} {fr : Id → Nat → AV} {v : AV} (hv : v.ids = []) : ∀ (xs : List AV) (d : Nat), subL fo fr (xs.set d v) = (subL fo fr xs).set d v
  | [], d => rfl
  | x :: xs, 0 => by simp only [List.set_cons_zero, subL, sub_free v hv]
  | x :: xs, d + 1 => by simp only [List.set_cons_succ, subL, subL_setf hv xs d]
theorem subL_get {fo : Id → AV} {fr : Id → Nat → AV} : ∀ (xs : List AV) (d : Nat) (x : AV), xs[d]? = some x → x.ids = [] → (subL fo fr xs)[d]? = some x
  | [], d, x, h, _ => by simp at h
  | y :: xs, 0, x, h, hx => by
    simp at h
    subst h
    simp only [subL, List.getElem?_cons_zero, sub_free y hx]
  | y :: xs, d + 1, x, h, hx => by
    simp only [subL, List.getElem?_cons_succ] at h ⊢
    exact subL_get xs d x h hx

/-- Both states say the same to an operation. -/
structure Alike (T : Ctx) (op : Oper) (s s' : St) : Prop where
  get : ∀ x ∈ op.op.operands.toList, s'.get T x = s.get T x
  data : ∀ x ∈ op.op.operands.toList, (s'.get T x).data s'.o = (s.get T x).data s.o
  o : s'.o = s.o ∨ ∀ x ∈ op.op.operands.toList, (s.get T x).ids = []

theorem nilfix_ids {T : Ctx} {t : TypeId} {x : AV} (h : x.ids = []) : (nilfix T t x).ids = [] := by
  unfold nilfix
  split
  · split <;> simp [AV.ids]
  · exact h
theorem datas_same {o o' : Obs} : ∀ xs : List AV, (∀ x ∈ xs, x.data o' = x.data o) → datas o' xs = datas o xs
  | [], _ => rfl
  | x :: xs, h => by
    simp only [datas, h x (by simp), datas_same xs fun y hy => h y (by simp [hy])]
theorem nilfix_data {T : Ctx} {t : TypeId} {x : AV} {o o' : Obs} (h : x.data o' = x.data o) : (nilfix T t x).data o' = (nilfix T t x).data o := by
  unfold nilfix
  split
  · split <;> simp [AV.data]
  · exact h

section
variable {T : Ctx} {E : Abs}

theorem buildK_same {s s' : St} {fs : List (TypeId × Nat)} : ∀ (ps : List (Nat × Operand)) (cs : List AV), (∀ p ∈ ps, s'.get T p.2 = s.get T p.2) → opK.buildK T s' fs ps cs = opK.buildK T s fs ps cs
  | [], cs, _ => by simp only [opK.buildK]
  | (i, x) :: r, cs, h => by
    simp only [opK.buildK, h (i, x) (by simp)]
    split
    · split
      · split
        · exact buildK_same r _ fun p hp => h p (by simp [hp])
        · rfl
      · rfl
    · rfl

/-- What the operation gives hangs on what it looks at, and it only puts. -/
def Val (T : Ctx) (E : Abs) (op : Oper) : Prop :=
  ∀ {R : Type} {s : St} {κ : St → Option R} {r : R}, opK T E op s κ = some r → ∃ v, κ (s.put op.dst v) = some r ∧
    ∀ {R' : Type} (s' : St) (κ' : St → Option R'), Alike T op s s' → opK T E op s' κ' = κ' (s'.put op.dst v)

theorem val_move {op : Oper} {x : Operand} (ho : op.op = .move x) : Val T E op := by
  intro R s κ r hk
  simp only [opK, ho] at hk
  exact ⟨_, hk, fun s' κ' h => by simp only [opK, ho, h.get x (by simp [ho, Op.operands])]⟩
theorem val_pick {op : Oper} {c x y : Operand} (ho : op.op = .pick c x y) : Val T E op := by
  intro R s κ r hk
  simp only [opK, ho] at hk
  split at hk
  · rename_i t hc
    cases t with
    | true => exact ⟨_, hk, fun s' κ' h => by simp only [opK, ho, h.get c (by simp [ho, Op.operands]), h.get x (by simp [ho, Op.operands]), hc]⟩
    | false => exact ⟨_, hk, fun s' κ' h => by simp only [opK, ho, h.get c (by simp [ho, Op.operands]), h.get y (by simp [ho, Op.operands]), hc]⟩
  · simp at hk
theorem val_unOp {op : Oper} {u : UnOp} {t : TypeId} {x : Operand} (ho : op.op = .unOp u t x) : Val T E op := by
  intro R s κ r hk
  simp only [opK, ho] at hk
  split at hk
  · rename_i b hc
    split at hk
    · exact ⟨_, hk, fun s' κ' h => by simp only [opK, ho, h.get x (by simp [ho, Op.operands]), hc]⟩
    · simp at hk
  · rename_i k n hc
    split at hk
    · exact ⟨_, hk, fun s' κ' h => by simp only [opK, ho, h.get x (by simp [ho, Op.operands]), hc]⟩
    · simp at hk
  · simp at hk
theorem val_binOp {op : Oper} {b : BinOp} {t t' : TypeId} {x y : Operand} (ho : op.op = .binOp b t x y t') : Val T E op := by
  intro R s κ r hk
  simp only [opK, ho] at hk
  have hx : x ∈ op.op.operands.toList := by simp [ho, Op.operands]
  have hy : y ∈ op.op.operands.toList := by simp [ho, Op.operands]
  split at hk
  · rename_i dx dy h1 h2
    split at hk
    · rename_i v hv
      exact ⟨_, hk, fun s' κ' h => by simp only [opK, ho, h.data x hx, h.data y hy, h1, h2, hv]⟩
    · simp at hk
  · rename_i h0
    split at hk
    · rename_i i1 i2 h1 h2
      split at hk
      · rename_i e he
        refine ⟨_, hk, fun s' κ' h => ?_⟩
        simp only [opK, ho, h.get x hx, h.get y hy, h1, h2, AV.data, he]
      · simp at hk
    · rename_i i1 i2 h1 h2
      split at hk
      · rename_i e he
        refine ⟨_, hk, fun s' κ' h => ?_⟩
        simp only [opK, ho, h.get x hx, h.get y hy, h1, h2, AV.data, he]
      · simp at hk
    · simp at hk
theorem val_convert {op : Oper} {t t' : TypeId} {x : Operand} (ho : op.op = .convert t t' x) : Val T E op := by
  intro R s κ r hk
  simp only [opK, ho] at hk
  have hx : x ∈ op.op.operands.toList := by simp [ho, Op.operands]
  split at hk
  · rename_i h1 h2 h3
    exact ⟨_, hk, fun s' κ' h => by simp only [opK, ho, h.data x hx, h1, h2, h3]⟩
  · rename_i h1 h2 h3
    exact ⟨_, hk, fun s' κ' h => by simp only [opK, ho, h.data x hx, h1, h2, h3]⟩
  · rename_i h1 h2 h3
    split at hk
    · rename_i h4
      split at hk
      · rename_i h5
        exact ⟨_, hk, fun s' κ' h => by simp only [opK, ho, h.data x hx, h1, h2, h3, h4, h5]⟩
      · simp at hk
    · simp at hk
  · simp at hk
theorem val_load {op : Oper} {t : TypeId} {x : Operand} (ho : op.op = .load t x) : Val T E op := by
  intro R s κ r hk
  simp only [opK, ho] at hk
  have hx : x ∈ op.op.operands.toList := by simp [ho, Op.operands]
  split at hk
  · rename_i id off h1
    split at hk
    · rename_i cs h2
      split at hk
      · rename_i h3
        refine ⟨_, hk, fun s' κ' h => ?_⟩
        rcases h.o with e | e
        · simp only [opK, ho, h.get x hx, h1, e, h2, h3, and_self, if_true]
        · have := e x hx
          simp [h1, AV.ids] at this
      · simp at hk
    · simp at hk
  · rename_i cs h1
    split at hk
    · rename_i h3
      exact ⟨_, hk, fun s' κ' h => by simp only [opK, ho, h.get x hx, h1, h3, and_self, if_true]⟩
    · simp at hk
  · simp at hk
theorem val_nilCheck {op : Oper} {x : Operand} (ho : op.op = .nilCheck x) : Val T E op := by
  intro R s κ r hk
  simp only [opK, ho] at hk
  have hx : x ∈ op.op.operands.toList := by simp [ho, Op.operands]
  split at hk
  · rename_i h1
    exact ⟨_, hk, fun s' κ' h => by simp only [opK, ho, h.get x hx, h1]⟩
  · rename_i h1
    exact ⟨_, hk, fun s' κ' h => by simp only [opK, ho, h.get x hx, h1]⟩
  · simp at hk
theorem val_fieldAddr {op : Oper} {t : TypeId} {x : Operand} {i : Nat} (ho : op.op = .fieldAddr t x i) : Val T E op := by
  intro R s κ r hk
  simp only [opK, ho] at hk
  have hx : x ∈ op.op.operands.toList := by simp [ho, Op.operands]
  split at hk
  · rename_i fs h1
    split at hk
    · rename_i h2
      split at hk
      · rename_i h3
        exact ⟨_, hk, fun s' κ' h => by simp only [opK, ho, h.get x hx, h1, h2, h3]⟩
      · rename_i h3
        split at hk
        · rename_i h4
          exact ⟨_, hk, fun s' κ' h => by simp only [opK, ho, h.get x hx, h1, h2, h3, h4, if_true]⟩
        · simp at hk
      · simp at hk
    · simp at hk
  · simp at hk
theorem val_field {op : Oper} {t : TypeId} {x : Operand} {i : Nat} (ho : op.op = .field t x i) : Val T E op := by
  intro R s κ r hk
  simp only [opK, ho] at hk
  have hx : x ∈ op.op.operands.toList := by simp [ho, Op.operands]
  split at hk
  · rename_i fs h1
    split at hk
    · rename_i h2
      split at hk
      · rename_i h3
        split at hk
        · rename_i h4
          exact ⟨_, hk, fun s' κ' h => by simp only [opK, ho, h.data x hx, h1, h2, h3, h4, and_self, if_true]⟩
        · simp at hk
      · simp at hk
    · simp at hk
  · simp at hk
theorem val_indexAddr {op : Oper} {t : TypeId} {x i : Operand} (ho : op.op = .indexAddr t x i) : Val T E op := by
  intro R s κ r hk
  simp only [opK, ho, atK] at hk
  have hx : x ∈ op.op.operands.toList := by simp [ho, Op.operands]
  have hi : i ∈ op.op.operands.toList := by simp [ho, Op.operands]
  split at hk
  · rename_i h1 h2 h3
    split at hk
    · rename_i h4
      split at hk
      · rename_i h5
        split at hk
        · rename_i h6
          exact ⟨_, hk, fun s' κ' h => by simp only [opK, ho, atK, h.data x hx, h.get i hi, h1, h2, h3, if_pos h4, if_pos h5, h6]⟩
        · simp at hk
      · simp at hk
    · simp at hk
  · rename_i h1 h2 h3
    split at hk
    · rename_i h4
      exact ⟨_, hk, fun s' κ' h => by simp only [opK, ho, h.data x hx, h.get i hi, h1, h2, h3, if_pos h4]⟩
    · simp at hk
  · simp at hk
theorem val_index {op : Oper} {t : TypeId} {x i : Operand} (ho : op.op = .index t x i) : Val T E op := by
  intro R s κ r hk
  simp only [opK, ho, atK] at hk
  have hx : x ∈ op.op.operands.toList := by simp [ho, Op.operands]
  have hi : i ∈ op.op.operands.toList := by simp [ho, Op.operands]
  split at hk
  · rename_i h1 h2 h3
    split at hk
    · rename_i h5
      split at hk
      · rename_i h6
        exact ⟨_, hk, fun s' κ' h => by simp only [opK, ho, atK, h.get x hx, h.get i hi, h1, h2, h3, if_pos h5, h6]⟩
      · simp at hk
    · simp at hk
  · simp at hk
theorem boundK_same {R R' : Type} {s s' : St} {x : Option Operand} {n : Int} {κ : Int → Option R} {r : R} (h : boundK T s x n κ = some r) (hs : ∀ y, x = some y → s'.get T y = s.get T y) :
    ∃ i, κ i = some r ∧ ∀ κ' : Int → Option R', boundK T s' x n κ' = κ' i := by
  unfold boundK at h
  split at h
  · exact ⟨_, h, fun κ' => rfl⟩
  · rename_i y
    split at h
    · rename_i h1
      exact ⟨_, h, fun κ' => by simp only [boundK, hs y rfl, h1]⟩
    · simp at h
theorem boundK_one {R : Type} {s : St} {x : Option Operand} {n : Int} {κ : Int → Option R} {r : R} (h : boundK T s x n κ = some r) :
    ∃ i, κ i = some r ∧ ∀ {R' : Type} (s' : St) (κ' : Int → Option R'), (∀ y, x = some y → s'.get T y = s.get T y) → boundK T s' x n κ' = κ' i := by
  unfold boundK at h
  split at h
  · exact ⟨_, h, fun s' κ' _ => rfl⟩
  · rename_i y
    split at h
    · rename_i h1
      exact ⟨_, h, fun s' κ' hs => by simp only [boundK, hs y rfl, h1]⟩
    · simp at h
theorem val_slice {op : Oper} {t : TypeId} {x : Operand} {lo hi mx : Option Operand} (ho : op.op = .slice t x lo hi mx) : Val T E op := by
  intro R s κ r hk
  simp only [opK, ho, cutK] at hk
  have hx : x ∈ op.op.operands.toList := by simp [ho, Op.operands]
  have hlo : ∀ y, lo = some y → y ∈ op.op.operands.toList := by rintro y rfl; simp [ho, Op.operands]
  have hhi : ∀ y, hi = some y → y ∈ op.op.operands.toList := by rintro y rfl; simp [ho, Op.operands]
  split at hk
  · rename_i h1 h2
    obtain ⟨i, hk, hi'⟩ := boundK_one hk
    obtain ⟨j, hk, hj'⟩ := boundK_one hk
    split at hk
    · rename_i h4
      exact ⟨_, hk, fun s' κ' h => by simp only [opK, ho, cutK, h.data x hx, h1, h2, hi' s' _ fun y e => h.get y (hlo y e), hj' s' _ fun y e => h.get y (hhi y e), if_pos h4]⟩
    · simp at hk
  · rename_i h1 h2
    split at hk
    · rename_i hn
      obtain ⟨i, hk, hi'⟩ := boundK_one hk
      obtain ⟨j, hk, hj'⟩ := boundK_one hk
      split at hk
      · rename_i h4
        exact ⟨_, hk, fun s' κ' h => by simp only [opK, ho, cutK, h.data x hx, h1, h2, if_pos hn, hi' s' _ fun y e => h.get y (hlo y e), hj' s' _ fun y e => h.get y (hhi y e), if_pos h4]⟩
      · simp at hk
    · simp at hk
  · simp at hk
theorem val_build {op : Oper} {t : TypeId} {ps : Array (Nat × Operand)} (ho : op.op = .build t ps) : Val T E op := by
  intro R s κ r hk
  simp only [opK, ho] at hk
  split at hk
  · rename_i fs h1
    split at hk
    · rename_i cs h2
      refine ⟨_, hk, fun s' κ' h => ?_⟩
      simp only [opK, ho, h1]
      rw [buildK_same (s := s) ps.toList _ fun p hp => h.get p.2 (by simpa [ho, Op.operands] using ⟨_, by simpa using hp⟩), h2]
    · simp at hk
  · simp at hk
theorem val_typeAssert {op : Oper} {x : Operand} {t t' : TypeId} {c : Bool} (ho : op.op = .typeAssert x t' t c) : Val T E op := by
  intro R s κ r hk
  have hx : x ∈ op.op.operands.toList := by simp [ho, Op.operands]
  have key : ∀ {R' : Type} (s' : St) (κ' : St → Option R'), Alike T op s s' → opK T E op s' κ' = (match s.get T x, T.td t with
    | _, .iface _ => none
    | _, .other => none
    | .d (.ifc t' x), _ => if c then
        (if t' = t then κ' (s'.put op.dst (.tup [.d x, .d (.v (.bool true))])) else κ' (s'.put op.dst (.tup [.d (valD (T.td t).agg (T.zero t)), .d (.v (.bool false))])))
        else (if t' = t then κ' (s'.put op.dst (.d x)) else none)
    | _, _ => none) := fun s' κ' h => by
      simp only [opK, ho, h.get x hx]
      rfl
  have self : Alike T op s s := ⟨fun _ _ => rfl, fun _ _ => rfl, .inl rfl⟩
  rw [key s κ self] at hk
  split at hk
  · simp at hk
  · simp at hk
  · rename_i h0 t1 d1 h2 h3 h1
    split at hk
    · split at hk
      · exact ⟨_, hk, fun s' κ' h => by rw [key s' κ' h]; split <;> simp_all⟩
      · exact ⟨_, hk, fun s' κ' h => by rw [key s' κ' h]; split <;> simp_all⟩
    · split at hk
      · exact ⟨_, hk, fun s' κ' h => by rw [key s' κ' h]; split <;> simp_all⟩
      · simp at hk
  · simp at hk
theorem val_extract {op : Oper} {x : Operand} {i : Nat} (ho : op.op = .extract x i) : Val T E op := by
  intro R s κ r hk
  simp only [opK, ho] at hk
  have hx : x ∈ op.op.operands.toList := by simp [ho, Op.operands]
  split at hk
  · rename_i h1
    split at hk
    · rename_i h2
      exact ⟨_, hk, fun s' κ' h => by simp only [opK, ho, h.get x hx, h1, h2]⟩
    · simp at hk
  · simp at hk
theorem val_makeFunc {op : Oper} {f : Fn} {as bs : Array Operand} (ho : op.op = .makeFunc f as bs) : Val T E op := by
  intro R s κ r hk
  simp only [opK, ho] at hk
  refine ⟨_, hk, fun s' κ' h => ?_⟩
  have h1 : as.toList.map (s'.get T) = as.toList.map (s.get T) := List.map_congr_left fun x hx => h.get x (by simpa [ho, Op.operands] using .inl (by simpa using hx))
  have h2 : bs.toList.map (s'.get T) = bs.toList.map (s.get T) := List.map_congr_left fun x hx => h.get x (by simpa [ho, Op.operands] using .inr (by simpa using hx))
  simp only [opK, ho, h1, h2]
theorem zip_same {s s' : St} : ∀ (xs : List Operand) (ts : List TypeId), (∀ x ∈ xs, s'.get T x = s.get T x) → (xs.zip ts).map (fun p => nilfix T p.2 (s'.get T p.1)) = (xs.zip ts).map (fun p => nilfix T p.2 (s.get T p.1))
  | [], ts, _ => by simp
  | x :: xs, [], _ => by simp
  | x :: xs, t :: ts, h => by simp only [List.zip_cons_cons, List.map_cons, h x (by simp), zip_same xs ts fun y hy => h y (by simp [hy])]
theorem zip_data {s : St} {o o' : Obs} : ∀ (xs : List Operand) (ts : List TypeId), (∀ x ∈ xs, (s.get T x).data o' = (s.get T x).data o) → datas o' ((xs.zip ts).map (fun p => nilfix T p.2 (s.get T p.1))) = datas o ((xs.zip ts).map (fun p => nilfix T p.2 (s.get T p.1)))
  | [], ts, _ => by simp [datas]
  | x :: xs, [], _ => by simp [datas]
  | x :: xs, t :: ts, h => by simp only [List.zip_cons_cons, List.map_cons, datas, nilfix_data (h x (by simp)), zip_data xs ts fun y hy => h y (by simp [hy])]
theorem val_call {op : Oper} {c : Call} (ho : op.op = .call c) (hc : ∀ b, c.callee = .builtin b → b ≠ .append) : Val T E op := by
  intro R s κ r hk
  simp only [opK, ho] at hk
  split at hk
  · rename_i b hb
    split at hk
    · rename_i x t hx ht
      have hx' : x ∈ op.op.operands.toList := by simp [ho, Op.operands, Call.operands, hb, hx]
      split at hk
      · rename_i h1 h2
        exact ⟨_, hk, fun s' κ' h => by simp only [opK, ho, hb, hx, ht, h.data x hx', h1, h2]⟩
      · rename_i h1 h2
        exact ⟨_, hk, fun s' κ' h => by simp only [opK, ho, hb, hx, ht, h.data x hx', h1, h2]⟩
      · simp at hk
    · exact absurd rfl (hc _ hb)
    · simp at hk
  · rename_i f hf
    have hf' : f ∈ op.op.operands.toList := by simp [ho, Op.operands, Call.operands, hf]
    have ha' : ∀ x ∈ c.args.toList, x ∈ op.op.operands.toList := fun x hx => by simp [ho, Op.operands, Call.operands, hf]; exact .inr (by simpa using hx)
    split at hk
    · rename_i h1 h2
      split at hk
      · rename_i h3
        split at hk
        · rename_i h4
          refine ⟨_, hk, fun s' κ' h => ?_⟩
          have e1 := zip_same (T := T) c.args.toList c.argTypes.toList fun x hx => h.get x (ha' x hx)
          have e2 := zip_data (T := T) (s := s) (o := s.o) (o' := s'.o) c.args.toList c.argTypes.toList fun x hx => by rw [← h.data x (ha' x hx), h.get x (ha' x hx)]
          simp only [opK, ho, hf, h.data f hf', e1, e2, h1, h2, if_pos h3, h4]
        · simp at hk
      · simp at hk
    · simp at hk
  · simp at hk
theorem val_makeInterface {op : Oper} {t : TypeId} {x : Operand} (ho : op.op = .makeInterface t x) : ∀ {R : Type} {s : St} {κ : St → Option R} {r : R}, (s.get T x).ids = [] → opK T E op s κ = some r → ∃ v, κ (s.put op.dst v) = some r ∧
    ∀ {R' : Type} (s' : St) (κ' : St → Option R'), Alike T op s s' → opK T E op s' κ' = κ' (s'.put op.dst v) := by
  intro R s κ r hid hk
  simp only [opK, ho] at hk
  have hx : x ∈ op.op.operands.toList := by simp [ho, Op.operands]
  split at hk
  · simp at hk
  · simp at hk
  · rename_i h1 h2
    split at hk
    · rename_i d hd
      refine ⟨_, hk, fun s' κ' h => ?_⟩
      have e : (nilfix T t (s'.get T x)).data s'.o = some d := by
        rw [h.get x hx, nilfix_data (o := s.o) (by rw [← h.data x hx, h.get x hx]), hd]
      simp only [opK, ho, e]
    · split at hk
      · rename_i h3
        simp [h3, AV.ids] at hid
      · simp at hk
theorem val_buildSlice {op : Oper} {t : TypeId} {n : Nat} {ps : Array (Nat × Operand)} (ho : op.op = .buildSlice t (n + 1) ps) : Val T E op := by
  intro R s κ r hk
  simp only [opK, ho] at hk
  have hp : ∀ p ∈ ps.toList, p.2 ∈ op.op.operands.toList := fun p hp => by simpa [ho, Op.operands] using ⟨_, by simpa using hp⟩
  split at hk
  · rename_i e h1
    split at hk
    · rename_i xs h2
      split at hk
      · rename_i h3
        split at hk
        · rename_i h4
          refine ⟨_, hk, fun s' κ' h => ?_⟩
          have e1 : ps.toList.map (fun p => nilfix T e (s'.get T p.2)) = ps.toList.map (fun p => nilfix T e (s.get T p.2)) := List.map_congr_left fun p hq => by rw [h.get _ (hp p hq)]
          have e2 : datas s'.o (ps.toList.map (fun p => nilfix T e (s.get T p.2))) = datas s.o (ps.toList.map (fun p => nilfix T e (s.get T p.2))) := datas_same _ fun y hy => by
            obtain ⟨p, hq, rfl⟩ := List.mem_map.1 hy
            exact nilfix_data (by rw [← h.data _ (hp p hq), h.get _ (hp p hq)])
          simp only [opK, ho, h1, e1, e2, h2, if_pos h3, if_pos h4]
        · simp at hk
      · simp at hk
    · simp at hk
  · simp at hk

theorem cells_ids {x : AV} {cs : List AV} (hx : x.ids = []) (h : x.cells = some cs) : idsL cs = [] := by
  have hd : ∀ ds : List D, idsL (ds.map .d) = [] := by
    intro ds
    induction ds with
    | nil => rfl
    | cons d ds ih => simp only [List.map_cons, idsL, AV.ids, ih, List.append_nil]
  unfold AV.cells at h
  split at h
  · rename_i as
    split at h
    · simp only [Option.some.injEq] at h
      subst h
      simpa only [AV.ids] using hx
    · simp at h
  · split at h
    · simp only [Option.some.injEq] at h
      subst h
      exact hd _
    · simp at h
  · split at h
    · simp only [Option.some.injEq] at h
      subst h
      simp only [idsL, hx, List.append_nil]
    · simp at h
theorem val_box {op : Oper} {t : TypeId} {x : Operand} (ho : op.op = .box t x) (hi : op.type = iceMark) : Val T E op := by
  intro R s κ r hk
  have hx : x ∈ op.op.operands.toList := by simp [ho, Op.operands]
  simp only [opK, ho, if_pos hi] at hk
  split at hk
  · rename_i cs h1
    split at hk
    · rename_i ds h2
      split at hk
      · rename_i h3
        refine ⟨_, hk, fun s' κ' h => ?_⟩
        have e : datas s'.o cs = datas s.o cs := by
          rcases h.o with e | e
          · rw [e]
          · exact datas_free cs (cells_ids (nilfix_ids (e x hx)) h1)
        simp only [opK, ho, if_pos hi, h.get x hx, h1, e, h2, if_pos h3]
      · simp at hk
    · simp at hk
  · simp at hk

theorem val_op {op : Oper} {ops : Array Oper} {fr : List Nat} (hb : isB ops fr op = false) (hm : isMk op = false) (hna : ∀ x, op.op ≠ .assign x) : Val T E op := by
  intro R s κ r hk
  cases ho : op.op with
  | move x => exact val_move ho hk
  | pick c x y => exact val_pick ho hk
  | unOp u t x => exact val_unOp ho hk
  | binOp b t x y t' => exact val_binOp ho hk
  | convert t t' x => exact val_convert ho hk
  | load t x => exact val_load ho hk
  | nilCheck x => exact val_nilCheck ho hk
  | fieldAddr t x i => exact val_fieldAddr ho hk
  | field t x i => exact val_field ho hk
  | indexAddr t x i => exact val_indexAddr ho hk
  | index t x i => exact val_index ho hk
  | slice t x lo hi mx => exact val_slice ho hk
  | build t ps => exact val_build ho hk
  | typeAssert x t' t c => exact val_typeAssert ho hk
  | extract x i => exact val_extract ho hk
  | makeFunc f as bs => exact val_makeFunc ho hk
  | makeInterface t x => simp [isMk, ho] at hm
  | alloc t => simp [isB, ho] at hb
  | box t x =>
    simp [isB, ho] at hb
    exact val_box ho hb hk
  | store t a x => simp [isB, ho] at hb
  | assign x => exact absurd ho (hna x)
  | buildSlice t n ps =>
    cases n with
    | zero => simp [isB, ho] at hb
    | succ n => exact val_buildSlice ho hk
  | call c =>
    refine val_call ho (fun b e he => ?_) hk
    subst he
    simp [isB, ho, e] at hb
  | _ => simp [opK, ho] at hk

/-- It turns objects, but not what is free of them. -/
structure Turn (T : Ctx) (E : Abs) (op : Oper) : Prop where
  step : ∀ {R : Type} {s : St} {κ : St → Option R} {r : R}, opK T E op s κ = some r → ∃ s', κ s' = some r ∧ (∀ {R' : Type} (κ' : St → Option R'), opK T E op s κ' = κ' s') ∧
    ∀ d x, op.dst ≠ some d → s.t[d]? = some x → x.ids = [] → s'.t[d]? = some x
  frame : ∀ {R : Type} (s : St) (κ : St → Option R) (d : Tmp) (v : AV), op.dst ≠ some d → v.ids = [] → .tmp d ∉ op.op.operands.toList →
    opK T E op (s.put (some d) v) κ = opK T E op s fun s' => κ (s'.put (some d) v)

theorem get_put {s : St} {d : Tmp} {v : AV} {x : Operand} (h : x ≠ .tmp d) : (s.put (some d) v).get T x = s.get T x := by
  cases x with
  | tmp t =>
    have hne : d ≠ t := fun e => h (by rw [e])
    simp only [St.put, St.get, List.getD_eq_getElem?_getD, List.getElem?_set_ne hne]
  | const v => rfl
  | global g => rfl
  | func f => rfl
theorem put_put {s : St} {d e : Tmp} {v u : AV} (h : d ≠ e) : (s.put (some d) v).put (some e) u = (s.put (some e) u).put (some d) v := by
  simp only [St.put, List.set_comm _ _ h]
theorem put_put' {s : St} {d : Tmp} {e : Option Tmp} {v u : AV} (h : e ≠ some d) : (s.put (some d) v).put e u = (s.put e u).put (some d) v := by
  cases e with
  | none => rfl
  | some e => exact put_put fun he => h (by rw [he])
theorem newBox_put {s : St} {d e : Tmp} {v : AV} {cs : List AV} (h : d ≠ e) (hv : v.ids = []) : (s.put (some d) v).newBox e cs = (s.newBox e cs).put (some d) v := by
  simp only [St.put, St.newBox, subL_setf hv, List.set_comm _ _ h]
  rfl
theorem newTok_put {s : St} {d e : Tmp} {v : AV} {n : Nat} {xs : List D} (h : d ≠ e) (hv : v.ids = []) : (s.put (some d) v).newTok e n xs = (s.newTok e n xs).put (some d) v := by
  simp only [St.put, St.newTok, subL_setf hv, List.set_comm _ _ h]
  rfl
theorem grow_put {s : St} {d : Tmp} {e : Option Tmp} {v : AV} {id : Id} {n : Nat} {xs ys : List D} (h : e ≠ some d) (hv : v.ids = []) : (s.put (some d) v).grow e id n xs ys = (s.grow e id n xs ys).put (some d) v := by
  cases e with
  | none => simp only [St.put, St.grow, subL_setf hv]
  | some e => simp only [St.put, St.grow, subL_setf hv, List.set_comm _ _ (fun he : d = e => h (by rw [he]))]
theorem ice_put {s : St} {d : Tmp} {v : AV} {id : Id} {cs : List D} (hv : v.ids = []) : (s.put (some d) v).ice id cs = (s.ice id cs).put (some d) v := by
  simp only [St.put, St.ice, subL_setf hv]

end
end Go.Ab
