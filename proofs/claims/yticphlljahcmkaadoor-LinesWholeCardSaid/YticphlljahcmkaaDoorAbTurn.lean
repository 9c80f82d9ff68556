/- One text of a proof that a law of this seat says true for every input: an evaluator of code over data, and that it tells the truth. It holds of the given program under the conditions that the row prints. -/
import Derived.Test.YticphlljahcmkaaDoorAbDraw
set_option linter.unusedVariables false
namespace Go.Ab

section
variable {T : Ctx} {E : Abs}

theorem put_keeps {s : St} {d e : Nat} {v x : AV} (h : some e ≠ some d) (hx : s.t[d]? = some x) : (s.put (some e) v).t[d]? = some x := by
  have : e ≠ d := fun he => h (by rw [he])
  simp only [St.put, List.getElem?_set_ne this, hx]
theorem put_keeps' {s : St} {d : Nat} {e : Option Tmp} {v x : AV} (h : e ≠ some d) (hx : s.t[d]? = some x) : (s.put e v).t[d]? = some x := by
  cases e with
  | none => exact hx
  | some e => exact put_keeps h hx
theorem newBox_keeps {s : St} {d e : Nat} {cs : List AV} {x : AV} (h : some e ≠ some d) (hx : s.t[d]? = some x) (hf : x.ids = []) : (s.newBox e cs).t[d]? = some x := by
  have : e ≠ d := fun he => h (by rw [he])
  simp only [St.newBox, List.getElem?_set_ne this]
  exact subL_get _ _ _ hx hf
theorem newTok_keeps {s : St} {d e : Nat} {n : Nat} {xs : List D} {x : AV} (h : some e ≠ some d) (hx : s.t[d]? = some x) (hf : x.ids = []) : (s.newTok e n xs).t[d]? = some x := by
  have : e ≠ d := fun he => h (by rw [he])
  simp only [St.newTok, List.getElem?_set_ne this]
  exact subL_get _ _ _ hx hf

theorem turn_alloc {op : Oper} {t : TypeId} (ho : op.op = .alloc t) : Turn T E op := by
  constructor
  · intro R s κ r hk
    simp only [opK, ho] at hk
    split at hk
    · rename_i d hd
      split at hk
      · rename_i hz
        exact ⟨_, hk, fun κ' => by simp only [opK, ho, hd, if_pos hz], fun e x he hx hf => newBox_keeps (hd ▸ he) hx hf⟩
      · simp at hk
    · simp at hk
  · intro R s κ d v hd hv hn
    simp only [opK, ho]
    split
    · rename_i e he
      have : d ≠ e := fun h => hd (by rw [he, h])
      split
      · rw [newBox_put this hv]
      · rfl
    · rfl
theorem turn_box {op : Oper} {t : TypeId} {x : Operand} (ho : op.op = .box t x) (hi : op.type ≠ iceMark) : Turn T E op := by
  constructor
  · intro R s κ r hk
    simp only [opK, ho, if_neg hi] at hk
    split at hk
    · rename_i d cs hd hcs
      exact ⟨_, hk, fun κ' => by simp only [opK, ho, if_neg hi, hd, hcs], fun e x he hx hf => newBox_keeps (hd ▸ he) hx hf⟩
    · simp at hk
  · intro R s κ d v hd hv hn
    have hx : x ≠ .tmp d := fun h => hn (by simp [ho, Op.operands, h])
    simp only [opK, ho, if_neg hi, get_put hx]
    split
    · rename_i e cs he _
      have : d ≠ e := fun h => hd (by rw [he, h])
      rw [newBox_put this hv]
    · rfl
theorem turn_store {op : Oper} {t : TypeId} {a x : Operand} (ho : op.op = .store t a x) : Turn T E op := by
  constructor
  · intro R s κ r hk
    simp only [opK, ho] at hk
    split at hk
    · rename_i id off vs h1 h2
      split at hk
      · rename_i cs h3
        split at hk
        · rename_i h4
          refine ⟨_, hk, fun κ' => by simp only [opK, ho, h1, h2, h3, if_pos h4], fun e x he hx hf => ?_⟩
          exact put_keeps' he hx
        · simp at hk
      · simp at hk
    · simp at hk
  · intro R s κ d v hd hv hn
    have ha : a ≠ .tmp d := fun h => hn (by simp [ho, Op.operands, h])
    have hx : x ≠ .tmp d := fun h => hn (by simp [ho, Op.operands, h])
    simp only [opK, ho, get_put hx, get_put ha]
    split
    · have e0 : (s.put (some d) v).o = s.o := rfl
      simp only [e0]
      split
      · split
        · rw [← put_put' hd]
          rfl
        · rfl
      · rfl
    · rfl
theorem turn_buildSlice {op : Oper} {t : TypeId} {ps : Array (Nat × Operand)} (ho : op.op = .buildSlice t 0 ps) : Turn T E op := by
  have hmap : ∀ (s : St) (d : Tmp) (v : AV) (e : TypeId), .tmp d ∉ op.op.operands.toList → ps.toList.map (fun p => nilfix T e ((s.put (some d) v).get T p.2)) = ps.toList.map (fun p => nilfix T e (s.get T p.2)) := by
    intro s d v e hn
    refine List.map_congr_left fun p hp => ?_
    rw [get_put]
    intro he
    exact hn (by simp [ho, Op.operands]; exact ⟨p.1, by rw [← he]; simpa using hp⟩)
  constructor
  · intro R s κ r hk
    simp only [opK, ho] at hk
    split at hk
    · rename_i e h1
      split at hk
      · rename_i xs h2
        split at hk
        · rename_i h3
          split at hk
          · rename_i d h0 hd
            exact ⟨_, hk, fun κ' => by simp only [opK, ho, h1, h2, if_pos h3, hd], fun e x he hx hf => newTok_keeps (hd ▸ he) hx hf⟩
          · rename_i h0
            split at hk
            · rename_i h4
              refine ⟨_, hk, fun κ' => ?_, fun e x he hx hf => put_keeps' he hx⟩
              have hd : op.dst = none := by
                cases hd : op.dst with
                | none => rfl
                | some d => exact absurd (h0 d rfl hd) id
              simp only [opK, ho, h1, h2, if_pos h3, hd, if_pos h4]
            · simp at hk
        · simp at hk
      · simp at hk
    · simp at hk
  · intro R s κ d v hd hv hn
    simp only [opK, ho, hmap s d v _ hn]
    have e0 : (s.put (some d) v).o = s.o := rfl
    simp only [e0]
    split
    · split
      · split
        · cases hdst : op.dst with
          | none =>
            simp only
            split
            · rfl
            · rfl
          | some e =>
            simp only
            rw [newTok_put (fun h => hd (by rw [hdst, h])) hv]
        · rfl
      · rfl
    · rfl
theorem ice_keeps {s : St} {d : Nat} {e : Option Tmp} {id : Id} {cs : List D} {x v : AV} (h : e ≠ some d) (hx : s.t[d]? = some x) (hf : x.ids = []) : ((s.ice id cs).put e v).t[d]? = some x :=
  put_keeps' h (subL_get _ _ _ hx hf)
theorem turn_makeInterface {op : Oper} {t : TypeId} {x : Operand} (ho : op.op = .makeInterface t x) : Turn T E op := by
  constructor
  · intro R s κ r hk
    have key : ∀ {R' : Type} (κ' : St → Option R'), opK T E op s κ' = (match T.td t with
      | .iface _ => none
      | .other => none
      | _ => (match (nilfix T t (s.get T x)).data s.o with
        | some x => κ' (s.put op.dst (.d (.ifc t x)))
        | none => (match s.get T x with
          | .ref id 0 => (match lookup id s.o with
            | some (.box cs) => (match datas s.o cs with | some ds => if ds.all D.cell then κ' ((s.ice id ds).put op.dst (.d (.ifc t (.ptr ds)))) else none | none => none)
            | _ => none)
          | _ => none))) := fun κ' => by
        simp only [opK, ho]
        rfl
    rw [key κ] at hk
    split at hk
    · simp at hk
    · simp at hk
    · rename_i h1 h2
      split at hk
      · exact ⟨_, hk, fun κ' => by rw [key κ']; split <;> simp_all, fun e x he hx hf => put_keeps' he hx⟩
      · split at hk
        · split at hk
          · split at hk
            · split at hk
              · exact ⟨_, hk, fun κ' => by rw [key κ']; split <;> simp_all, fun e x he hx hf => ice_keeps he hx hf⟩
              · simp at hk
            · simp at hk
          · simp at hk
        · simp at hk
  · intro R s κ d v hd hv hn
    have hx : x ≠ .tmp d := fun h => hn (by simp [ho, Op.operands, h])
    have e0 : (s.put (some d) v).o = s.o := rfl
    simp only [opK, ho, get_put hx, e0, put_put' hd, ice_put hv]
theorem grow_keeps {s : St} {d : Nat} {e : Option Tmp} {id : Id} {n : Nat} {xs ys : List D} {x : AV} (h : e ≠ some d) (hx : s.t[d]? = some x) (hf : x.ids = []) : (s.grow e id n xs ys).t[d]? = some x :=
  put_keeps' h (subL_get _ _ _ hx hf)
theorem turn_append {op : Oper} {c : Call} (ho : op.op = .call c) (hc : c.callee = .builtin .append) : Turn T E op := by
  constructor
  · intro R s κ r hk
    have key : ∀ {R' : Type} (κ' : St → Option R'), opK T E op s κ' = (match c.args.toList, c.argTypes.toList with
      | [x, y], [t, t'] => (match T.td t, T.td t', (nilfix T t' (s.get T y)).data s.o with
        | .slice e, .slice _, some (.sl n' ys) => (match s.get T x with
          | .own k => (match lookup k s.o with
            | some (.tok n xs) => if n = T.sz e ∧ n' = n ∧ xs.length + ys.length ≤ lim then κ' (s.grow op.dst k n xs ys) else none
            | _ => none)
          | _ => none)
        | .slice e, .str, some (.s l) => (match s.get T x with
          | .own k => (match lookup k s.o with
            | some (.tok n xs) => if n = T.sz e ∧ n = 1 ∧ xs.length + l.length ≤ lim then κ' (s.grow op.dst k n xs (l.map encB)) else none
            | _ => none)
          | _ => none)
        | _, _, _ => none)
      | _, _ => none) := fun κ' => by
        simp only [opK, ho, hc]
        generalize c.args.toList = xs, c.argTypes.toList = ts
        rcases xs with _ | ⟨x, _ | ⟨y, _ | ⟨z, xs⟩⟩⟩ <;> rcases ts with _ | ⟨t, _ | ⟨t', _ | ⟨t'', ts⟩⟩⟩ <;> rfl
    rw [key κ] at hk
    split at hk
    · rename_i x y t t' hx ht
      split at hk
      · rename_i h3 h4 h5
        split at hk
        · rename_i h6
          split at hk
          · rename_i h7
            split at hk
            · rename_i h8
              exact ⟨_, hk, fun κ' => by rw [key κ', hx, ht]; simp only [h3, h4, h5, h6, h7]; rw [if_pos h8], fun e x he hx hf => grow_keeps he hx hf⟩
            · simp at hk
          · simp at hk
        · simp at hk
      · rename_i h3 h4 h5
        split at hk
        · rename_i h6
          split at hk
          · rename_i h7
            split at hk
            · rename_i h8
              exact ⟨_, hk, fun κ' => by rw [key κ', hx, ht]; simp only [h3, h4, h5, h6, h7]; rw [if_pos h8], fun e x he hx hf => grow_keeps he hx hf⟩
            · simp at hk
          · simp at hk
        · simp at hk
      · simp at hk
    · simp at hk
  · intro R s κ d v hd hv hn
    have e0 : (s.put (some d) v).o = s.o := rfl
    have ha : ∀ x ∈ c.args.toList, x ≠ .tmp d := fun x hx h => hn (by simp [ho, Op.operands, Call.operands, hc, ← h]; simpa using hx)
    simp only [opK, ho, hc]
    generalize c.args.toList = xs at ha
    generalize c.argTypes.toList = ts
    rcases xs with _ | ⟨x, _ | ⟨y, _ | ⟨z, xs⟩⟩⟩ <;> rcases ts with _ | ⟨t, _ | ⟨t', _ | ⟨t'', ts⟩⟩⟩ <;> try rfl
    have h1 := ha x (by simp)
    have h2 := ha y (by simp)
    simp only [get_put h1, get_put h2, e0, grow_put hd hv]
theorem turn_op {op : Oper} {ops : Array Oper} {fr : List Nat} (hb : isB ops fr op = true) : Turn T E op := by
  unfold isB at hb
  split at hb
  · exact turn_alloc (by assumption)
  · exact turn_store (by assumption)
  · exact turn_box (by assumption) (by simpa using hb)
  · exact turn_makeInterface (by assumption)
  · exact turn_buildSlice (by assumption)
  · split at hb
    · exact turn_append (by assumption) (by assumption)
    · simp at hb
  · simp at hb
end
end Go.Ab
