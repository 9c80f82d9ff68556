/- One text of a proof that a law of this seat says true for every input: an evaluator of code over data, and that it tells the truth. It holds of the given program under the conditions that the row prints. -/
import Derived.Test.YticphlljahcmkaaDoorAbRun
set_option linter.unusedVariables false
namespace Go.Ab

theorem wp_val {P : Program} {o : Oper} {a : Act} {w w' : World} {v : Value} {next : Act → World → Prop} {Q : Exit → Act → World → Prop} (hr : (execOp a.eval o).run P w = .ok (.value v) w') (hn : next (a.put o.dst v) w') : o.wp P a w next Q := by
  unfold Oper.wp
  rw [hr]
  exact hn
theorem wp_skip' {P : Program} {o : Oper} {a : Act} {w w' : World} {next : Act → World → Prop} {Q : Exit → Act → World → Prop} (hr : (execOp a.eval o).run P w = .ok .skip w') (hn : next (a.put o.dst undef) w') : o.wp P a w next Q := by
  unfold Oper.wp
  rw [hr]
  exact hn

theorem td_ok {d : TD} (h : d.ok = true) : d ≠ .other := by
  rintro rfl
  simp [TD.ok] at h

/-- What one operation owes. -/
def Owes (P : Program) (T : Ctx) (E : Abs) (op : Oper → Prop) : Prop :=
  ∀ {R : Type} {N X : Mut} {w0 w : World} {γ : Gam} {s : St} {a : Act} {o : Oper} {κ : St → Option R} {r : R} {next : Act → World → Prop} {Q : Exit → Act → World → Prop},
    op o → SR T N w0 X γ w s a → opK T E o s κ = some r → (∀ γ' w' s' a', SR T N w0 X γ' w' s' a' → κ s' = some r → next a' w') → o.wp P a w next Q

section
variable {P : Program} {T : Ctx} (hT : TOk P T) (E : Abs)

theorem owes_move (x : Operand) : Owes P T E (fun o => o.op = .move x) := by
  intro R N X w0 w γ s a o κ r next Q ho h hk hn
  unfold opK at hk
  rw [ho] at hk
  refine wp_val (v := a.eval x) (w' := w) (by simp [execOp, ho]) (hn γ w _ _ (h.put o.dst (nilfix_ok (T := T) o.type (h.get x))) ?_)
  exact hk

theorem owes_pick (c x y : Operand) : Owes P T E (fun o => o.op = .pick c x y) := by
  intro R N X w0 w γ s a o κ r next Q ho h hk hn
  unfold opK at hk
  rw [ho] at hk
  simp only at hk
  split at hk
  · rename_i t hc
    have hcv := h.get c
    rw [hc] at hcv
    simp only [RV, Rd] at hcv
    cases t with
    | true => exact wp_val (v := a.eval x) (w' := w) (by simp [execOp, ho, hcv, asBool]) (hn γ w _ _ (h.put o.dst (h.get x)) hk)
    | false => exact wp_val (v := a.eval y) (w' := w) (by simp [execOp, ho, hcv, asBool]) (hn γ w _ _ (h.put o.dst (h.get y)) hk)
  · simp at hk

theorem owes_unOp (u : UnOp) (t : TypeId) (x : Operand) : Owes P T E (fun o => o.op = .unOp u t x) := by
  intro R N X w0 w γ s a o κ r next Q ho h hk hn
  unfold opK at hk
  rw [ho] at hk
  simp only at hk
  split at hk
  · rename_i b hc
    have hcv := h.get x
    rw [hc] at hcv
    simp only [RV, Rd] at hcv
    split at hk
    · exact wp_val (v := .bool (!b)) (w' := w) (by simp [execOp, ho, hcv, Op.unary]) (hn γ w _ _ (h.put o.dst (by simp only [RV, Rd])) hk)
    · simp at hk
  · rename_i k n hc
    have hcv := h.get x
    rw [hc] at hcv
    simp only [RV, Rd] at hcv
    split at hk
    · exact wp_val (v := .int k (k.wrap (0 - n))) (w' := w) (by simp [execOp, ho, hcv, Op.unary, Op.intArith]) (hn γ w _ _ (h.put o.dst (by simp only [RV, Rd])) hk)
    · simp at hk
  · simp at hk

theorem owes_extract (x : Operand) (i : Nat) : Owes P T E (fun o => o.op = .extract x i) := by
  intro R N X w0 w γ s a o κ r next Q ho h hk hn
  unfold opK at hk
  rw [ho] at hk
  simp only at hk
  split at hk
  · rename_i xs hc
    have hcv := h.get x
    rw [hc] at hcv
    simp only [RV] at hcv
    obtain ⟨us, he, hv⟩ := hcv
    split at hk
    · rename_i v hi
      obtain ⟨u, hu, hvu⟩ := RVL_get hv hi
      exact wp_val (v := u) (w' := w) (by simp [execOp, ho, he, Instr.extract, hu]) (hn γ w _ _ (h.put o.dst hvu) hk)
    · simp at hk
  · simp at hk

theorem owes_nilCheck (x : Operand) : Owes P T E (fun o => o.op = .nilCheck x) := by
  intro R N X w0 w γ s a o κ r next Q ho h hk hn
  unfold opK at hk
  rw [ho] at hk
  simp only at hk
  split at hk
  · rename_i cs hc
    have hcv := h.get x
    rw [hc] at hcv
    have hcv' := hcv
    simp only [RV, Rd] at hcv'
    obtain ⟨p, he, _⟩ := hcv'
    exact wp_val (v := a.eval x) (w' := w) (by simp [execOp, ho, he]) (hn γ w _ _ (h.put o.dst hcv) hk)
  · rename_i i off hc
    have hcv := h.get x
    rw [hc] at hcv
    have hcv' := hcv
    simp only [RV] at hcv'
    obtain ⟨p, _, he⟩ := hcv'
    exact wp_val (v := a.eval x) (w' := w) (by simp [execOp, ho, he]) (hn γ w _ _ (h.put o.dst hcv) hk)
  · simp at hk

theorem RVL_evals {γ : Gam} {N : Mut} {w0 : World} {X : Mut} {w : World} {s : St} {a : Act} (h : SR T N w0 X γ w s a) : ∀ xs : List Operand, RVL γ s.o (all γ N s.o) w (xs.map (s.get T)) (xs.map a.eval)
  | [] => by simp [RVL]
  | x :: xs => by
    simp only [List.map_cons, RVL]
    exact ⟨_, _, rfl, h.get x, RVL_evals h xs⟩

theorem owes_makeFunc (f : Fn) (xs ys : Array Operand) : Owes P T E (fun o => o.op = .makeFunc f xs ys) := by
  intro R N X w0 w γ s a o κ r next Q ho h hk hn
  unfold opK at hk
  rw [ho] at hk
  simp only at hk
  refine wp_val (v := .func f (xs.map a.eval) (ys.map a.eval)) (w' := w) (by simp [execOp, ho, Instr.makeFunc]) (hn γ w _ _ (h.put o.dst ?_) hk)
  simp only [RV]
  exact ⟨xs.toList.map a.eval, ys.toList.map a.eval, by simp [← Array.toList_map], RVL_evals h _, RVL_evals h _⟩

include hT

theorem owes_load (t : TypeId) (x : Operand) : Owes P T E (fun o => o.op = .load t x) := by
  intro R N X w0 w γ s a o κ r next Q ho h hk hn
  unfold opK at hk
  rw [ho] at hk
  simp only at hk
  have hcv := h.get x
  split at hk
  · rename_i i off hc
    rw [hc] at hcv
    simp only [RV] at hcv
    obtain ⟨b, hb, he⟩ := hcv
    split at hk
    · rename_i cs hl
      split at hk
      · rename_i hfit
        obtain ⟨b', arr, ty, hb', hh, hvs⟩ := h.inv.obs _ (lookup_mem hl)
        have hbb : b' = b := by
          have : some b' = some b := by rw [← hb', hb]
          injection this
        subst hbb
        have hlen : arr.toList.length = cs.length := RVL_length hvs
        have hsub := RVL_take (T.sz t) (RVL_drop off hvs)
        have hto := td_ok hfit.2.2
        · have hrun := run_loadVar hT w hto hfit.2.1 ⟨b', off, none⟩ ((arr.toList.drop off).take (T.sz t)) (by simp at hlen ⊢; omega) fun j u hu => by
            rw [add_plain]
            simp only [World.cell?, hh]
            rw [List.getElem?_take] at hu
            split at hu
            · simpa [List.getElem?_drop] using hu
            · simp at hu
          refine wp_val (w' := w) (by simp only [execOp, ho, he, Instr.loadAt, Instr.sureAddr]; simp only [Sem.run_bind, Sem.run_pure, Result.andThen_ok, hrun]; rfl) (hn γ w _ _ (h.put o.dst ?_) hk)
          exact valA_ok hfit.2.1 hsub (by simp; omega)
      · simp at hk
    · simp at hk
  · rename_i cs hc
    rw [hc] at hcv
    simp only [RV, Rd] at hcv
    obtain ⟨p, he, hrd⟩ := hcv
    split at hk
    · rename_i hfit
      obtain ⟨us, h1, h2, h3⟩ := RdC_load hrd hfit.1
      have hto := td_ok hfit.2.2
      have hrun := run_loadVar hT w hto hfit.2.1 p us h2 h3
      refine wp_val (w' := w) (by simp only [execOp, ho, he, Instr.loadAt, Instr.sureAddr]; simp only [Sem.run_bind, Sem.run_pure, Result.andThen_ok, hrun]; rfl) (hn γ w _ _ (h.put o.dst ?_) hk)
      simp only [RV]
      exact valD_ok hfit.2.1 h1 (by rw [List.length_take, Nat.min_eq_left hfit.1])
    · simp at hk
  · simp at hk

end
end Go.Ab
