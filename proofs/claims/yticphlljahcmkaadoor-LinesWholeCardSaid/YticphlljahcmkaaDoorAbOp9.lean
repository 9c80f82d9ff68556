/- One text of a proof that a law of this seat says true for every input: an evaluator of code over data, and that it tells the truth. It holds of the given program under the conditions that the row prints. -/
import Derived.Test.YticphlljahcmkaaDoorAbOp8
set_option linter.unusedVariables false
namespace Go.Ab

def Ex.to : Ex → Exit
  | .normal => .normal
  | .exit i => .exit i
  | .ret => .ret

theorem iter_sound {P : Program} {T : Ctx} {R : Type} {N X : Mut} {w0 : World} {c : Code} {body : St → (Ex → St → Option R) → Option R} {Q : Exit → Act → World → Prop} {κ : Ex → St → Option R} {r : R}
    (hb : ∀ (κ' : Ex → St → Option R) (Q' : Exit → Act → World → Prop) (γ : Gam) (w : World) (s : St) (a : Act), SR T N w0 X γ w s a → body s κ' = some r → (∀ e γ' w' s' a', SR T N w0 X γ' w' s' a' → κ' e s' = some r → Q' e.to a' w') → c.wp P Q' a w)
    (hn : ∀ e γ' w' s' a', SR T N w0 X γ' w' s' a' → κ e s' = some r → Q e.to a' w') :
    ∀ (n : Nat) (γ : Gam) (w : World) (s : St) (a : Act), SR T N w0 X γ w s a → iter body n s κ = some r → Code.rounds P c Q n a w
  | 0, γ, w, s, a, h, hk => by simp [iter] at hk
  | n + 1, γ, w, s, a, h, hk => by
    simp only [iter] at hk
    rw [rounds_succ]
    refine hb _ _ γ w s a h hk fun e γ' w' s' a' h' hk' => ?_
    cases e with
    | normal => exact iter_sound hb hn n γ' w' s' a' h' hk'
    | exit i => exact hn (.exit i) γ' w' s' a' h' hk'
    | ret => exact hn .ret γ' w' s' a' h' hk'

section
variable {P : Program} {T : Ctx} (hT : TOk P T) {E : Abs} (hE : ∀ f, Pure P T f (E f))
include hT hE

theorem opG_sound {R : Type} {N X : Mut} {w0 w : World} {γ : Gam} {s : St} {a : Act} {ops : Array Oper} {o : Oper} {κ : St → Option R} {r : R} {next : Act → World → Prop} {Q : Exit → Act → World → Prop}
    (h : SR T N w0 X γ w s a) (hk : opG T E ops.toList o s κ = some r) (hn : ∀ γ' w' s' a', SR T N w0 X γ' w' s' a' → κ s' = some r → next a' w') :
    if Region.wanted o (yielded ops a.tmps) then o.wp P a w next Q ∨ (o.asks P a w ∧ LetsOut Q) else next (a.put o.dst undef) w := by
  unfold opG at hk
  split at hk
  · rename_i hg
    have : Region.wanted o (yielded ops a.tmps) = true := by simp [Region.wanted, hg]
    rw [if_pos this]
    exact .inl (op_sound hT hE h hk hn)
  · rename_i j want hg
    have hy : ∀ v, ((ops.toList[j]?).bind (·.dst)).bind (s.t[·]?) = some (.d (.v v)) → yielded ops a.tmps j = (match v with | .bool b => some b | _ => none) := by
      intro v hv
      unfold yielded
      rw [Array.getElem?_toList] at hv
      cases hd : (ops[j]?).bind (·.dst) with
      | none => rw [hd] at hv; simp at hv
      | some d =>
        rw [hd] at hv
        simp only [Option.bind_some] at hv ⊢
        obtain ⟨u, hu, hr⟩ := RVL_get h.t hv
        simp only [RV, Rd] at hr
        subst hr
        rw [Array.getElem?_toList] at hu
        rw [hu]
        cases u <;> rfl
    split at hk
    · rename_i b hb
      have hyb := hy _ hb
      simp only at hyb
      have hw : Region.wanted o (yielded ops a.tmps) = (some b == some want) := by simp only [Region.wanted, hg, hyb]
      cases b <;> cases want <;> simp only at hk <;> rw [hw]
      · exact (if_pos rfl).mpr (.inl (op_sound hT hE h hk hn))
      · exact (if_neg (by decide)).mpr (hn γ w _ _ (h.put o.dst (by simp only [RV, Rd])) hk)
      · exact (if_neg (by decide)).mpr (hn γ w _ _ (h.put o.dst (by simp only [RV, Rd])) hk)
      · exact (if_pos rfl).mpr (.inl (op_sound hT hE h hk hn))
    · rename_i vs hb
      have hyb := hy _ hb
      simp only at hyb
      have hw : Region.wanted o (yielded ops a.tmps) = false := by simp [Region.wanted, hg, hyb]
      rw [hw]
      exact (if_neg (by decide)).mpr (hn γ w _ _ (h.put o.dst (by simp only [RV, Rd])) hk)
    · simp at hk

theorem opsK_sound {R : Type} {N X : Mut} {w0 : World} {ops : Array Oper} {Q : Exit → Act → World → Prop} {κ : St → Option R} {r : R} (hn : ∀ γ' w' s' a', SR T N w0 X γ' w' s' a' → κ s' = some r → Q .normal a' w') :
    ∀ (l : List Oper) (i : Nat) (γ : Gam) (w : World) (s : St) (a : Act), ops.toList.drop i = l → SR T N w0 X γ w s a → opsK T E ops.toList l s κ = some r → wpOps P ops Q (List.range' i l.length) a w
  | [], i, γ, w, s, a, hl, h, hk => by
    simp only [opsK] at hk
    simp only [List.length_nil, List.range'_zero, wpOps]
    exact hn γ w s a h hk
  | o :: l, i, γ, w, s, a, hl, h, hk => by
    simp only [opsK] at hk
    have ho : ops[i]? = some o := by
      have : (ops.toList.drop i)[0]? = some o := by rw [hl]; rfl
      simpa using this
    have hl' : ops.toList.drop (i + 1) = l := by
      have := congrArg (List.drop 1) hl
      simpa [List.drop_drop, Nat.add_comm] using this
    simp only [List.length_cons, List.range'_succ, wpOps, ho]
    exact opG_sound hT hE h hk fun γ' w' s' a' h' hk' => opsK_sound hn l (i + 1) γ' w' s' a' hl' h' hk'

end
end Go.Ab
