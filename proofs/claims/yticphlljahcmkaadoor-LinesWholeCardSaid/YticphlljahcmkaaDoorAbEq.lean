/- One text of a proof that a law of this seat says true for every input: an evaluator of code over data, and that it tells the truth. It holds of the given program under the conditions that the row prints. -/
import Derived.Test.YticphlljahcmkaaDoorAbDom
import Derived.Laws.StructEq
set_option linter.unusedVariables false
namespace Go.Ab

/-- A field's kind. -/
inductive EK where | s | i | b
deriving DecidableEq
/-- Are these cells one? -/
def eqCells : List EK → List D → List D → Option Bool
  | [], [], [] => some true
  | .s :: ks, .s a :: r, .s b :: r' => match eqCells ks r r' with | some c => some (a == b && c) | none => none
  | .i :: ks, .v (.int k a) :: r, .v (.int k' b) :: r' => if k = k' then (match eqCells ks r r' with | some c => some (a == b && c) | none => none) else none
  | .b :: ks, .v (.bool a) :: r, .v (.bool b) :: r' => match eqCells ks r r' with | some c => some (a == b && c) | none => none
  | _, _, _ => none
def EK.fits : EK → Option TypeDesc → Bool
  | .s, some .string | .i, some (.int _) | .b, some .bool => true
  | _, _ => false
/-- Flat fields that can be compared. -/
def flatB (P : Program) : Nat → List EK → List Field → Bool
  | _, [], [] => true
  | i, k :: ks, f :: fs => f.name != "_" && f.offset == i && k.fits (P.underlying f.type) && flatB P (i + 1) ks fs
  | _, _, _ => false
def eqB (P : Program) (t : TypeId) (ks : List EK) : Bool :=
  match P.underlying t with
  | some (.struct a) => !P.stoodInHeld t && !P.eqGuardType P.depth t && flatB P 0 ks a.toList
  | _ => false

theorem run_part_flat {P : Program} {w : World} {t : TypeId} {k : EK} (hf : k.fits (P.underlying t) = true) {U : Array Value} {i : Nat} {v : Value} (hv : U[i]? = some v) : (part t U i).run P w = .ok v w := by
  have ha : (isAgg t).run P w = .ok false w := by
    cases hu : P.underlying t with
    | none => rw [hu] at hf; cases k <;> simp [EK.fits] at hf
    | some u =>
      rw [hu] at hf
      unfold isAgg
      simp only [Sem.run_bind, run_underlying hu, Result.andThen_ok]
      cases u <;> first | rfl | (cases k <;> simp [EK.fits] at hf)
  unfold part
  simp only [Sem.run_bind, ha, Result.andThen_ok, Bool.false_eq_true, if_false, hv, Sem.run_pure]
theorem run_flat {P : Program} {M : Mut} {w : World} {U V : Array Value} (d : Nat) : ∀ (ks : List EK) (fs : List Field) (i : Nat) (xs ys : List D) (us vs : List Value) (r : Bool), flatB P i ks fs = true → eqCells ks xs ys = some r → RdL M w xs us → RdL M w ys vs →
    U.toList.drop i = us → V.toList.drop i = vs → (Op.eqFields (d + 1) U V fs).run P w = .ok r w
  | [], [], i, xs, ys, us, vs, r, hf, he, hx, hy, hU, hV => by
    cases xs <;> cases ys <;> simp [eqCells] at he
    subst he
    simp [Op.eqFields]
  | [], f :: fs, i, xs, ys, us, vs, r, hf, he, hx, hy, hU, hV => by simp [flatB] at hf
  | k :: ks, [], i, xs, ys, us, vs, r, hf, he, hx, hy, hU, hV => by simp [flatB] at hf
  | k :: ks, f :: fs, i, xs, ys, us, vs, r, hf, he, hx, hy, hU, hV => by
    simp only [flatB, Bool.and_eq_true, bne_iff_ne, ne_eq, beq_iff_eq] at hf
    obtain ⟨⟨⟨h1, h2⟩, h3⟩, h4⟩ := hf
    have fin : ∀ (x y : D) (xs' ys' : List D) (c c' : Bool), xs = x :: xs' → ys = y :: ys' → eqCells ks xs' ys' = some c' → r = (c && c') → (∀ u v, Rd M w x u → Rd M w y v → (Op.equalIn (d + 1) f.type u v).run P w = .ok c w) → (Op.eqFields (d + 1) U V (f :: fs)).run P w = .ok r w := by
      rintro x y xs' ys' c c' rfl rfl hc hr hq
      simp only [RdL] at hx hy
      obtain ⟨u, us', rfl, hu, hx⟩ := hx
      obtain ⟨v, vs', rfl, hv, hy⟩ := hy
      have gU : U[i]? = some u := by
        have := congrArg (fun l => l[0]?) hU
        simpa using this
      have gV : V[i]? = some v := by
        have := congrArg (fun l => l[0]?) hV
        simpa using this
      have dU : U.toList.drop (i + 1) = us' := by
        have := congrArg (List.drop 1) hU
        simpa [List.drop_drop, Nat.add_comm] using this
      have dV : V.toList.drop (i + 1) = vs' := by
        have := congrArg (List.drop 1) hV
        simpa [List.drop_drop, Nat.add_comm] using this
      have p1 := run_part_flat (P := P) (w := w) h3 gU
      have p2 := run_part_flat (P := P) (w := w) h3 gV
      have ih := run_flat (M := M) d ks fs (i + 1) xs' ys' us' vs' c' h4 hc hx hy dU dV
      unfold Op.eqFields
      rw [if_pos h1, h2]
      simp only [Sem.run_bind, p1, p2, Result.andThen_ok, hq u v hu hv]
      cases c with
      | true => simp [ih, hr]
      | false => simp [hr]
    have und : ∀ {k : EK}, k.fits (P.underlying f.type) = true → (k = .s → P.underlying f.type = some .string) ∧ (k = .i → ∃ q, P.underlying f.type = some (.int q)) ∧ (k = .b → P.underlying f.type = some .bool) := by
      intro k hk
      cases hu : P.underlying f.type with
      | none => rw [hu] at hk; cases k <;> simp [EK.fits] at hk
      | some u =>
        rw [hu] at hk
        cases k <;> cases u <;> simp [EK.fits] at hk <;> simp
    unfold eqCells at he
    split at he
    · simp_all
    · rename_i ks' a r1 b r1' e0
      simp only [List.cons.injEq] at e0
      obtain ⟨rfl, rfl⟩ := e0
      split at he
      · rename_i c hc
        simp only [Option.some.injEq] at he
        refine fin _ _ _ _ (a == b) c rfl rfl hc he.symm fun u v hu hv => ?_
        simp only [Rd] at hu hv
        subst hu hv
        rw [run_equalIn_string w d f.type _ _ ((und h3).1 rfl)]
        simp [ByteArray.toList_eq]
      · simp at he
    · rename_i ks' k1 a r1 k2 b r1' e0
      simp only [List.cons.injEq] at e0
      obtain ⟨rfl, rfl⟩ := e0
      split at he
      · rename_i hkk
        subst hkk
        split at he
        · rename_i c hc
          simp only [Option.some.injEq] at he
          refine fin _ _ _ _ (a == b) c rfl rfl hc he.symm fun u v hu hv => ?_
          simp only [Rd] at hu hv
          subst hu hv
          obtain ⟨q, hq⟩ := (und h3).2.1 rfl
          exact run_equalIn_int w d f.type k1 q a b hq
        · simp at he
      · simp at he
    · rename_i ks' a r1 b r1' e0
      simp only [List.cons.injEq] at e0
      obtain ⟨rfl, rfl⟩ := e0
      split at he
      · rename_i c hc
        simp only [Option.some.injEq] at he
        refine fin _ _ _ _ (a == b) c rfl rfl hc he.symm fun u v hu hv => ?_
        simp only [Rd] at hu hv
        subst hu hv
        exact run_equalIn_bool w d f.type a b ((und h3).2.2 rfl)
      · simp at he
    · simp at he
/-- Two structs of flat fields: what '==' gives. -/
theorem run_eqSt {P : Program} {t : TypeId} {ks : List EK} (h : eqB P t ks = true) {M : Mut} {w : World} {xs ys : List D} {us vs : List Value} {r : Bool} (he : eqCells ks xs ys = some r) (hx : RdL M w xs us) (hy : RdL M w ys vs) :
    (∀ op x y, (eqGuard op t x y (.agg us.toArray) (.agg vs.toArray)).run P w = .ok () w) ∧ (Op.equal t (.agg us.toArray) (.agg vs.toArray)).run P w = .ok r w := by
  unfold eqB at h
  split at h
  · rename_i a ha
    simp only [Bool.and_eq_true, Bool.not_eq_true'] at h
    obtain ⟨⟨h1, h2⟩, h3⟩ := h
    refine ⟨fun op x y => run_eqGuard_agg w op t x y _ _ h2, ?_⟩
    have hf : P.fieldsOf t = a := by simp [Program.fieldsOf, ha]
    have := run_equalIn_agg w 9999 t us.toArray vs.toArray (by rw [hf]; exact ha) h1
    unfold Op.equal Op.maxDepth
    rw [this, hf]
    exact run_flat 9998 ks a.toList 0 xs ys us vs r h3 he hx hy (by simp) (by simp)
  · simp at h
end Go.Ab
