/- One text of a proof that a law of this seat says true for every input: an evaluator of code over data, and that it tells the truth. It holds of the given program under the conditions that the row prints. -/
import Derived.Test.YticphlljahcmkaaDoorAbOp5
import Derived.Laws.Strings
set_option linter.unusedVariables false
namespace Go.Ab

theorem run_eqGuard {P : Program} (w : World) (op : BinOp) (t : TypeId) (x y : Operand) (u v : Value) (h1 : u = .nilIface → v = .nilIface → (isConst x || isConst y) = true) (h2 : ∀ a b, u = .agg a → v ≠ .agg b) : (eqGuard op t x y u v).run P w = .ok () w := by
  unfold eqGuard
  cases op <;> first
    | rfl
    | (rw [if_neg (by simp)]
       cases u <;> cases v <;> first
         | rfl
         | exact absurd rfl (h2 _ _ rfl)
         | (have hh := h1 rfl rfl
            simp only
            rw [if_pos (by cases x <;> cases y <;> simp_all [isConst])]
            rfl))

theorem run_equal {P : Program} (w : World) {t : TypeId} {d : TypeDesc} (hu : P.underlying t = some d) (u v : Value) (r : Bool)
    (h : (match d, u, v with
      | .bool, .bool a, .bool b => some (a == b)
      | .pointer _, .pointer none, .pointer b => some b.isNone
      | .pointer _, .pointer (some _), .pointer none => some false
      | .interface _, .nilIface, .nilIface => some true
      | .interface _, .nilIface, .iface _ _ => some false
      | .interface _, .iface _ _, .nilIface => some false
      | _, _, _ => none) = some r) : (Op.equal t u v).run P w = .ok r w := by
  unfold Op.equal
  show (Op.equalIn (9999 + 1) t u v).run P w = .ok r w
  unfold Op.equalIn
  simp only [Sem.run_bind, run_underlying hu, Result.andThen_ok]
  split at h <;> first
    | (simp only [Option.some.injEq] at h; subst h; rfl)
    | simp at h

section
variable {P : Program} {T : Ctx} (E : Abs)

theorem run_intBin (w : World) (op : BinOp) (t : TypeId) (k k' : IntKind) (a b : Int) (d : D) (hk : k = k' ∨ op = .shl ∨ op = .shr) (h : intBin op k a b = some d) : ∃ v, d = .v v ∧ (binOp op t (.int k a) (.int k' b)).run P w = .ok v w := by
  have hne : (k = k' ∨ op = .shl ∨ op = .shr) := hk
  cases op <;> simp only [intBin, Option.some.injEq] at h <;> first
    | (subst h
       refine ⟨_, rfl, ?_⟩
       have e : k = k' := by rcases hk with e | e | e <;> first | exact e | (simp at e)
       subst e
       simp [binOp, Op.intArith, Op.intCmp, Op.intBits]
       done)
    | (simp at h; done)
    | (split at h
       · simp at h
       · rename_i hb
         simp only [Option.some.injEq] at h
         subst h
         refine ⟨_, rfl, ?_⟩
         first
           | (have e : k = k' := by rcases hk with e | e | e <;> first | exact e | (simp at e)
              subst e
              simp [binOp, Op.intDiv, hb]
              done)
           | (simp [binOp, Op.shift, hb]; done))

theorem rd_v (x : Value) (M : Mut) (w : World) : Rd M w (.v x) x := by simp only [Rd]
theorem rd_s (l : List UInt8) (M : Mut) (w : World) : Rd M w (.s l) (.string ⟨l.toArray⟩) := by simp only [Rd]

theorem run_strBin (w : World) (op : BinOp) (t : TypeId) (a b : List UInt8) (d : D) (h : strBin op a b = some d) : ∃ v, (∀ M w', Rd M w' d v) ∧ (binOp op t (.string ⟨a.toArray⟩) (.string ⟨b.toArray⟩)).run P w = .ok v w := by
  have ha : (⟨a.toArray⟩ : ByteArray).toList = a := by rw [ByteArray.toList_eq]
  have hb : (⟨b.toArray⟩ : ByteArray).toList = b := by rw [ByteArray.toList_eq]
  cases op <;> simp only [strBin, Option.some.injEq] at h <;> first
    | (subst h
       refine ⟨_, fun M w' => rd_v _ M w', ?_⟩
       simp only [binOp, Op.stringOp, ha, hb]
       rfl)
    | (simp at h; done)
    | skip
  split at h
  · rename_i hle
    simp only [Option.some.injEq] at h
    subst h
    refine ⟨_, fun M w' => rd_s _ M w', ?_⟩
    simp only [binOp, Op.stringOp, Sem.run_ite]
    have hsz : ¬ ((((⟨a.toArray⟩ : ByteArray).size + (⟨b.toArray⟩ : ByteArray).size : Nat) : Int) > IntKind.i64.max) := by
      have e1 : (⟨a.toArray⟩ : ByteArray).size = a.length := by simp [ByteArray.size]
      have e2 : (⟨b.toArray⟩ : ByteArray).size = b.length := by simp [ByteArray.size]
      rw [e1, e2]
      unfold lim at hle
      have : IntKind.i64.max = 9223372036854775807 := by decide
      omega
    rw [if_neg hsz]
    simp only [Sem.run_pure]
    congr 2
  · simp at h

theorem run_eqD (hT : TOk P T) {t : TypeId} (op : BinOp) (x y : Operand) {dx dy : D} {bb : Bool} {M : Mut} {w : World} {u v : Value} (hxv : Rd M w dx u) (hyv : Rd M w dy v) (hbb : eqD (T.td t) (isConst x || isConst y) (T.eqt t) dx dy = some bb) :
    (eqGuard op t x y u v).run P w = .ok () w ∧ (Op.equal t u v).run P w = .ok bb w ∧ (∀ k n, u ≠ .int k n) ∧ (∀ l, u ≠ .string l) ∧ (∀ k n, u ≠ .float k n) ∧ (∀ k n m, u ≠ .complex k n m) := by
  unfold eqD at hbb
  split at hbb
  · rename_i em ht
    obtain ⟨ms, hu, _⟩ := und_iface hT ht
    simp only [Rd] at hxv hyv
    subst hxv hyv
    split at hbb
    · rename_i hc
      simp only [Option.some.injEq] at hbb
      subst hbb
      exact ⟨run_eqGuard w op t x y _ _ (fun _ _ => hc) (by simp), run_equal w hu _ _ _ rfl, by simp, by simp, by simp, by simp⟩
    · simp at hbb
  · rename_i em t1 x1 ht
    obtain ⟨ms, hu, _⟩ := und_iface hT ht
    simp only [Rd] at hxv hyv
    obtain ⟨u', rfl, _⟩ := hxv
    simp only [Option.some.injEq] at hbb
    subst hbb
    subst hyv
    exact ⟨run_eqGuard w op t x y _ _ (by simp) (by simp), run_equal w hu _ _ _ rfl, by simp, by simp, by simp, by simp⟩
  · rename_i em t1 x1 ht
    obtain ⟨ms, hu, _⟩ := und_iface hT ht
    simp only [Rd] at hxv hyv
    obtain ⟨u', rfl, _⟩ := hyv
    simp only [Option.some.injEq] at hbb
    subst hbb
    subst hxv
    exact ⟨run_eqGuard w op t x y _ _ (by simp) (by simp), run_equal w hu _ _ _ rfl, by simp, by simp, by simp, by simp⟩
  · rename_i em t1 x1 ht
    obtain ⟨ms, hu, _⟩ := und_iface hT ht
    simp only [Rd] at hxv hyv
    simp only [Option.some.injEq] at hbb
    subst hbb
    subst hyv hxv
    exact ⟨run_eqGuard w op t x y _ _ (by simp) (by simp), run_equal w hu _ _ _ rfl, by simp, by simp, by simp, by simp⟩
  · rename_i em t1 x1 ht
    obtain ⟨ms, hu, _⟩ := und_iface hT ht
    simp only [Rd] at hxv hyv
    simp only [Option.some.injEq] at hbb
    subst hbb
    subst hyv hxv
    exact ⟨run_eqGuard w op t x y _ _ (by simp) (by simp), run_equal w hu _ _ _ rfl, by simp, by simp, by simp, by simp⟩
  · rename_i e cs ht
    have hu := und_ptr hT ht
    simp only [Rd] at hxv hyv
    obtain ⟨u', rfl, _⟩ := hxv
    simp only [Option.some.injEq] at hbb
    subst hbb
    subst hyv
    exact ⟨run_eqGuard w op t x y _ _ (by simp) (by simp), run_equal w hu _ _ _ rfl, by simp, by simp, by simp, by simp⟩
  · rename_i e ht
    have hu := und_ptr hT ht
    simp only [Rd] at hxv hyv
    simp only [Option.some.injEq] at hbb
    subst hbb
    subst hxv hyv
    exact ⟨run_eqGuard w op t x y _ _ (by simp) (by simp), run_equal w hu _ _ _ rfl, by simp, by simp, by simp, by simp⟩
  · rename_i a' b' ht
    have hu : P.underlying t = some .bool := by
      have := hT.td t
      unfold tdOk at this
      rw [ht] at this
      exact this
    simp only [Rd] at hxv hyv
    simp only [Option.some.injEq] at hbb
    subst hbb
    subst hxv hyv
    exact ⟨run_eqGuard w op t x y _ _ (by simp) (by simp), run_equal w hu _ _ _ rfl, by simp, by simp, by simp, by simp⟩
  · split at hbb
    · simp at hbb
    · rename_i hks
      simp only [Rd] at hxv hyv
      obtain ⟨us, rfl, hx⟩ := hxv
      obtain ⟨vs, rfl, hy⟩ := hyv
      obtain ⟨h1, h2⟩ := run_eqSt (hT.eqt t hks) hbb hx hy
      exact ⟨h1 op x y, h2, by simp, by simp, by simp, by simp⟩
  · simp at hbb

theorem owes_binOp (op : BinOp) (t t' : TypeId) (x y : Operand) (hT : TOk P T) : Owes P T E (fun o => o.op = .binOp op t x y t') := by
  intro R N X w0 w γ s a o κ r next Q ho h hk hn
  unfold opK at hk
  rw [ho] at hk
  simp only at hk
  split at hk
  · rename_i dx dy hx hy
    have hxv := h.data hx
    have hyv := h.data hy
    split at hk
    · rename_i rd hrd
      unfold dBin at hrd
      split at hrd
      · rename_i k a' k' b'
        simp only [Rd] at hxv hyv
        split at hrd
        · rename_i hkk
          obtain ⟨v, rfl, hrun⟩ := run_intBin (P := P) w op t k k' a' b' rd hkk hrd
          refine wp_val (v := v) (w' := w) ?_ (hn γ w _ _ (h.put o.dst (by simp only [RV, Rd])) hk)
          simp only [execOp, ho, hxv, hyv, Sem.run_bind, run_eqGuard (P := P) w op t x y (.int k a') (.int k' b') (by simp) (by simp), Result.andThen_ok, hrun, Sem.run_pure]
        · simp at hrd
      · rename_i a' b'
        simp only [Rd] at hxv hyv
        obtain ⟨v, hv, hrun⟩ := run_strBin (P := P) w op t a' b' rd hrd
        refine wp_val (v := v) (w' := w) ?_ (hn γ w _ _ (h.put o.dst (by simp only [RV]; exact hv _ _)) hk)
        simp only [execOp, ho, hxv, hyv, Sem.run_bind, run_eqGuard (P := P) w op t x y (.string ⟨a'.toArray⟩) (.string ⟨b'.toArray⟩) (by simp) (by simp), Result.andThen_ok, hrun, Sem.run_pure]
      · have key : ∀ (bb : Bool), eqD (T.td t) (isConst x || isConst y) (T.eqt t) dx dy = some bb → _ := fun bb hbb => run_eqD hT op x y hxv hyv hbb
        split at hrd
        · split at hrd
          · rename_i bb hbb
            simp only [Option.some.injEq] at hrd
            subst hrd
            obtain ⟨h1, h2, h3, h4, h5, h6⟩ := key bb hbb
            refine wp_val (v := .bool bb) (w' := w) ?_ (hn γ w _ _ (h.put o.dst (by simp only [RV, Rd])) hk)
            simp only [execOp, ho, Sem.run_bind, h1, Result.andThen_ok]
            revert h2 h3 h4 h5 h6
            generalize a.eval x = u
            generalize a.eval y = v
            intro h2 h3 h4 h5 h6
            have : (binOp .eql t u v).run P w = .ok (.bool bb) w := by
              cases u <;> first | exact absurd rfl (h3 _ _) | exact absurd rfl (h4 _) | exact absurd rfl (h5 _ _) | exact absurd rfl (h6 _ _ _) | (simp only [binOp, Sem.run_bind, h2, Result.andThen_ok, Sem.run_pure])
            simp only [this, Result.andThen_ok, Sem.run_pure]
          · simp at hrd
        · split at hrd
          · rename_i bb hbb
            simp only [Option.some.injEq] at hrd
            subst hrd
            obtain ⟨h1, h2, h3, h4, h5, h6⟩ := key bb hbb
            refine wp_val (v := .bool (!bb)) (w' := w) ?_ (hn γ w _ _ (h.put o.dst (by simp only [RV, Rd])) hk)
            simp only [execOp, ho, Sem.run_bind, h1, Result.andThen_ok]
            revert h2 h3 h4 h5 h6
            generalize a.eval x = u
            generalize a.eval y = v
            intro h2 h3 h4 h5 h6
            have : (binOp .neq t u v).run P w = .ok (.bool (!bb)) w := by
              cases u <;> first | exact absurd rfl (h3 _ _) | exact absurd rfl (h4 _) | exact absurd rfl (h5 _ _) | exact absurd rfl (h6 _ _ _) | (simp only [binOp, Sem.run_bind, h2, Result.andThen_ok, Sem.run_pure])
            simp only [this, Result.andThen_ok, Sem.run_pure]
          · simp at hrd
        · simp at hrd
    · simp at hk
  · have nils : ∀ (i : Id) (off : Nat) (e : TypeId), T.td t = .ptr e → s.get T x = .ref i off → s.get T y = .d (.v (.pointer none)) → ∃ p, a.eval x = .pointer (some p) ∧ a.eval y = .pointer none ∧ (Op.equal t (.pointer (some p)) (.pointer none)).run P w = .ok false w := by
      intro i off e ht h1 h2
      have hxv := h.get x
      have hyv := h.get y
      rw [h1] at hxv
      rw [h2] at hyv
      simp only [RV, Rd] at hxv hyv
      obtain ⟨b, _, he⟩ := hxv
      exact ⟨_, he, hyv, run_equal w (und_ptr hT ht) _ _ _ rfl⟩
    split at hk
    · rename_i i off hx hy
      split at hk
      · rename_i e ht
        obtain ⟨p, h1, h2, h3⟩ := nils i off e ht hx hy
        refine wp_val (v := .bool false) (w' := w) ?_ (hn γ w _ _ (h.put o.dst (by simp only [RV, Rd])) hk)
        simp only [execOp, ho, h1, h2, Sem.run_bind, run_eqGuard (P := P) w .eql t x y (.pointer (some p)) (.pointer none) (by simp) (by simp), Result.andThen_ok, binOp, h3, Sem.run_pure]
      · simp at hk
    · rename_i i off hx hy
      split at hk
      · rename_i e ht
        obtain ⟨p, h1, h2, h3⟩ := nils i off e ht hx hy
        refine wp_val (v := .bool true) (w' := w) ?_ (hn γ w _ _ (h.put o.dst (by simp only [RV, Rd])) hk)
        simp only [execOp, ho, h1, h2, Sem.run_bind, run_eqGuard (P := P) w .neq t x y (.pointer (some p)) (.pointer none) (by simp) (by simp), Result.andThen_ok, binOp, h3, Sem.run_pure]
        rfl
      · simp at hk
    · simp at hk

end
end Go.Ab
