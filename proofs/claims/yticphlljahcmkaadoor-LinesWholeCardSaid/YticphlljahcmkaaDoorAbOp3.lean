/- One text of a proof that a law of this seat says true for every input: an evaluator of code over data, and that it tells the truth. It holds of the given program under the conditions that the row prints. -/
import Derived.Test.YticphlljahcmkaaDoorAbOp2
set_option linter.unusedVariables false
namespace Go.Ab

theorem atK_some {R α : Type} {xs : List α} {i : Int} {κ : α → Option R} {r : R} (h : atK xs i κ = some r) : 0 ≤ i ∧ ∃ x, xs[i.toNat]? = some x ∧ κ x = some r := by
  unfold atK at h
  split at h
  · rename_i h0
    refine ⟨h0, ?_⟩
    split at h
    · rename_i x hx
      exact ⟨x, hx, h⟩
    · simp at h
  · simp at h
theorem cutK_some {R : Type} {len : Nat} {lo hi : Int} {κ : Nat → Nat → Option R} {r : R} (h : cutK len lo hi κ = some r) : 0 ≤ lo ∧ lo ≤ hi ∧ hi ≤ len ∧ κ lo.toNat hi.toNat = some r := by
  unfold cutK at h
  split at h
  · rename_i h0
    exact ⟨h0.1, h0.2.1, h0.2.2, h⟩
  · simp at h

section
variable {P : Program} {T : Ctx} (hT : TOk P T) (E : Abs)
theorem bound_ok {N X : Mut} {w0 w : World} {γ : Gam} {s : St} {a : Act} (h : SR T N w0 X γ w s a) {R : Type} {x : Option Operand} {dflt : Int} {κ : Int → Option R} {r : R} (hk : boundK T s x dflt κ = some r) :
    ∃ i, κ i = some r ∧ (match x.map a.eval with | none => i = dflt | some v => ∃ k, v = .int k i) := by
  unfold boundK at hk
  split at hk
  · exact ⟨dflt, hk, rfl⟩
  · rename_i x
    split at hk
    · rename_i k i hx
      have hxv := h.get x
      rw [hx] at hxv
      simp only [RV, Rd] at hxv
      exact ⟨i, hk, k, hxv⟩
    · simp at hk

theorem run_bounds (w : World) (isSlice : Bool) (len cap : Nat) (hle : len ≤ cap) (lo hi : Option Value) (i j : Int) (hlo : match lo with | none => i = 0 | some v => ∃ k, v = .int k i) (hhi : match hi with | none => j = len | some v => ∃ k, v = .int k j)
    (h0 : 0 ≤ i) (h1 : i ≤ j) (h2 : j ≤ len) : (Instr.sliceBounds isSlice len cap lo hi none).run P w = .ok (i.toNat, j.toNat, cap) w := by
  unfold Instr.sliceBounds
  have hb : ∀ (k : IntKind) (x : Int) (y : Nat) (c : BoundsCode), 0 ≤ x → x ≤ y → (Instr.sliceBound (.int k x) y c).run P w = .ok x.toNat w := by
    intro k x y c hx hy
    unfold Instr.sliceBound
    simp only [asIntOf, Sem.run_bind, Sem.run_pure, Result.andThen_ok, Sem.run_ite]
    rw [if_pos ⟨hx, hy⟩]
  cases lo with
  | none =>
    simp only at hlo
    subst hlo
    cases hi with
    | none =>
      simp only at hhi
      subst hhi
      simp
    | some v =>
      obtain ⟨k, rfl⟩ := hhi
      simp [hb k j cap _ (by omega) (by omega)]
  | some v =>
    obtain ⟨k, rfl⟩ := hlo
    cases hi with
    | none =>
      simp only at hhi
      subst hhi
      simp [hb k i len _ h0 (by omega)]
    | some v =>
      obtain ⟨k', rfl⟩ := hhi
      simp [hb k' j cap _ (by omega) (by omega), hb k i j.toNat _ h0 (by omega)]

include hT

theorem und_slice {t e : TypeId} (h : T.td t = .slice e) : P.underlying t = some (.slice e) ∧ T.td e ≠ .other := by
  have := hT.td t
  unfold tdOk at this
  rw [h] at this
  exact this
theorem und_arr {t e : TypeId} {n : Nat} (h : T.td t = .arr n e) : P.underlying t = some (.array n e) ∧ T.td e ≠ .other := by
  have := hT.td t
  unfold tdOk at this
  rw [h] at this
  exact this
theorem und_str {t : TypeId} (h : T.td t = .str) : P.underlying t = some .string := by
  have := hT.td t
  unfold tdOk at this
  rw [h] at this
  exact this
theorem und_int {t : TypeId} {k : IntKind} (h : T.td t = .int k) : P.underlying t = some (.int k) := by
  have := hT.td t
  unfold tdOk at this
  rw [h] at this
  exact this
theorem und_ptr {t e : TypeId} (h : T.td t = .ptr e) : P.underlying t = some (.pointer e) := by
  have := hT.td t
  unfold tdOk at this
  rw [h] at this
  exact this
theorem und_iface {t : TypeId} {b : Bool} (h : T.td t = .iface b) : ∃ ms, P.underlying t = some (.interface ms) ∧ ms.isEmpty = b := by
  have := hT.td t
  unfold tdOk at this
  rw [h] at this
  exact this

theorem owes_indexAddr (t : TypeId) (x y : Operand) : Owes P T E (fun o => o.op = .indexAddr t x y) := by
  intro R N X w0 w γ s a o κ r next Q ho h hk hn
  unfold opK at hk
  rw [ho] at hk
  simp only at hk
  split at hk
  · rename_i e n xs k i ht hx hy
    split at hk
    · rename_i hne
      obtain ⟨hu, hto⟩ := und_slice hT ht
      obtain ⟨h0, d, hd, hk⟩ := atK_some hk
      have hyv := h.get y
      rw [hy] at hyv
      simp only [RV, Rd] at hyv
      have hxv := h.data hx
      simp only [Rd] at hxv
      obtain ⟨ad, len, cap, he, h1, h2, h3, h4⟩ := hxv
      have hlt : i.toNat < xs.length := (List.getElem?_eq_some_iff.1 hd).1
      cases ad with
      | none =>
        have := h3 rfl
        omega
      | some p =>
        have hrd := RdE_get _ _ _ _ _ _ _ _ (h4 p rfl) hd
        refine wp_val (v := .pointer (some (p.add (i.toNat * T.sz e)))) (w' := w) ?_ (hn γ w _ _ (h.put o.dst ?_) hk)
        · simp only [execOp, ho, he, hyv, Instr.indexAt, asIntOf, Sem.run_bind, run_underlying hu, Result.andThen_ok, Sem.run_pure, Sem.run_ite, run_size hT w hto]
          rw [if_pos ⟨h0, by omega⟩]
          rfl
        · simp only [RV, Rd]
          refine ⟨_, rfl, (RdC_shift ..).2 ?_⟩
          rw [← hne]
          simpa using hrd.2
    · simp at hk
  · rename_i m e cs k i ht hx hy
    split at hk
    · rename_i hfit
      obtain ⟨hu, hto⟩ := und_arr hT ht
      have hyv := h.get y
      rw [hy] at hyv
      simp only [RV, Rd] at hyv
      have hxv := h.data hx
      simp only [Rd] at hxv
      obtain ⟨p, he, hrd⟩ := hxv
      refine wp_val (v := .pointer (some (p.add (i.toNat * T.sz e)))) (w' := w) ?_ (hn γ w _ _ (h.put o.dst ?_) hk)
      · simp only [execOp, ho, he, hyv, Instr.indexAt, Instr.sureAddr, asIntOf, Sem.run_bind, run_underlying hu, Result.andThen_ok, Sem.run_pure, Sem.run_ite, run_size hT w hto]
        rw [if_pos ⟨hfit.1, hfit.2.1⟩]
        rfl
      · simp only [RV, Rd]
        refine ⟨_, rfl, (RdC_shift ..).2 ?_⟩
        have hle : i.toNat * T.sz e ≤ cs.length := by
          rw [← hfit.2.2.1]
          exact Nat.mul_le_mul_right _ (by omega)
        simpa using RdC_drop _ _ _ _ _ _ hle hrd
    · simp at hk
  · simp at hk

theorem owes_index (t : TypeId) (x y : Operand) : Owes P T E (fun o => o.op = .index t x y) := by
  intro R N X w0 w γ s a o κ r next Q ho h hk hn
  unfold opK at hk
  rw [ho] at hk
  simp only at hk
  split at hk
  · rename_i l k i ht hx hy
    obtain ⟨h0, b, hb, hk⟩ := atK_some hk
    have hyv := h.get y
    rw [hy] at hyv
    simp only [RV, Rd] at hyv
    have hxv := h.get x
    rw [hx] at hxv
    simp only [RV, Rd] at hxv
    have hu := und_str hT ht
    have hs : (⟨l.toArray⟩ : ByteArray)[i.toNat]? = some b := by
      have hlt := (List.getElem?_eq_some_iff.1 hb).1
      have hlt' : i.toNat < (⟨l.toArray⟩ : ByteArray).size := hlt
      rw [getElem?_pos (⟨l.toArray⟩ : ByteArray) i.toNat hlt']
      have hl : ∀ h, l[i.toNat]'h = b := fun h => (List.getElem?_eq_some_iff.1 hb).2
      simp [ByteArray.getElem_eq_getElem_data, hl]
    refine wp_val (v := .int .u8 b.toNat) (w' := w) ?_ (hn γ w _ _ (h.put o.dst (by simp only [RV, encB, Rd])) hk)
    simp only [execOp, ho, hxv, hyv, Instr.index, asIntOf, Sem.run_bind, run_underlying hu, Result.andThen_ok, Sem.run_pure]
    rw [if_pos h0, hs]
    rfl
  · simp at hk

theorem owes_slice (t : TypeId) (x : Operand) (lo hi mx : Option Operand) : Owes P T E (fun o => o.op = .slice t x lo hi mx) := by
  intro R N X w0 w γ s a o κ r next Q ho h hk hn
  unfold opK at hk
  rw [ho] at hk
  simp only at hk
  split at hk
  · rename_i l ht hx
    obtain ⟨i, hk, hlo⟩ := bound_ok h hk
    obtain ⟨j, hk, hhi⟩ := bound_ok h hk
    obtain ⟨h0, h1, h2, hk⟩ := cutK_some hk
    have hxv := h.data hx
    simp only [Rd] at hxv
    have hu := und_str hT ht
    refine wp_val (v := .string ⟨((l.take j.toNat).drop i.toNat).toArray⟩) (w' := w) ?_ (hn γ w _ _ (h.put o.dst (by simp only [RV, Rd])) hk)
    have hb := run_bounds (P := P) w false (⟨l.toArray⟩ : ByteArray).size (⟨l.toArray⟩ : ByteArray).size (Nat.le_refl _) (lo.map a.eval) (hi.map a.eval) i j hlo hhi h0 h1 h2
    simp only [execOp, ho, hxv, Instr.sliceAt, Instr.slice, Sem.run_bind, run_underlying hu, Result.andThen_ok, Option.map_none, Option.isSome_none, Bool.false_eq_true, if_false, hb, Sem.run_pure]
    congr 3
    apply ByteArray.ext
    simp only [ByteArray.data_extract, List.extract_toArray, List.extract_eq_take_drop]
    rw [List.drop_take]
  · rename_i e n xs ht hx
    split at hk
    · rename_i hne
      obtain ⟨i, hk, hlo⟩ := bound_ok h hk
      obtain ⟨j, hk, hhi⟩ := bound_ok h hk
      obtain ⟨h0, h1, h2, hk⟩ := cutK_some hk
      have hxv := h.data hx
      simp only [Rd] at hxv
      obtain ⟨ad, len, cap, he, h5, h6, h7, h8⟩ := hxv
      subst h5
      obtain ⟨hu, hto⟩ := und_slice hT ht
      have hb := run_bounds (P := P) w true xs.length cap h6 (lo.map a.eval) (hi.map a.eval) i j hlo hhi h0 h1 h2
      refine wp_val (v := .slice (if cap = i.toNat then ad else ad.map (·.add (i.toNat * T.sz e))) (j.toNat - i.toNat) (cap - i.toNat)) (w' := w) ?_ (hn γ w _ _ (h.put o.dst ?_) hk)
      · simp only [execOp, ho, he, Instr.sliceAt, Instr.slice, Sem.run_bind, run_underlying hu, Result.andThen_ok, Option.map_none, hb, run_size hT w hto, Sem.run_pure]
      · simp only [RV, Rd]
        refine ⟨_, _, _, rfl, by simp; omega, by omega, fun hnone => ?_, fun p hp => ?_⟩
        · split at hnone
          · omega
          · cases ad with
            | none => have := h7 rfl; omega
            | some p => simp at hnone
        · split at hp
          · rename_i hc
            have : (xs.take j.toNat).drop i.toNat = [] := by
              apply List.drop_eq_nil_of_le
              simp
              omega
            rw [this]
            simp only [RdE]
          · cases ad with
            | none => simp at hp
            | some q =>
              simp at hp
              subst hp
              rw [RdE_shift, ← hne]
              have h9 := RdE_take _ _ _ _ _ _ j.toNat (h8 q rfl)
              have h10 := RdE_drop _ _ _ _ _ _ i.toNat (by simp; omega) h9
              simpa using h10
    · simp at hk
  · simp at hk

theorem owes_typeAssert (x : Operand) (t t2 : TypeId) (ok : Bool) : Owes P T E (fun o => o.op = .typeAssert x t t2 ok) := by
  intro R N X w0 w γ s a o κ r next Q ho h hk hn
  unfold opK at hk
  rw [ho] at hk
  simp only at hk
  split at hk
  · simp at hk
  · simp at hk
  · rename_i t' dx hx hif hot
    have hot' : T.td t2 ≠ .other := hot
    obtain ⟨d, hd, hda⟩ := und_agg hT hot'
    have hne : ∀ ms, d ≠ .interface ms := by
      rintro ms rfl
      have := hT.td t2
      unfold tdOk at this
      split at this <;> rename_i e <;> (try simp [hd] at this)
      · exact hif _ e
      · exact hot' e
    have hxv := h.get x
    rw [hx] at hxv
    simp only [RV, Rd] at hxv
    obtain ⟨y, he, hy⟩ := hxv
    have hr1 : ∀ (b : Bool), t' = t2 → (Instr.typeAssert (.iface t' y) t t2 b).run P w = .ok (if b then .tuple #[y, .bool true] else y) w := by
      intro b e
      unfold Instr.typeAssert
      simp only [Sem.run_bind, run_underlying hd, Result.andThen_ok]
      cases d <;> first | exact absurd rfl (hne _) | (simp only [if_pos e]; cases b <;> rfl)
    have hr2 : ¬ t' = t2 → (Instr.typeAssert (.iface t' y) t t2 true).run P w = ((zeroValue t2).run P w).andThen fun z w => .ok (.tuple #[z, .bool false]) w := by
      intro e
      unfold Instr.typeAssert
      simp only [Sem.run_bind, run_underlying hd, Result.andThen_ok]
      cases d <;> first | exact absurd rfl (hne _) | (simp only [if_neg e, if_true, Sem.run_bind]; rfl)
    split at hk
    · rename_i hok
      split at hk
      · rename_i e
        refine wp_val (v := .tuple #[y, .bool true]) (w' := w) ?_ (hn γ w _ _ (h.put o.dst ?_) hk)
        · simp only [execOp, ho, he, Sem.run_bind, hr1 _ e, hok, if_true, Result.andThen_ok, Sem.run_pure]
        · simp only [RV]
          exact ⟨[y, .bool true], rfl, by simp only [RVL, RV, Rd]; exact ⟨_, _, rfl, hy, _, _, rfl, rfl, rfl⟩⟩
      · rename_i e
        obtain ⟨z, hz, hzl, hzn, hza, hzs⟩ := run_zero hT w hot'
        refine wp_val (v := .tuple #[z, .bool false]) (w' := w) ?_ (hn γ w _ _ (h.put o.dst ?_) hk)
        · simp only [execOp, ho, he, Sem.run_bind, hok, hr2 e, hz, Result.andThen_ok, Sem.run_pure]
        · have hzr := (zeroL_rd (all γ N s.o) w _ _ hzl).1
          simp only [RV]
          refine ⟨[z, .bool false], rfl, ?_⟩
          simp only [RVL, RV]
          refine ⟨_, _, rfl, ?_, _, _, rfl, by simp only [Rd], rfl⟩
          unfold valD
          cases ha : (T.td t2).agg with
          | true =>
            obtain ⟨us, rfl⟩ := hza ha
            simp only [if_true, Rd]
            exact ⟨us.toList, by simp, by simpa [Value.cells] using hzr⟩
          | false =>
            rw [hzs ha] at hzr
            have hl := RdL_length hzr
            match hT0 : T.zero t2, hl with
            | [c], _ =>
              rw [hT0] at hzr
              simp only [RdL] at hzr
              obtain ⟨u, us', e1, h1, _⟩ := hzr
              simp at e1
              rw [e1.1]
              simpa using h1
            | [], hl => simp at hl
            | _ :: _ :: _, hl => simp at hl
    · rename_i hok
      split at hk
      · rename_i e
        refine wp_val (v := y) (w' := w) ?_ (hn γ w _ _ (h.put o.dst (by simpa only [RV] using hy)) hk)
        simp only [execOp, ho, he, Sem.run_bind, hr1 _ e, if_neg hok, Result.andThen_ok, Sem.run_pure]
      · simp at hk
  · simp at hk

end
end Go.Ab
