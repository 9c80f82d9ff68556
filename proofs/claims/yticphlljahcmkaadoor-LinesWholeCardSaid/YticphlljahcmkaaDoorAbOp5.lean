/- One text of a proof that a law of this seat says true for every input: an evaluator of code over data, and that it tells the truth. It holds of the given program under the conditions that the row prints. -/
import Derived.Test.YticphlljahcmkaaDoorAbOp4
import Derived.Laws.BytesArg
import Derived.Deep.Upon
set_option linter.unusedVariables false
namespace Go.Ab

theorem flat_rdc {M : Mut} {w : World} {n : Nat} {xs : List D} {p : Addr} (h : RdE M w n xs p 0) : (∀ x ∈ xs, x.cells.length = n) ∧ (∀ d ∈ flat xs, d.cell = true) ∧ ∃ us : List Value, RdL M w (flat xs) us ∧ us.length = xs.length * n ∧ ∀ j u, us[j]? = some u → w.cell? (p.add j) = some u := by
  obtain ⟨h1, h2⟩ := (RdE_flat ..).1 h
  obtain ⟨us, h3, h4, h5⟩ := RdC_vals _ _ _ _ _ h2
  exact ⟨h1, RdC_cell _ _ _ _ _ h2, us, h3, by rw [h4, flat_length n xs h1], fun j u hu => by simpa using h5 j u hu⟩

theorem RdL_one {M : Mut} {w : World} : ∀ {ds : List D} {us : List Value}, RdL M w ds us → (∀ d ∈ ds, d.cell = true) → ∀ u ∈ us, u.oneCell' = true
  | [], us, h, _, u, hu => by
    simp only [RdL] at h
    subst h
    simp at hu
  | d :: ds, us, h, hc, u, hu => by
    simp only [RdL] at h
    obtain ⟨v, us', rfl, h1, h2⟩ := h
    rcases List.mem_cons.1 hu with rfl | hu
    · exact cell_one (γ := fun _ => ⟨none, 0, .slice none 0 0⟩) (o := []) (M := M) (w := w) (v := .d d) (fun k n xs hl => by simp [lookup] at hl) (by simpa only [RV] using h1) (hc d (by simp))
    · exact RdL_one h2 (fun e he => hc e (by simp [he])) u hu

/-- a slice's cells, loaded -/
theorem run_first {P : Program} {M : Mut} {w : World} {n : Nat} {xs : List D} {u : Value} (h : Rd M w (.sl n xs) u) :
    (Builtin.lenOf u).run P w = .ok xs.length w ∧ ∃ us : List Value, (Builtin.firstCells n xs.length u).run P w = .ok us.toArray w ∧ RdL M w (flat xs) us ∧ (∀ x ∈ xs, x.cells.length = n) ∧ (∀ d ∈ flat xs, d.cell = true) ∧ us.length = xs.length * n := by
  simp only [Rd] at h
  obtain ⟨a, len, cap, rfl, rfl, h1, h2, h3⟩ := h
  refine ⟨rfl, ?_⟩
  cases a with
  | none =>
    have := h2 rfl
    have hx : xs = [] := List.eq_nil_of_length_eq_zero (by omega)
    subst hx
    exact ⟨[], rfl, by simp [flat, RdL], by simp, by simp [flat], by simp⟩
  | some p =>
    obtain ⟨h4, h5, us, h6, h7, h8⟩ := flat_rdc (h3 p rfl)
    refine ⟨us, ?_, h6, h4, h5, h7⟩
    simp only [Builtin.firstCells]
    rw [← h7]
    exact run_loadCells_list w p us h8

theorem slicecap (need old : Nat) (h : old < need) (hn : need ≤ lim) : Builtin.nextslicecap need old ≤ 8589934592 + 8589934592 := by
  unfold lim at hn
  unfold Builtin.nextslicecap
  split
  · omega
  · split
    · omega
    · simp only [Builtin.growBy]
      repeat' split
      all_goals omega


theorem src_sl {P : Program} {M : Mut} {w : World} {n : Nat} {ys : List D} {u : Value} {t' e' : TypeId} (hu : P.underlying t' = some (.slice e')) (h : Rd M w (.sl n ys) u) :
    ∃ us : List Value, Src P n t' u ys.length us w ∧ RdL M w (flat ys) us ∧ (∀ y ∈ ys, y.cells.length = n) ∧ (∀ d ∈ flat ys, d.cell = true) := by
  obtain ⟨hl, us, h1, h2, h3, h4, h5⟩ := run_first (P := P) h
  obtain ⟨_, us', h1', h2', _⟩ := run_first (P := P) (Rd.keep ((Chg.drew w).keep (M := M) (M' := M) (fun _ _ hf => hf.elim) fun _ _ _ hm => hm) _ _ h)
  have hlen : ∀ w' : World, (Builtin.lenOf u).run P w' = .ok ys.length w' := by
    intro w'
    simp only [Rd] at h
    obtain ⟨a, len, cap, rfl, rfl, _⟩ := h
    rfl
  have heq : (Builtin.firstCells n ys.length u).run P w.drew = .ok us.toArray w.drew := by
    simp only [Rd] at h
    obtain ⟨a, len, cap, rfl, rfl, h6, h7, h8⟩ := h
    cases a with
    | none =>
      simp only [Builtin.firstCells, Sem.run_pure] at h1 ⊢
      injection h1 with h1
      rw [h1]
    | some p =>
      have h9 := flat_rdc (h8 p rfl)
      obtain ⟨_, _, vs, h10, h11, h12⟩ := h9
      have e1 : (Builtin.firstCells n ys.length (.slice (some p) ys.length cap)).run P w = .ok vs.toArray w := by
        simp only [Builtin.firstCells]
        rw [← h11]
        exact run_loadCells_list w p vs h12
      have e2 : (Builtin.firstCells n ys.length (.slice (some p) ys.length cap)).run P w.drew = .ok vs.toArray w.drew := by
        simp only [Builtin.firstCells]
        rw [← h11]
        exact run_loadCells_list w.drew p vs h12
      rw [h1] at e1
      injection e1 with e1
      rw [e2, e1]
  exact ⟨us, ⟨.inl ⟨e', hu⟩, hlen, h1, heq, h5, RdL_one h2 h4⟩, h2, h3, h4⟩

theorem encB_rd (M : Mut) (w : World) : ∀ l : List UInt8, RdL M w (flat (l.map encB)) (l.map fun b => Value.int .u8 b.toNat) ∧ (∀ y ∈ l.map encB, y.cells.length = 1) ∧ (∀ d ∈ flat (l.map encB), d.cell = true)
  | [] => by simp [flat, RdL]
  | b :: l => by
    obtain ⟨h1, h2, h3⟩ := encB_rd M w l
    refine ⟨?_, ?_, ?_⟩
    · simp only [List.map_cons, flat, List.flatMap_cons, encB, D.cells, List.cons_append, List.nil_append, RdL, Rd]
      exact ⟨_, _, rfl, rfl, h1⟩
    · intro y hy
      simp only [List.map_cons, List.mem_cons] at hy
      rcases hy with rfl | hy
      · rfl
      · exact h2 y hy
    · intro d hd
      simp only [List.map_cons, flat, List.flatMap_cons, List.mem_append] at hd
      rcases hd with hd | hd
      · simp only [encB, D.cells, List.mem_cons, List.not_mem_nil, or_false] at hd
        subst hd
        rfl
      · exact h3 d hd

theorem src_s {P : Program} {w : World} {l : List UInt8} {t' : TypeId} (hu : P.underlying t' = some .string) :
    Src P 1 t' (.string ⟨l.toArray⟩) (l.map encB).length (l.map fun b => Value.int .u8 b.toNat) w := by
  have := Src.ofString (P := P) w hu ⟨l.toArray⟩
  have e1 : byteCells ⟨l.toArray⟩ = l.map fun b => Value.int .u8 b.toNat := by simp [byteCells]
  have e2 : (⟨l.toArray⟩ : ByteArray).size = (l.map encB).length := by simp [ByteArray.size]
  rw [e1, e2] at this
  exact this

section
variable {P : Program} {T : Ctx} (hT : TOk P T) (E : Abs)
include hT

/-- append to a slice of the frame's own. -/
theorem run_append {N X : Mut} {w0 w : World} {γ : Gam} {s : St} {a : Act} (h : SR T N w0 X γ w s a) {t t' e : TypeId} {k : Id} {n : Nat} {xs ys : List D} {y : Value} {us : List Value} (ht : T.td t = .slice e) (hl : lookup k s.o = some (.tok n xs)) (hne : n = T.sz e) (hle : xs.length + ys.length ≤ lim)
    (hs : Src P n t' y ys.length us w) (hus : RdL (all γ N s.o) w (flat ys) us) (hy : ∀ y ∈ ys, y.cells.length = n) (hyq : ∀ d ∈ flat ys, d.cell = true) (ty : TypeId) :
    ∃ w' γ', (Builtin.append_ #[t, t'] ty #[tokVal (γ k) xs.length, y]).run P w = .ok (tokVal (γ' k) (xs ++ ys).length) w' ∧ SR T N w0 X γ' w' ⟨subL (shutO k n xs) (dropR k) s.t, update k (.tok n (xs ++ ys)) (subO (shutO k n xs) (dropR k) s.o)⟩ a := by
  obtain ⟨hu, hto⟩ := und_slice hT ht
  obtain ⟨i, z, hi, hsz, hby, hz, hzl, hzn, hza, hzs⟩ := hT.info e hto
  have hisz : i.size = n := by rw [hsz, hne]
  have hro := h.inv.obs _ (lookup_mem hl)
  simp only [RO] at hro
  have hrd := tok_rd h.inv hl
  obtain ⟨base, cap, hv, hcap⟩ : ∃ base cap, tokVal (γ k) xs.length = .slice base xs.length cap ∧ xs.length ≤ cap := by
    simp only [Rd] at hrd
    obtain ⟨a, len, cap, e1, rfl, h1, _⟩ := hrd
    exact ⟨a, cap, e1, h1⟩
  rcases Nat.lt_or_ge cap (xs.length + ys.length) with hgt | hfit
  · -- a new block
    rw [hv] at hrd
    have hrd' := Rd.keep ((Chg.drew w).keep (M := all γ N s.o) (M' := all γ N s.o) (fun _ _ hf => hf.elim) fun _ _ _ hm => hm) _ _ hrd
    obtain ⟨_, old, ho1, ho2, ho3, ho4, ho5⟩ := run_first (P := P) hrd'
    obtain ⟨_, old', ho1', ho2', _⟩ := run_first (P := P) hrd
    have hlim : lim = 4294967296 := rfl
    have hgc : xs.length + ys.length ≤ grownCap w (xs.length + ys.length) cap e := by
      unfold grownCap
      simp only [Question.cut]
      omega
    have hrun := run_append_grow_src w t t' ty e i z hu hi hz base xs.length cap old (by rw [hisz]; exact ho1) y ys.length us (by rw [hisz]; exact hs) hgt (by omega) (by
      have h1 := slicecap (xs.length + ys.length) cap hgt hle
      have h2 := Nat.mul_le_mul h1 hby
      omega)
    have hold : RdL (all γ N s.o) w (flat xs) old := by
      have hz : old = old' := by
        simp only [Rd] at hrd
        obtain ⟨ad, len, cap', e1, e2, h6, h7, h8⟩ := hrd
        injection e1 with e1 _ e3
        subst e1 e3
        cases base with
        | none =>
          simp only [Builtin.firstCells, Sem.run_pure] at ho1 ho1'
          injection ho1 with ho1
          injection ho1' with ho1'
          rw [ho1] at ho1'
          simpa using ho1'
        | some p =>
          obtain ⟨_, _, vs, h10, h11, h12⟩ := flat_rdc (h8 p rfl)
          have e3 : (Builtin.firstCells n xs.length (.slice (some p) xs.length cap)).run P w = .ok vs.toArray w := by
            simp only [Builtin.firstCells]
            rw [← h11]
            exact run_loadCells_list w p vs h12
          have e4 : (Builtin.firstCells n xs.length (.slice (some p) xs.length cap)).run P w.drew = .ok vs.toArray w.drew := by
            simp only [Builtin.firstCells]
            rw [← h11]
            exact run_loadCells_list w.drew p vs h12
          rw [e3] at ho1'
          rw [e4] at ho1
          injection ho1 with ho1
          injection ho1' with ho1'
          rw [ho1] at ho1'
          simpa using ho1'
      rw [hz]
      exact ho2'
    have hzc : z.cells.size = n := by
      have := RdL_length (zeroL_rd (all γ N s.o) w _ _ hzl).1
      rw [hzn, hne.symm] at this
      simpa using this
    have hrest : (Builtin.zeroCells z.cells (grownCap w (xs.length + ys.length) cap e - (xs.length + ys.length))).size = (grownCap w (xs.length + ys.length) cap e - (xs.length + ys.length)) * n := by
      simp [Builtin.zeroCells, hzc]
    obtain ⟨γ', h', hγ⟩ := h.growNew hl (grownCap w (xs.length + ys.length) cap e) e hgc ho3 hy ho4 hyq hold hus (rest := (Builtin.zeroCells z.cells (grownCap w (xs.length + ys.length) cap e - (xs.length + ys.length))).toList) (by
      rw [ho5, hs.newsLen, show (Builtin.zeroCells z.cells (grownCap w (xs.length + ys.length) cap e - (xs.length + ys.length))).toList.length = _ from hrest, ← Nat.add_mul, ← Nat.add_mul]
      congr 1
      omega)
    refine ⟨_, γ', ?_, h'⟩
    rw [hv, hrun, hγ]
    simp only [tokVal, List.length_append]
    congr 3
    apply Array.toList_inj.1
    simp
  · cases hb : (γ k).b with
    | none =>
      rw [hb] at hro
      obtain ⟨hr1, a0, l0, hval⟩ := hro
      have hv' : tokVal (γ k) xs.length = (γ k).val := by simp only [tokVal, hb]
      have hc0 : ys = [] ∧ cap = xs.length := by
        rw [hv', hval] at hv
        injection hv with _ h1 h2
        have : ys.length = 0 := by omega
        exact ⟨List.eq_nil_of_length_eq_zero this, by omega⟩
      obtain ⟨rfl, rfl⟩ := hc0
      have hus0 : us = [] := by
        have := hs.newsLen
        simp at this
        exact this
      subst hus0
      have hrun := run_append_nothing (P := P) w t t' ty e i hu hi base xs.length xs.length (Nat.le_refl _) y (by rw [hisz]; exact hs)
      refine ⟨w, upd γ k (γ k), ?_, ?_⟩
      · rw [hv, hrun, upd_same]
        simp only [List.append_nil, hv]
      · refine h.regrow hl [] (γ k) (Chg.refl (fun _ _ => False) w) (fun _ _ hf => hf.elim) (fun _ _ _ _ _ => rfl) (fun b hb' => by rw [hb] at hb'; simp at hb') fun o' hk _ => ?_
        simp only [RO, upd_same, hb, List.append_nil]
        exact ⟨Rd.keep hk _ _ hr1, a0, l0, hval⟩
    | some b =>
      have hv' : tokVal (γ k) xs.length = .slice (some ⟨b, 0, none⟩) xs.length (γ k).cap := by simp only [tokVal, hb]
      rw [hv'] at hv
      injection hv with hv1 _ hv3
      subst hv1 hv3
      rw [hb] at hro
      obtain ⟨arr, tyb, hh, hc1, hc2, hc3⟩ := hro
      obtain ⟨w', γ', hst, h', hγ⟩ := h.growIn P hl hb hfit hy hyq hus hs.one
      have hmul : xs.length * n + ys.length * n ≤ arr.size := by
        rw [← hc2, ← Nat.add_mul]
        exact Nat.mul_le_mul_right n hfit
      have hlen := hs.newsLen
      have hcell : ∀ j, j < us.length → (w.cell? ⟨b, xs.length * n + j, none⟩).isSome = true := by
        intro j hj
        have hlt : xs.length * n + j < arr.size := by omega
        have : w.cell? ⟨b, xs.length * n + j, none⟩ = some arr[xs.length * n + j] := by
          simp only [World.cell?, hh]
          simp [Array.getElem?_eq_getElem hlt]
        rw [this]
        rfl
      have hfz : ∀ j, w.frozen? ⟨b, j, none⟩ = false := fun j => by simp [World.frozen?, hh]
      have hroom := run_append_room_src w t t' ty e i hu hi b 0 xs.length (γ k).cap y ys.length us (by rw [hisz]; exact hs) hfit (fun j hj => by
        rw [hisz, Nat.zero_add]
        exact hcell j hj) (fun j hj => hfz _)
      have hst' := run_storeCells_cells (P := P) b (xs.length * n) us 0 w (fun j hj => hcell j hj) (fun j hj => hfz _) hs.one
      rw [add_plain, Nat.zero_add] at hst
      rw [hst] at hst'
      injection hst' with _ hst'
      refine ⟨w', γ', ?_, h'⟩
      rw [hv', hroom, hisz]
      simp only [tokVal, hγ, hb, List.length_append, Nat.zero_add, Nat.add_zero] at hst' ⊢
      rw [hst']

end
end Go.Ab
