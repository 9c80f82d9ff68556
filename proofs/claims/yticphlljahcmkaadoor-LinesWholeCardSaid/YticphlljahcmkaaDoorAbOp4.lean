/- One text of a proof that a law of this seat says true for every input: an evaluator of code over data, and that it tells the truth. It holds of the given program under the conditions that the row prints. -/
import Derived.Test.YticphlljahcmkaaDoorAbOp3
set_option linter.unusedVariables false
namespace Go.Ab

theorem run_mapM_list {P : Program} {α β : Type} (f : α → Sem β) (g : α → β) (w : World) : ∀ xs : List α, (∀ a ∈ xs, (f a).run P w = .ok (g a) w) → (xs.mapM f).run P w = .ok (xs.map g) w
  | [], _ => by simp
  | x :: xs, h => by
    have ih := run_mapM_list f g w xs fun a ha => h a (by simp [ha])
    rw [List.mapM_cons]
    simp only [Sem.run_bind, h x (by simp), Result.andThen_ok, ih, Sem.run_pure, List.map_cons]
theorem run_mapM {P : Program} {α β : Type} (f : α → Sem β) (g : α → β) (w : World) (xs : Array α) (h : ∀ a ∈ xs.toList, (f a).run P w = .ok (g a) w) : (xs.mapM f).run P w = .ok (xs.map g) w := by
  rw [Array.mapM_eq_mapM_toList]
  simp only [Sem.run_map, run_mapM_list f g w xs.toList h, Result.andThen_ok]
  congr 1
  apply Array.toList_inj.1
  simp

theorem RVL_set' {γ : Gam} {o : Obs} {M : Mut} {w : World} : ∀ {vs : List AV} {us : List Value} {cs : List AV} {arr : List Value} (off : Nat), RVL γ o M w vs us → RVL γ o M w cs arr → RVL γ o M w (setCells cs off vs) ((us.zipIdx).foldl (fun a p => a.set (off + p.2) p.1) arr) := by
  intro vs us cs arr off hv hc
  have key : ∀ (vs : List AV) (us : List Value) (cs : List AV) (arr : List Value) (k : Nat), RVL γ o M w vs us → RVL γ o M w cs arr → RVL γ o M w (setCells cs (off + k) vs) ((us.zipIdx k).foldl (fun a p => a.set (off + p.2) p.1) arr) := by
    intro vs
    induction vs with
    | nil =>
      intro us cs arr k hv hc
      simp only [RVL] at hv
      subst hv
      simpa [setCells] using hc
    | cons v vs ih =>
      intro us cs arr k hv hc
      simp only [RVL] at hv
      obtain ⟨u, us', rfl, h1, h2⟩ := hv
      simp only [setCells, List.zipIdx_cons, List.foldl_cons]
      exact ih us' _ _ (k + 1) h2 (RVL_set h1 (off + k) hc)
  simpa using key vs us cs arr 0 hv hc

theorem foldl_set_array (us : Array Value) (off : Nat) (arr : Array Value) : (us.zipIdx.foldl (fun cs (c, j) => cs.setIfInBounds (off + j) c) arr).toList = (us.toList.zipIdx).foldl (fun a p => a.set (off + p.2) p.1) arr.toList := by
  rw [← Array.foldl_toList, Array.toList_zipIdx]
  generalize us.toList.zipIdx = l
  induction l generalizing arr with
  | nil => rfl
  | cons p l ih =>
    simp only [List.foldl_cons]
    rw [ih]
    simp

theorem foldl_set_list : ∀ (us l : List Value) (off k : Nat), off + k + us.length ≤ l.length → (us.zipIdx k).foldl (fun a p => a.set (off + p.2) p.1) l = l.take (off + k) ++ us ++ l.drop (off + k + us.length)
  | [], l, off, k, h => by simp
  | u :: us, l, off, k, h => by
    simp only [List.length_cons] at h
    simp only [List.zipIdx_cons, List.foldl_cons]
    rw [foldl_set_list us (l.set (off + k) u) off (k + 1) (by simp; omega)]
    have h1 : (l.set (off + k) u).take (off + (k + 1)) = l.take (off + k) ++ [u] := by
      rw [show off + (k + 1) = off + k + 1 from by omega, List.take_succ_eq_append_getElem (by simp; omega)]
      simp [List.take_set_of_le]
    have h2 : (l.set (off + k) u).drop (off + (k + 1) + us.length) = l.drop (off + k + (us.length + 1)) := by
      rw [List.drop_set_of_lt (by omega)]
      congr 1
      omega
    rw [h1, h2]
    simp

theorem fill_range (n : Nat) : ∀ (vs : List Value) (k : Nat) (arr : Array Value), arr.size = (k + vs.length) * n → (∀ v ∈ vs, v.cells.size = n) →
    ∃ arr', Instr.fill (fun i => some (i * n, n)) arr ((vs.zipIdx k).map fun p => (p.2, p.1)) = some arr' ∧ arr'.toList = arr.toList.take (k * n) ++ vs.flatMap (·.cells.toList)
  | [], k, arr, h, _ => by
    refine ⟨arr, rfl, ?_⟩
    simp only [List.length_nil, Nat.add_zero] at h
    rw [List.take_of_length_le (by simp; omega)]
    simp
  | v :: vs, k, arr, h, hv => by
    have hvn := hv v (by simp)
    simp only [List.length_cons] at h
    have hle : k * n + n ≤ arr.size := by
      rw [h, Nat.add_mul, Nat.add_mul]
      omega
    obtain ⟨arr', e, h'⟩ := fill_range n vs (k + 1) (v.cells.zipIdx.foldl (fun cs (c, j) => cs.setIfInBounds (k * n + j) c) arr) (by
      have : (v.cells.zipIdx.foldl (fun cs (c, j) => cs.setIfInBounds (k * n + j) c) arr).toList.length = arr.toList.length := by
        rw [foldl_set_array]
        have := foldl_set_list v.cells.toList arr.toList (k * n) 0 (by simp; omega)
        rw [this]
        simp
        omega
      have h3 : (v.cells.zipIdx.foldl (fun cs (c, j) => cs.setIfInBounds (k * n + j) c) arr).size = arr.size := by simpa only [Array.length_toList] using this
      rw [h3, h, show k + 1 + vs.length = k + (vs.length + 1) from by omega]) fun u hu => hv u (by simp [hu])
    refine ⟨arr', ?_, ?_⟩
    · simp only [List.zipIdx_cons, List.map_cons, Instr.fill]
      rw [if_neg]
      · exact e
      · simp only [Bool.or_eq_true, decide_eq_true_eq, not_or]
        exact ⟨by simp [hvn], by omega⟩
    · rw [h', foldl_set_array]
      have := foldl_set_list v.cells.toList arr.toList (k * n) 0 (by simp; omega)
      rw [this]
      simp only [Nat.add_zero, List.flatMap_cons]
      rw [show (k + 1) * n = k * n + v.cells.toList.length from by simp [hvn, Nat.add_mul]]
      have hl : (arr.toList.take (k * n)).length = k * n := by simp; omega
      rw [List.append_assoc, List.take_append, hl, List.take_of_length_le (by omega), Nat.add_sub_cancel_left, List.take_append, List.take_of_length_le (Nat.le_refl _), Nat.sub_self]
      simp

theorem D_cells {M : Mut} {w : World} {x : D} {u : Value} (h : Rd M w x u) (hc : x.cells.all D.cell = true) : RdL M w x.cells u.cells.toList := by
  have one : x.cells = [x] → RdL M w x.cells u.cells.toList := by
    intro e
    rw [e] at hc ⊢
    simp only [List.all_cons, List.all_nil, Bool.and_true] at hc
    have h1 : u.oneCell' = true := cell_one (γ := fun _ => ⟨none, 0, .slice none 0 0⟩) (o := []) (M := M) (w := w) (v := .d x) (fun k n xs hl => by simp [lookup] at hl) (by simpa only [RV] using h) hc
    have : u.cells = #[u] := by cases u <;> simp_all [Value.oneCell', Value.cells]
    rw [this]
    simp only [RdL]
    exact ⟨u, [], rfl, h, rfl⟩
  cases x with
  | st cs =>
    simp only [Rd] at h
    obtain ⟨us, rfl, h⟩ := h
    simpa [D.cells, Value.cells] using h
  | v y => exact one rfl
  | s l => exact one rfl
  | sl n xs => exact one rfl
  | ptr cs => exact one rfl
  | ifc t y => exact one rfl
  | fn f as bs => exact one rfl
  | «at» p o => exact one rfl

theorem flat_vals {M : Mut} {w : World} : ∀ {xs : List D} {us : List Value}, RdL M w xs us → (∀ x ∈ xs, x.cells.all D.cell = true) → RdL M w (flat xs) (us.flatMap (·.cells.toList))
  | [], us, h, _ => by
    simp only [RdL] at h
    subst h
    simp [flat, RdL]
  | x :: xs, us, h, hc => by
    simp only [RdL] at h
    obtain ⟨u, us', rfl, h1, h2⟩ := h
    simp only [flat, List.flatMap_cons]
    exact RdL_append (D_cells h1 (hc x (by simp))) (flat_vals h2 fun y hy => hc y (by simp [hy]))

section
variable {P : Program} {T : Ctx} (hT : TOk P T) (E : Abs)
theorem fill_ok {N X : Mut} {w0 w : World} {γ : Gam} {s : St} {a : Act} (h : SR T N w0 X γ w s a) {fs : List (TypeId × Nat)} (place : Nat → Option (Nat × Nat)) (hplace : ∀ (i : Nat) (ft : TypeId) (off : Nat), fs[i]? = some (ft, off) → place i = some (off, T.sz ft)) :
    ∀ (parts : List (Nat × Operand)) (cs cs' : List AV) (arr : Array Value), RVL γ s.o (all γ N s.o) w cs arr.toList → opK.buildK T s fs parts cs = some cs' →
      ∃ arr', Instr.fill place arr (parts.map fun p => (p.1, a.eval p.2)) = some arr' ∧ RVL γ s.o (all γ N s.o) w cs' arr'.toList
  | [], cs, cs', arr, hc, hb => by
    simp only [opK.buildK, Option.some.injEq] at hb
    subst hb
    exact ⟨arr, rfl, hc⟩
  | (i, x) :: r, cs, cs', arr, hc, hb => by
    simp only [opK.buildK] at hb
    split at hb
    · rename_i ft off hi
      split at hb
      · rename_i vs hvs
        split at hb
        · rename_i hfit
          obtain ⟨h1, _⟩ := cells_ok h.owns (nilfix_ok (T := T) ft (h.get x)) hvs
          have hl1 := RVL_length h1
          have hl2 := RVL_length hc
          obtain ⟨arr', e, h'⟩ := fill_ok h place hplace r _ cs' ((a.eval x).cells.zipIdx.foldl (fun cs (c, j) => cs.setIfInBounds (off + j) c) arr) (by
            rw [foldl_set_array]
            exact RVL_set' off h1 hc) hb
          refine ⟨arr', ?_, h'⟩
          simp only [List.map_cons, Instr.fill, hplace i ft off hi]
          rw [if_neg]
          · exact e
          · simp at hl1 hl2
            simp only [Bool.or_eq_true, decide_eq_true_eq, not_or]
            constructor
            · rw [hl1, hfit.1]; simp
            · rw [hl1, hl2]; omega
        · simp at hb
      · simp at hb
    · simp at hb

include hT

theorem owes_build (t : TypeId) (parts : Array (Nat × Operand)) : Owes P T E (fun o => o.op = .build t parts) := by
  intro R N X w0 w γ s a o κ r next Q ho h hk hn
  unfold opK at hk
  rw [ho] at hk
  simp only at hk
  split at hk
  · rename_i fs ht
    obtain ⟨fa, hu, hf⟩ := run_fields hT ht w
    split at hk
    · rename_i cs hcs
      obtain ⟨z, hz, hzl, hzn, hza, hzs⟩ := run_zero hT w (t := t) (by rw [ht]; simp)
      have hfall : ∀ f ∈ fa.toList, T.td f.type ≠ .other := by
        intro f hfm
        obtain ⟨i, hi⟩ := List.getElem?_of_mem hfm
        have := hT.td t
        unfold tdOk at this
        rw [ht] at this
        obtain ⟨fa', ha', e', hff⟩ := this
        rw [hu] at ha'
        injection ha' with ha'
        injection ha' with ha'
        subst ha'
        exact (hff (f.type, f.offset) (by rw [← e']; exact List.mem_map.2 ⟨f, hfm, rfl⟩)).1
      have hplaces : (fa.mapM fun f => (do pure (f.offset, ← sizeOf f.type) : Sem (Nat × Nat))).run P w = .ok (fa.map fun f => (f.offset, T.sz f.type)) w := by
        refine run_mapM _ _ w fa fun f hfm => ?_
        simp only [Sem.run_bind, run_size hT w (hfall f hfm), Result.andThen_ok, Sem.run_pure]
      obtain ⟨arr', e, h'⟩ := fill_ok h ((fa.map fun f => (f.offset, T.sz f.type))[·]?) (fun i ft off hi => by
        obtain ⟨f, hfi, h1, h2, _⟩ := hf i ft off hi
        simp [hfi, h1, h2]) parts.toList _ cs z.cells (RVL_data.2 (zeroL_rd _ _ _ _ hzl).1) hcs
      refine wp_val (v := .agg arr') (w' := w) ?_ (hn γ w _ _ (h.put o.dst ?_) hk)
      · simp only [execOp, ho, Instr.build, Sem.run_bind, hz, Result.andThen_ok, run_underlying hu, hplaces, Array.toList_map]
        have : (List.map (fun (x : Nat × Operand) => match x with | (i, x) => (i, a.eval x)) parts.toList) = parts.toList.map fun p => (p.1, a.eval p.2) := rfl
        rw [this, e]
        rfl
      · simp only [RV]
        exact ⟨arr'.toList, by simp, h'⟩
    · simp at hk
  · simp at hk


theorem owes_buildSlice (t : TypeId) (len : Nat) (parts : Array (Nat × Operand)) : Owes P T E (fun o => o.op = .buildSlice t len parts) := by
  intro R N X w0 w γ s a o κ r next Q ho h hk hn
  unfold opK at hk
  rw [ho] at hk
  simp only at hk
  split at hk
  · rename_i e ht
    obtain ⟨hu, hto⟩ := und_slice hT ht
    split at hk
    · rename_i xs hxs
      split at hk
      · rename_i hfit
        have hvs : RVL γ s.o (all γ N s.o) w (parts.toList.map fun p => nilfix T e (s.get T p.2)) (parts.toList.map fun p => a.eval p.2) := by
          generalize parts.toList = l
          induction l with
          | nil => simp [RVL]
          | cons p l ih =>
            simp only [List.map_cons, RVL]
            exact ⟨_, _, rfl, nilfix_ok (T := T) e (h.get p.2), ih⟩
        have hrd := datas_ok h.inv _ _ _ hvs hxs
        have hlen : parts.toList.length = len := by
          have := congrArg List.length hfit.1
          simpa using this
        have hxl : xs.length = len := by
          have := RdL_length hrd
          simp at this hlen
          omega
        obtain ⟨z, hz, hzl, hzn, hza, hzs⟩ := run_zero hT w hto
        have hparts : (parts.map fun (i, x) => (i, a.eval x)).toList = ((parts.toList.map fun p => a.eval p.2).zipIdx 0).map fun p => (p.2, p.1) := by
          have hi : parts.toList.map (·.1) = List.range parts.toList.length := by rw [hfit.1, hlen]
          simp only [Array.toList_map]
          apply List.ext_getElem?
          intro j
          simp only [List.getElem?_map, List.getElem?_zipIdx]
          cases hj : parts.toList[j]? with
          | none => simp
          | some p =>
            have h1 : (parts.toList.map (·.1))[j]? = some p.1 := by simp [List.getElem?_map, hj]
            rw [hi, List.getElem?_range (by exact (List.getElem?_eq_some_iff.1 hj).1)] at h1
            simp at h1
            simp [h1]
        obtain ⟨c, hc⟩ : ∃ c : Array Value, c = if len * T.sz e = 0 then #[] else z.cells := ⟨_, rfl⟩
        have main : (∀ x ∈ xs, x.cells.length = T.sz e) → (∀ x ∈ xs, x.cells.all D.cell = true) → ∃ arr' : Array Value, (execOp a.eval o).run P w = .ok (.value (.slice (some ⟨w.heap.size, 0, none⟩) len len)) (w.alloc (.cells arr' e)) ∧ RdL (all γ N s.o) w (flat xs) arr'.toList ∧ arr'.size = len * T.sz e := by
          intro hn1 hn2
          have hfl := flat_vals hrd hn2
          have hcs : ∀ v ∈ (parts.toList.map fun p => a.eval p.2), v.cells.size = T.sz e := by
            intro v hv
            obtain ⟨i, hi⟩ := List.getElem?_of_mem hv
            have hlt : i < xs.length := by
              have := (List.getElem?_eq_some_iff.1 hi).1
              rw [RdL_length hrd] at this
              exact this
            have hxi := List.getElem?_eq_getElem hlt
            obtain ⟨u, hu', hr⟩ := RdL_get hrd hxi
            rw [hi] at hu'
            injection hu' with hu'
            subst hu'
            have := RdL_length (D_cells hr (hn2 _ (List.getElem_mem hlt)))
            rw [hn1 _ (List.getElem_mem hlt)] at this
            simpa using this
          obtain ⟨arr', he, harr⟩ := fill_range (T.sz e) (parts.toList.map fun p => a.eval p.2) 0 ((Array.range (len * T.sz e)).map (c[· % c.size]!)) (by simp at hlen ⊢; rw [hlen]) hcs
          simp only [Nat.zero_mul, List.take_zero, List.nil_append] at harr
          refine ⟨arr', ?_, by rw [harr]; exact hfl, ?_⟩
          · simp only [execOp, ho, Instr.buildSlice, Sem.run_bind, run_underlying hu, Result.andThen_ok, run_size hT w hto, Sem.run_ite]
            rw [if_neg (by omega)]
            by_cases h0 : len * T.sz e = 0
            · rw [if_pos h0] at hc ⊢
              subst hc
              simp only [Result.andThen_ok, hparts, he, newRow, Sem.run_bind, run_newObj, Sem.run_pure]
              rfl
            · rw [if_neg h0] at hc ⊢
              subst hc
              simp only [Result.andThen_ok, hz, hparts, he, newRow, Sem.run_bind, run_newObj, Sem.run_pure]
              rfl
          · have := RdL_length hfl
            rw [flat_length _ xs hn1, ← harr, hxl] at this
            simpa using this
        split at hk
        · rename_i d hd
          have hx0 : xs = [] := List.eq_nil_of_length_eq_zero hxl
          subst hx0
          obtain ⟨arr', hrun, hfl, hsz⟩ := main (by simp) (by simp)
          have ha0 : arr'.toList = [] := by
            apply List.eq_nil_of_length_eq_zero
            simpa using hsz
          obtain ⟨γ', h'⟩ := h.newTok d (T.sz e) [] arr'.toList 0 e (Nat.le_refl _) (by rw [ha0]; simp) (by simp) (by simp [flat]) [] ⟨[], by rw [ha0]; rfl, by simp [flat, RdL]⟩
          refine wp_val hrun (hn γ' _ _ _ ?_ hk)
          rw [hd]
          simpa using h'
        · split at hk
          · rename_i hall
            have hall' : ∀ x ∈ xs, x.cells.length = T.sz e ∧ x.cells.all D.cell = true := by
              intro x hx
              have := List.all_eq_true.1 hall x hx
              simpa using this
            obtain ⟨arr', hrun, hfl, hsz⟩ := main (fun x hx => (hall' x hx).1) (fun x hx => (hall' x hx).2)
            have hw := h.world (Chg.alloc w (.cells arr' e))
            have hk' : Keep (all γ N s.o) (all γ N s.o) w (w.alloc (.cells arr' e)) := (Chg.alloc w _).keep (fun _ _ hf => hf.elim) fun _ _ _ hm => hm
            refine wp_val hrun (hn γ _ _ _ (hw.put o.dst ?_) hk)
            simp only [RV, Rd]
            refine ⟨⟨_, _, _, rfl, hxl, Nat.le_refl _, fun hf => by simp at hf, fun p hp => ?_⟩, _, _, rfl⟩
            injection hp with hp
            subst hp
            refine (RdE_flat ..).2 ⟨fun x hx => (hall' x hx).1, ?_⟩
            refine RdC_of _ _ (heap_alloc w _) (fun j => ?_) (flat xs) arr'.toList 0 ?_ ?_ fun i u hi => by simpa using hi
            · rintro (hm | ⟨p, hp, hpb, _⟩)
              · exact Nat.lt_irrefl _ (h.inv.old _ _ hm)
              · exact Nat.lt_irrefl _ (own_lt h.inv hp hpb)
            · exact RdL.keep hk' _ _ hfl
            · intro d hd
              obtain ⟨x, hx, hdx⟩ := List.mem_flatMap.1 hd
              have := (hall' x hx).2
              rw [List.all_eq_true] at this
              exact this d hdx
          · simp at hk
      · simp at hk
    · simp at hk
  · simp at hk

end
end Go.Ab
