/- One text of a proof that a law of this seat says true for every input: an evaluator of code over data, and that it tells the truth. It holds of the given program under the conditions that the row prints. -/
import Derived.Test.YticphlljahcmkaaDoorAbObj
set_option linter.unusedVariables false
namespace Go.Ab

theorem update_keys (id : Id) (x : Ob) : ∀ o : Obs, (update id x o).map (·.1) = o.map (·.1)
  | [] => rfl
  | (k, y) :: r => by
    simp only [update]
    split <;> simp [update_keys id x r]
theorem lookup_update_same {id : Id} (x : Ob) : ∀ {o : Obs} {y : Ob}, lookup id o = some y → lookup id (update id x o) = some x
  | [], y, h => by simp [lookup] at h
  | (k, z) :: r, y, h => by
    simp only [update, lookup] at h ⊢
    split
    · rename_i e
      simp [lookup, e]
    · rename_i e
      rw [if_neg e] at h
      simp only [lookup, if_neg e]
      exact lookup_update_same x h
theorem lookup_update_ne {id k : Id} (x : Ob) (hne : k ≠ id) : ∀ (o : Obs), lookup k (update id x o) = lookup k o
  | [] => rfl
  | (j, z) :: r => by
    simp only [update]
    split
    · rename_i e
      subst e
      simp only [lookup]
      rw [if_neg (Ne.symm hne), if_neg (Ne.symm hne)]
      exact lookup_update_ne x hne r
    · simp only [lookup]
      rw [lookup_update_ne x hne r]
theorem mem_update {id : Id} {x : Ob} {p : Id × Ob} : ∀ {o : Obs}, p ∈ update id x o → (p.1 = id ∧ p.2 = x) ∨ (p.1 ≠ id ∧ p ∈ o)
  | [], h => by simp [update] at h
  | (k, y) :: r, h => by
    simp only [update] at h
    split at h
    · rename_i e
      rcases List.mem_cons.1 h with e' | h
      · subst e'
        exact .inl ⟨e, rfl⟩
      · rcases mem_update h with h | h
        · exact .inl h
        · exact .inr ⟨h.1, List.mem_cons_of_mem _ h.2⟩
    · rename_i e
      rcases List.mem_cons.1 h with e' | h
      · subst e'
        exact .inr ⟨e, by simp⟩
      · rcases mem_update h with h | h
        · exact .inl h
        · exact .inr ⟨h.1, List.mem_cons_of_mem _ h.2⟩

/-- what lies in one cell is no row of cells -/
theorem cell_one {γ : Gam} {o : Obs} {M : Mut} {w : World} {v : AV} {u : Value} (hown : ∀ k n xs, lookup k o = some (.tok n xs) → (tokVal (γ k) xs.length).oneCell' = true) (h : RV γ o M w v u) (hc : v.cell = true) : u.oneCell' = true := by
  cases v with
  | d x =>
    cases x with
    | v y =>
      simp only [RV, Rd] at h
      subst h
      cases u <;> simp_all [AV.cell, D.cell, Value.oneCell']
    | s l => simp only [RV, Rd] at h; subst h; rfl
    | sl n xs => simp only [RV, Rd] at h; obtain ⟨a, l, c, rfl, _⟩ := h; rfl
    | st cs => simp [AV.cell, D.cell] at hc
    | ptr cs => simp only [RV, Rd] at h; obtain ⟨p, rfl, _⟩ := h; rfl
    | ifc t x => simp only [RV, Rd] at h; obtain ⟨p, rfl, _⟩ := h; rfl
    | fn f as bs => simp only [RV, Rd] at h; obtain ⟨xs, ys, rfl, _⟩ := h; rfl
    | «at» p o => simp only [RV, Rd] at h; obtain ⟨rfl, _⟩ := h; rfl
  | own k =>
    simp only [RV] at h
    obtain ⟨n, xs, hl, rfl⟩ := h
    exact hown k n xs hl
  | tight n xs =>
    simp only [RV] at h
    obtain ⟨_, a, l, rfl⟩ := h
    rfl
  | ref i off => simp only [RV] at h; obtain ⟨b, _, rfl⟩ := h; rfl
  | agg cs => simp [AV.cell] at hc
  | tup cs => simp [AV.cell] at hc
  | clo f as bs => simp only [RV] at h; obtain ⟨xs, ys, rfl, _⟩ := h; rfl
  | undef => simp [AV.cell] at hc

theorem SR.owns {T : Ctx} {N : Mut} {w0 : World} {X : Mut} {γ : Gam} {w : World} {s : St} {a : Act} (h : SR T N w0 X γ w s a) : ∀ k n xs, lookup k s.o = some (.tok n xs) → (tokVal (γ k) xs.length).oneCell' = true := by
  intro k n xs hl
  have := tok_rd h.inv hl
  simp only [Rd] at this
  obtain ⟨a, l, c, e, _⟩ := this
  rw [e]
  rfl

theorem heap_setCell_same (w : World) {b i : Nat} {arr : Array Value} {ty : TypeId} {fz : Nat × Nat} (u : Value) (h : w.heap[b]? = some (.cells arr ty fz)) :
    (w.setCell ⟨b, i, none⟩ u).heap[b]? = some (.cells (arr.setIfInBounds i u) ty fz) := by
  simp [World.setCell, Array.getElem?_modify, h]
theorem heap_setCell_ne (w : World) {b k i : Nat} (u : Value) (h : k ≠ b) : (w.setCell ⟨b, i, none⟩ u).heap[k]? = w.heap[k]? := by
  simp only [World.setCell, Array.getElem?_modify]
  rw [if_neg (by omega)]
theorem Chg.setCell (w : World) (b i : Nat) (u : Value) : Chg (fun n j => n = b ∧ j = i) w (w.setCell ⟨b, i, none⟩ u) := by
  refine ⟨rfl, rfl, rfl, by simp, fun n hn hx => heap_setCell_ne w u fun e => hx i ⟨e, rfl⟩, fun n j v hc hx => ?_⟩
  rw [World.cell?_setCell_other]
  · exact hc
  · intro e
    injection e with e1 e2
    exact hx ⟨e1.symm, e2.symm⟩

/-- One cell of a box is written: what it was told of holds on. -/
theorem SR.set_tr {T : Ctx} {N : Mut} {w0 : World} {X : Mut} {γ : Gam} {w : World} {s : St} {a : Act} (h : SR T N w0 X γ w s a) {id : Id} {cs : List AV} (hl : lookup id s.o = some (.box cs)) {b : Nat} (hb : (γ id).b = some b) (i : Nat) (v : AV) (u : Value) :
    Keep (all γ N s.o) (all γ N (update id (.box (cs.set i v)) s.o)) w (w.setCell ⟨b, i, none⟩ u) ∧ ∀ x y, RV γ s.o (all γ N s.o) w x y → RV γ (update id (.box (cs.set i v)) s.o) (all γ N (update id (.box (cs.set i v)) s.o)) (w.setCell ⟨b, i, none⟩ u) x y := by
  have hmem := lookup_mem hl
  have hk : Keep (all γ N s.o) (all γ N (update id (.box (cs.set i v)) s.o)) w (w.setCell ⟨b, i, none⟩ u) := by
    refine (Chg.setCell w b i u).keep (fun n j hx => .inr ⟨_, hmem, by rw [hb, hx.1], trivial⟩) ?_
    rintro n j _ (hm | ⟨p, hp, hpb, hm⟩)
    · exact .inl hm
    · rcases mem_update hp with ⟨e1, e2⟩ | ⟨_, hp⟩
      · exact .inr ⟨_, hmem, by simpa [e1] using hpb, trivial⟩
      · exact .inr ⟨p, hp, hpb, hm⟩
  refine ⟨hk, fun x y hx => RV.same (fun x u => Rd.keep hk x u) (fun k u' hv' => ?_) (fun i off u' hv' => by simpa only [RV] using hv') x y hx⟩
  simp only [RV] at hv' ⊢
  obtain ⟨n, xs, hlk, e⟩ := hv'
  refine ⟨n, xs, ?_, e⟩
  rw [lookup_update_ne _ (fun e => by subst e; rw [hl] at hlk; simp at hlk), hlk]

/-- One cell of a box is written. -/
theorem SR.set {T : Ctx} {N : Mut} {w0 : World} {X : Mut} {γ : Gam} {w : World} {s : St} {a : Act} (h : SR T N w0 X γ w s a) {id : Id} {cs : List AV} (hl : lookup id s.o = some (.box cs)) {b : Nat} (hb : (γ id).b = some b) (i : Nat) {v : AV} {u : Value} (hv : RV γ s.o (all γ N s.o) w v u) :
    SR T N w0 X γ (w.setCell ⟨b, i, none⟩ u) { s with o := update id (.box (cs.set i v)) s.o } a := by
  have hmem := lookup_mem hl
  have hown : ∀ n j, own γ (update id (.box (cs.set i v)) s.o) n j → own γ s.o n j := by
    rintro n j ⟨p, hp, hpb, hm⟩
    rcases mem_update hp with ⟨e1, e2⟩ | ⟨_, hp⟩
    · exact ⟨_, hmem, by simpa [e1] using hpb, trivial⟩
    · exact ⟨p, hp, hpb, hm⟩
  have ho : ∀ M' w' k u', RV γ s.o (all γ N s.o) w (.own k) u' → RV γ (update id (.box (cs.set i v)) s.o) M' w' (.own k) u' := by
    intro M' w' k u' hv'
    simp only [RV] at hv' ⊢
    obtain ⟨n, xs, hlk, e⟩ := hv'
    refine ⟨n, xs, ?_, e⟩
    rw [lookup_update_ne _ (fun e => by subst e; rw [hl] at hlk; simp at hlk), hlk]
  have hh := h.core (γ' := γ) (o' := update id (.box (cs.set i v)) s.o) (fo := .own) (fr := .ref) (Chg.setCell w b i u) (fun n j hx => ⟨_, hmem, by rw [hb, hx.1], trivial⟩) (fun n j _ hm => hown n j hm) (fun _ => ho _ _) (fun _ i off u' hv' => by simpa only [RV] using hv') fun hk => ⟨?_, ?_, ?_, fun n j hn => Nat.lt_of_lt_of_le (h.inv.old n j hn) (by simp), ?_⟩
  · rw [subL_id] at hh
    exact hh
  · rw [update_keys]
    exact h.inv.keys
  · intro p hp q hq n hpn hqn
    have key : ∀ p ∈ update id (.box (cs.set i v)) s.o, ∃ p' ∈ s.o, p'.1 = p.1 := by
      intro p hp
      rcases mem_update hp with ⟨e1, e2⟩ | ⟨_, hp⟩
      · exact ⟨_, hmem, e1.symm⟩
      · exact ⟨p, hp, rfl⟩
    obtain ⟨p', hp', e⟩ := key p hp
    obtain ⟨q', hq', e'⟩ := key q hq
    rw [← e, ← e']
    exact h.inv.apart p' hp' q' hq' n (by rw [e]; exact hpn) (by rw [e']; exact hqn)
  · intro p hp n hpn j hn
    rcases mem_update hp with ⟨e1, e2⟩ | ⟨_, hp⟩
    · exact h.inv.sep _ hmem n (by simpa [e1] using hpn) j hn
    · exact h.inv.sep p hp n hpn j hn
  · intro p hp
    have hd : ∀ x u', Rd (all γ N s.o) w x u' → Rd (all γ N (update id (.box (cs.set i v)) s.o)) (w.setCell ⟨b, i, none⟩ u) x u' := fun x u' => Rd.keep hk x u'
    rcases mem_update hp with ⟨e1, e2⟩ | ⟨hne, hp⟩
    · rw [e1, e2]
      obtain ⟨b', arr, ty, hb', hh, hvs⟩ := h.inv.obs _ hmem
      have hbb : b' = b := by
        have : some b' = some b := by rw [← hb', hb]
        injection this
      subst hbb
      refine ⟨b', _, ty, hb', heap_setCell_same w u hh, ?_⟩
      rw [Array.toList_setIfInBounds]
      exact RVL.same hd (ho _ _) (fun i off u' hv' => by simpa only [RV] using hv') _ _ (RVL_set hv i hvs)
    · have hne' : ∀ n, (γ p.1).b = some n → n ≠ b := by
        rintro n hn rfl
        exact hne (h.inv.apart p hp _ hmem n hn hb)
      have := RO.sub (fo := .own) (fr := .ref) hk p.1 p.2 rfl (fun n hn => heap_setCell_ne w u (hne' n hn)) (ho _ _) (fun i off u' hv' => by simpa only [RV] using hv') (h.inv.obs p hp)
      have e : p.2.sub .own .ref = p.2 := by cases p.2 <;> simp [Ob.sub, subL_id]
      rwa [e] at this


theorem update_update (id : Id) (x y : Ob) : ∀ o : Obs, update id y (update id x o) = update id y o
  | [] => rfl
  | (k, z) :: r => by
    simp only [update]
    split
    · rename_i e
      simp only [update, if_pos e, update_update id x y r]
    · rename_i e
      simp only [update, if_neg e, update_update id x y r]

theorem add_plain (b off i : Nat) : (⟨b, off, none⟩ : Addr).add i = ⟨b, off + i, none⟩ := by
  unfold Addr.add
  by_cases hi : i = 0
  · simp [hi]
  · simp [hi]

theorem box_cell {T : Ctx} {N : Mut} {w0 : World} {X : Mut} {γ : Gam} {w : World} {s : St} {a : Act} (h : SR T N w0 X γ w s a) {id : Id} {cs : List AV} (hl : lookup id s.o = some (.box cs)) {b : Nat} (hb : (γ id).b = some b) {i : Nat} {v : AV} (hi : cs[i]? = some v) :
    ∃ u, w.cell? ⟨b, i, none⟩ = some u ∧ w.frozen? ⟨b, i, none⟩ = false ∧ RV γ s.o (all γ N s.o) w v u := by
  obtain ⟨b', arr, ty, hb', hh, hvs⟩ := h.inv.obs _ (lookup_mem hl)
  have hbb : b' = b := by
    have : some b' = some b := by rw [← hb', hb]
    injection this
  subst hbb
  obtain ⟨u, hu, hv⟩ := RVL_get hvs hi
  refine ⟨u, ?_, ?_, hv⟩
  · simp only [World.cell?, hh]
    simpa using hu
  · simp [World.frozen?, hh]

/-- Cells of a box are written. -/
theorem SR.stores {T : Ctx} {N : Mut} {w0 : World} {X : Mut} {γ : Gam} (P : Program) {a : Act} {id : Id} {b : Nat} (hb : (γ id).b = some b) (off : Nat) :
    ∀ (vs : List AV) (us : List Value) (i : Nat) (w : World) (s : St) (cs : List AV), SR T N w0 X γ w s a → lookup id s.o = some (.box cs) → RVL γ s.o (all γ N s.o) w vs us → vs.all AV.cell = true → off + i + vs.length ≤ cs.length →
      ∃ w', (storeCells ⟨b, off, none⟩ us i).run P w = .ok () w' ∧ SR T N w0 X γ w' { s with o := update id (.box (setCells cs (off + i) vs)) s.o } a
  | [], us, i, w, s, cs, h, hl, hv, hc, hle => by
    simp only [RVL] at hv
    subst hv
    refine ⟨w, rfl, ?_⟩
    simp only [setCells]
    have e : update id (.box cs) s.o = s.o := by
      have key : ∀ o : Obs, (o.map (·.1)).Nodup → lookup id o = some (.box cs) → update id (.box cs) o = o := by
        intro o
        induction o with
        | nil => intro _ _; rfl
        | cons p r ih =>
          obtain ⟨k, z⟩ := p
          intro hn hl
          simp only [List.map_cons, List.nodup_cons] at hn
          simp only [update, lookup] at hl ⊢
          split
          · rename_i e
            rw [if_pos e] at hl
            injection hl with hl
            subst hl
            have : update id (.box cs) r = r := by
              clear ih
              have hnr : ∀ r : Obs, id ∉ r.map (·.1) → update id (.box cs) r = r := by
                intro r
                induction r with
                | nil => intro _; rfl
                | cons p r ih =>
                  obtain ⟨k', z'⟩ := p
                  intro hn
                  simp only [List.map_cons, List.mem_cons, not_or] at hn
                  simp only [update]
                  rw [if_neg (fun e => hn.1 e.symm), ih hn.2]
              exact hnr r (e ▸ hn.1)
            rw [this]
          · rename_i e
            rw [if_neg e] at hl
            rw [ih hn.2 hl]
      exact key s.o h.inv.keys hl
    rw [e]
    exact h
  | v :: vs, us, i, w, s, cs, h, hl, hv, hc, hle => by
    simp only [RVL] at hv
    obtain ⟨u, us', rfl, hv1, hv2⟩ := hv
    simp only [List.all_cons, Bool.and_eq_true] at hc
    simp only [List.length_cons] at hle
    have hlt : off + i < cs.length := by omega
    obtain ⟨u0, hcell, hfz, _⟩ := box_cell h hl hb (List.getElem?_eq_getElem hlt)
    obtain ⟨hk, htr⟩ := h.set_tr hl hb (off + i) v u
    have h1 := h.set hl hb (off + i) hv1
    have hl1 : lookup id (update id (.box (cs.set (off + i) v)) s.o) = some (.box (cs.set (off + i) v)) := lookup_update_same _ hl
    have hv2' : RVL γ (update id (.box (cs.set (off + i) v)) s.o) (all γ N (update id (.box (cs.set (off + i) v)) s.o)) (w.setCell ⟨b, off + i, none⟩ u) vs us' := by
      rw [RVL_iff] at hv2 ⊢
      exact ⟨hv2.1, fun j d y hd hy => htr _ _ (hv2.2 j d y hd hy)⟩
    obtain ⟨w', hrun, hs⟩ := SR.stores P hb off vs us' (i + 1) _ { s with o := update id (.box (cs.set (off + i) v)) s.o } _ h1 hl1 hv2' hc.2 (by simp; omega)
    refine ⟨w', ?_, ?_⟩
    · show ((store ((⟨b, off, none⟩ : Addr).add i) u >>= fun _ => storeCells ⟨b, off, none⟩ us' (i + 1)) : Sem Unit).run P w = _
      rw [Sem.run_bind, run_store P w _ u _ (cell_one h.owns hv1 hc.1), add_plain, hcell]
      simp only [hfz]
      exact hrun
    · simp only [update_update] at hs
      simpa only [setCells, Nat.add_assoc] using hs

end Go.Ab
