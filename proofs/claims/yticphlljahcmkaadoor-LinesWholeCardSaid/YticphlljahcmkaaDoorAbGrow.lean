/- One text of a proof that a law of this seat says true for every input: an evaluator of code over data, and that it tells the truth. It holds of the given program under the conditions that the row prints. -/
import Derived.Test.YticphlljahcmkaaDoorAbMut
set_option linter.unusedVariables false
namespace Go.Ab

/-- Cells are stored one behind the other into a block. -/
theorem stores_raw (P : Program) (b off : Nat) (ty : TypeId) : ∀ (us : List Value) (i : Nat) (w : World) (arr : Array Value), w.heap[b]? = some (.cells arr ty (0, 0)) → off + i + us.length ≤ arr.size → (∀ u ∈ us, u.oneCell' = true) →
    ∃ w' arr', (storeCells ⟨b, off, none⟩ us i).run P w = .ok () w' ∧ w'.heap[b]? = some (.cells arr' ty (0, 0)) ∧ arr'.size = arr.size ∧ (∀ j, j < off + i → arr'[j]? = arr[j]?) ∧ (∀ j u, us[j]? = some u → arr'[off + i + j]? = some u) ∧
      Chg (fun n j => n = b ∧ off + i ≤ j) w w' ∧ (∀ k, k ≠ b → w'.heap[k]? = w.heap[k]?) ∧ w'.heap.size = w.heap.size
  | [], i, w, arr, h, _, _ => ⟨w, arr, rfl, h, rfl, fun _ _ => rfl, fun j u hu => by simp at hu, Chg.refl _ w, fun _ _ => rfl, rfl⟩
  | u :: us, i, w, arr, h, hle, hone => by
    simp only [List.length_cons] at hle
    have hc : w.cell? ⟨b, off + i, none⟩ = some arr[off + i] := by
      simp only [World.cell?, h]
      simp [Array.getElem?_eq_getElem (show off + i < arr.size by omega)]
    have hf : w.frozen? ⟨b, off + i, none⟩ = false := by simp [World.frozen?, h]
    obtain ⟨w', arr', hrun, hh, hsz, hlo, hat, hchg, hne, hws⟩ := stores_raw P b off ty us (i + 1) _ _ (heap_setCell_same w (i := off + i) u h) (by simp; omega) fun v hv => hone v (by simp [hv])
    refine ⟨w', arr', ?_, hh, by simpa using hsz, fun j hj => ?_, fun j v hv => ?_, ?_, fun k hk => ?_, by simpa using hws⟩
    · show ((store ((⟨b, off, none⟩ : Addr).add i) u >>= fun _ => storeCells ⟨b, off, none⟩ us (i + 1)) : Sem Unit).run P w = _
      rw [Sem.run_bind, run_store P w _ u _ (hone u (by simp)), add_plain, hc]
      simp only [hf]
      exact hrun
    · rw [hlo j (by omega), Array.getElem?_setIfInBounds_ne (by omega)]
    · cases j with
      | zero =>
        simp at hv
        subst hv
        rw [hlo (off + i + 0) (by omega)]
        simp [Array.getElem?_setIfInBounds_self_of_lt (show off + i < arr.size by omega)]
      | succ j =>
        rw [show off + i + (j + 1) = off + (i + 1) + j from by omega]
        exact hat j v (by simpa using hv)
    · refine ((Chg.setCell w b (off + i) u).mono ?_).trans hchg ?_
      · rintro n j _ ⟨rfl, rfl⟩
        exact ⟨rfl, Nat.le_refl _⟩
      · rintro n j ⟨rfl, hj⟩
        exact .inl ⟨rfl, by omega⟩
    · rw [hne k hk, heap_setCell_ne w u hk]

/-- A slice of the frame's own has got longer. -/
theorem SR.regrow {T : Ctx} {N : Mut} {w0 : World} {X : Mut} {γ : Gam} {w w' : World} {s : St} {a : Act} (h : SR T N w0 X γ w s a) {k : Id} {n : Nat} {xs : List D} (hl : lookup k s.o = some (.tok n xs)) (ys : List D) (g : Gh)
    {X' : Mut} (c : Chg X' w w') (hX : ∀ b i, X' b i → own γ s.o b i)
    (hother : ∀ p ∈ s.o, p.1 ≠ k → ∀ b, (γ p.1).b = some b → w'.heap[b]? = w.heap[b]?)
    (hg : ∀ b, g.b = some b → (w.heap.size ≤ b ∧ b < w'.heap.size) ∨ (γ k).b = some b)
    (hro : ∀ (o' : Obs), Keep (all γ N s.o) (all (upd γ k g) N o') w w' → (∀ b i, g.b = some b → all (upd γ k g) N o' b i → (xs ++ ys).length * n ≤ i) → RO (upd γ k g) o' (all (upd γ k g) N o') w' k (.tok n (xs ++ ys))) :
    SR T N w0 X (upd γ k g) w' ⟨subL (shutO k n xs) (dropR k) s.t, update k (.tok n (xs ++ ys)) (subO (shutO k n xs) (dropR k) s.o)⟩ a := by
  have hmem := lookup_mem hl
  have hsub : ∀ p ∈ update k (.tok n (xs ++ ys)) (subO (shutO k n xs) (dropR k) s.o), (p.1 = k ∧ p.2 = .tok n (xs ++ ys)) ∨ (p.1 ≠ k ∧ ∃ q ∈ s.o, q.1 = p.1 ∧ p.2 = q.2.sub (shutO k n xs) (dropR k)) := by
    intro p hp
    rcases mem_update hp with h | ⟨h1, h2⟩
    · exact .inl h
    · rw [subO_eq] at h2
      obtain ⟨q, hq, rfl⟩ := List.mem_map.1 h2
      exact .inr ⟨h1, q, hq, rfl, rfl⟩
  have hown : ∀ b i, own (upd γ k g) (update k (.tok n (xs ++ ys)) (subO (shutO k n xs) (dropR k) s.o)) b i → (∃ q ∈ s.o, q.1 ≠ k ∧ (γ q.1).b = some b ∧ q.2.may i) ∨ (g.b = some b ∧ (xs ++ ys).length * n ≤ i) := by
    rintro b i ⟨p, hp, hb, hm⟩
    rcases hsub p hp with ⟨e1, e2⟩ | ⟨hne, q, hq, e, e2⟩
    · rw [e1, upd_same] at hb
      rw [e2] at hm
      exact .inr ⟨hb, hm⟩
    · rw [upd_ne γ g hne, ← e] at hb
      rw [e2, Ob.sub_may] at hm
      exact .inl ⟨q, hq, by rw [e]; exact hne, hb, hm⟩
  have ho : ∀ M', (∀ x u, Rd (all γ N s.o) w x u → Rd M' w' x u) → ∀ j u, RV γ s.o (all γ N s.o) w (.own j) u → RV (upd γ k g) (update k (.tok n (xs ++ ys)) (subO (shutO k n xs) (dropR k) s.o)) M' w' (shutO k n xs j) u := by
    intro M' hd j u hv
    simp only [RV] at hv
    obtain ⟨n', xs', hl', rfl⟩ := hv
    by_cases e : j = k
    · have e1 : shutO k n xs j = .d (.sl n xs) := by simp [shutO, e]
      rw [e1]
      subst e
      rw [hl] at hl'
      injection hl' with hl'
      injection hl' with e2 e3
      subst e2 e3
      simp only [RV]
      exact hd _ _ (tok_rd h.inv hl)
    · have e1 : shutO k n xs j = .own j := by simp [shutO, e]
      rw [e1]
      simp only [RV]
      refine ⟨n', xs', ?_, by rw [upd_ne γ g e]⟩
      rw [lookup_update_ne _ e, lookup_subO, hl']
      rfl
  have hr : ∀ M', ∀ i off u, RV γ s.o (all γ N s.o) w (.ref i off) u → RV (upd γ k g) (update k (.tok n (xs ++ ys)) (subO (shutO k n xs) (dropR k) s.o)) M' w' (dropR k i off) u := by
    intro M' i off u hv
    by_cases e : i = k
    · have e1 : dropR k i off = .undef := by simp [dropR, e]
      rw [e1]
      simp only [RV]
    · have e1 : dropR k i off = .ref i off := by simp [dropR, e]
      rw [e1]
      simp only [RV] at hv ⊢
      rw [upd_ne γ g e]
      exact hv
  refine h.core c hX (fun b i hb hm => ?_) (fun hd => ho _ hd) (fun hd => hr _) fun hk => ⟨?_, ?_, ?_, fun b i hb => Nat.lt_of_lt_of_le (h.inv.old b i hb) c.size, ?_⟩
  · rcases hown b i hm with ⟨q, hq, _, hqb, hqm⟩ | ⟨hgb, hgm⟩
    · exact ⟨q, hq, hqb, hqm⟩
    · rcases hg b hgb with h1 | h1
      · omega
      · refine ⟨_, hmem, h1, ?_⟩
        simp only [Ob.may]
        refine Nat.le_trans (Nat.mul_le_mul_right n ?_) hgm
        simp
  · rw [update_keys, subO_keys]
    exact h.inv.keys
  · have side : ∀ p, p ∈ update k (.tok n (xs ++ ys)) (subO (shutO k n xs) (dropR k) s.o) → ∀ b, (upd γ k g p.1).b = some b → (p.1 = k ∧ (w.heap.size ≤ b ∨ (γ k).b = some b)) ∨ (p.1 ≠ k ∧ b < w.heap.size ∧ ∃ q ∈ s.o, q.1 = p.1 ∧ (γ q.1).b = some b) := by
      intro p hp b hb
      rcases hsub p hp with ⟨e1, e2⟩ | ⟨hne, q, hq, e, e2⟩
      · rw [e1, upd_same] at hb
        exact .inl ⟨e1, (hg b hb).imp (·.1) id⟩
      · rw [upd_ne γ g hne, ← e] at hb
        exact .inr ⟨hne, own_lt h.inv hq hb, q, hq, e, hb⟩
    intro p hp q hq b hb hb'
    rcases side p hp b hb with ⟨e, hlt⟩ | ⟨hne, hlt, p', hp', e, hbp⟩ <;> rcases side q hq b hb' with ⟨e', hlt'⟩ | ⟨hne', hlt', q', hq', e', hbq⟩
    · rw [e, e']
    · rcases hlt with hlt | hlt
      · omega
      · exact absurd (h.inv.apart q' hq' _ hmem b hbq hlt) (by rw [e']; exact hne')
    · rcases hlt' with hlt' | hlt'
      · omega
      · exact absurd (h.inv.apart p' hp' _ hmem b hbp hlt') (by rw [e]; exact hne)
    · rw [← e, ← e']
      exact h.inv.apart p' hp' q' hq' b hbp hbq
  · intro p hp b hb i hn
    rcases hsub p hp with ⟨e1, e2⟩ | ⟨hne, q, hq, e, e2⟩
    · rw [e1, upd_same] at hb
      rcases hg b hb with h1 | h1
      · have := h.inv.old b i hn
        omega
      · exact h.inv.sep _ hmem b h1 i hn
    · rw [upd_ne γ g hne, ← e] at hb
      exact h.inv.sep q hq b hb i hn
  · intro p hp
    rcases hsub p hp with ⟨e1, e2⟩ | ⟨hne, q, hq, e, e2⟩
    · rw [e1, e2]
      refine hro _ hk fun b i hgb hm => ?_
      rcases hm with hm | hm
      · rcases hg b hgb with h1 | h1
        · have := h.inv.old b i hm
          omega
        · exact absurd hm (h.inv.sep _ hmem b h1 i)
      · rcases hown b i hm with ⟨q, hq, hqk, hqb, hqm⟩ | ⟨_, hgm⟩
        · rcases hg b hgb with h1 | h1
          · have := own_lt h.inv hq hqb
            omega
          · exact absurd (h.inv.apart q hq _ hmem b hqb h1) hqk
        · exact hgm
    · rw [e2, ← e]
      refine RO.sub hk q.1 q.2 (upd_ne γ g (by rw [e]; exact hne)) (fun b hb => hother q hq (by rw [e]; exact hne) b hb) (ho _ fun x u => Rd.keep hk x u) (hr _) (h.inv.obs q hq)

/-- In place: the room suffices. -/
theorem SR.growIn {T : Ctx} {N : Mut} {w0 : World} {X : Mut} {γ : Gam} {w : World} {s : St} {a : Act} (P : Program) (h : SR T N w0 X γ w s a) {k : Id} {n : Nat} {xs ys : List D} (hl : lookup k s.o = some (.tok n xs)) {b : Nat} (hb : (γ k).b = some b)
    (hfit : xs.length + ys.length ≤ (γ k).cap) (hy : ∀ y ∈ ys, y.cells.length = n) (hq : ∀ d ∈ flat ys, d.cell = true) {us : List Value} (hus : RdL (all γ N s.o) w (flat ys) us) (hone : ∀ u ∈ us, u.oneCell' = true) :
    ∃ w' γ', (storeCells ((⟨b, 0, none⟩ : Addr).add (xs.length * n)) us).run P w = .ok () w' ∧ SR T N w0 X γ' w' ⟨subL (shutO k n xs) (dropR k) s.t, update k (.tok n (xs ++ ys)) (subO (shutO k n xs) (dropR k) s.o)⟩ a ∧ (γ' k) = γ k := by
  have hro := h.inv.obs _ (lookup_mem hl)
  simp only [RO, hb] at hro
  obtain ⟨arr, ty, hh, hcap, harr, hrd⟩ := hro
  have hlen : us.length = ys.length * n := by rw [RdL_length hus, flat_length n ys hy]
  have hmul : xs.length * n + ys.length * n ≤ arr.size := by
    rw [← harr, ← Nat.add_mul]
    exact Nat.mul_le_mul_right n hfit
  rw [add_plain, Nat.zero_add]
  obtain ⟨w', arr', hrun, hh', hsz, hlo, hat, hchg, hne, hws⟩ := stores_raw P b (xs.length * n) ty us 0 w arr hh (by omega) hone
  refine ⟨w', upd γ k (γ k), hrun, ?_, upd_same _ _ _⟩
  refine h.regrow hl ys (γ k) hchg ?_ ?_ (fun b' hb' => .inr hb') fun o' hk hfree => ?_
  · rintro b' i ⟨rfl, hi⟩
    exact ⟨_, lookup_mem hl, hb, by simpa [Ob.may] using hi⟩
  · intro p hp hpk b' hpb
    refine hne b' ?_
    rintro rfl
    exact hpk (h.inv.apart p hp _ (lookup_mem hl) b' hpb hb)
  · simp only [RO, upd_same, hb]
    refine ⟨arr', ty, hh', by simpa using hfit, by rw [hsz]; exact harr, (RdE_append ..).2 ⟨RdE.keep hk _ _ _ _ hrd, (RdE_flat ..).2 ⟨hy, ?_⟩⟩⟩
    have key : ∀ (ds : List D) (vs : List Value) (j : Nat), RdL (all γ N s.o) w ds vs → (∀ d ∈ ds, d.cell = true) → j + ds.length ≤ ys.length * n → (∀ i v, vs[i]? = some v → us[j + i]? = some v) → RdC (all (upd γ k (γ k)) N o') w' ds ⟨b, 0, none⟩ (xs.length * n + j) := by
      intro ds
      induction ds with
      | nil => intro vs j _ _ _ _; simp only [RdC]
      | cons e ds ih =>
        intro vs j hv hcl hle hv'
        simp only [RdL] at hv
        obtain ⟨u, vs', rfl, h1, h2⟩ := hv
        simp only [List.length_cons] at hle
        simp only [RdC, add_plain, Nat.zero_add]
        refine ⟨⟨hcl e (by simp), u, ?_, ?_, Rd.keep hk e u h1⟩, ?_⟩
        · simp only [World.cell?, hh']
          have := hat j u (hv' 0 u (by simp))
          simpa using this
        · intro hm
          have := hfree b _ hb hm
          rw [List.length_append, Nat.add_mul] at this
          omega
        · rw [Nat.add_assoc]
          exact ih vs' (j + 1) h2 (fun d hd => hcl d (by simp [hd])) (by omega) fun i v hi => by
            rw [show j + 1 + i = j + (i + 1) from by omega]
            exact hv' (i + 1) v (by simpa using hi)
    simpa using key (flat ys) us 0 hus hq (by rw [flat_length n ys hy]; omega) fun i v hi => by simpa using hi

/-- In a new block. -/
theorem SR.growNew {T : Ctx} {N : Mut} {w0 : World} {X : Mut} {γ : Gam} {w : World} {s : St} {a : Act} (h : SR T N w0 X γ w s a) {k : Id} {n : Nat} {xs ys : List D} (hl : lookup k s.o = some (.tok n xs))
    (cap : Nat) (ty : TypeId) (hfit : xs.length + ys.length ≤ cap) (hx : ∀ x ∈ xs, x.cells.length = n) (hy : ∀ y ∈ ys, y.cells.length = n) (hqx : ∀ d ∈ flat xs, d.cell = true) (hq : ∀ d ∈ flat ys, d.cell = true) {old us rest : List Value}
    (hold : RdL (all γ N s.o) w (flat xs) old) (hus : RdL (all γ N s.o) w (flat ys) us) (hsz : old.length + us.length + rest.length = cap * n) :
    ∃ γ', SR T N w0 X γ' (w.drew.alloc (.cells (old ++ us ++ rest).toArray ty)) ⟨subL (shutO k n xs) (dropR k) s.t, update k (.tok n (xs ++ ys)) (subO (shutO k n xs) (dropR k) s.o)⟩ a ∧ (γ' k) = ⟨some w.heap.size, cap, .slice none 0 0⟩ := by
  have c : Chg (fun _ _ => False) w (w.drew.alloc (.cells (old ++ us ++ rest).toArray ty)) := (Chg.drew w).trans (Chg.alloc w.drew _) fun _ _ hf => hf.elim
  have hnew : (w.drew.alloc (.cells (old ++ us ++ rest).toArray ty)).heap[w.heap.size]? = some (.cells (old ++ us ++ rest).toArray ty) := heap_alloc w.drew _
  refine ⟨upd γ k ⟨some w.heap.size, cap, .slice none 0 0⟩, ?_, upd_same _ _ _⟩
  refine h.regrow hl ys ⟨some w.heap.size, cap, .slice none 0 0⟩ c (fun _ _ hf => hf.elim) (fun p hp _ b hb => c.block b (own_lt h.inv hp hb) fun _ hf => hf) (fun b hb => .inl ?_) fun o' hk hfree => ?_
  · simp only [Option.some.injEq] at hb
    subst hb
    exact ⟨Nat.le_refl _, by simp⟩
  · simp only [RO, upd_same]
    refine ⟨_, ty, hnew, by simpa using hfit, by simp; omega, (RdE_flat ..).2 ⟨fun z hz => ?_, ?_⟩⟩
    · rcases List.mem_append.1 hz with hz | hz
      · exact hx z hz
      · exact hy z hz
    · have hlen : (old ++ us).length = (xs ++ ys).length * n := by
        rw [List.length_append, List.length_append, RdL_length hold, RdL_length hus, flat_length n xs hx, flat_length n ys hy, Nat.add_mul]
      have hall : RdL (all γ N s.o) w (flat (xs ++ ys)) (old ++ us) := by
        rw [flat_append]
        exact RdL_append hold hus
      have hcl : ∀ d ∈ flat (xs ++ ys), d.cell = true := by
        rw [flat_append]
        intro d hd
        rcases List.mem_append.1 hd with hd | hd
        · exact hqx d hd
        · exact hq d hd
      have key : ∀ (ds : List D) (vs : List Value) (j : Nat), RdL (all γ N s.o) w ds vs → (∀ d ∈ ds, d.cell = true) → j + ds.length ≤ (xs ++ ys).length * n → (∀ i v, vs[i]? = some v → (old ++ us)[j + i]? = some v) → RdC (all (upd γ k ⟨some w.heap.size, cap, .slice none 0 0⟩) N o') (w.drew.alloc (.cells (old ++ us ++ rest).toArray ty)) ds ⟨w.heap.size, 0, none⟩ j := by
        intro ds
        induction ds with
        | nil => intro vs j _ _ _ _; simp only [RdC]
        | cons e ds ih =>
          intro vs j hv hcl hle hv'
          simp only [RdL] at hv
          obtain ⟨u, vs', rfl, h1, h2⟩ := hv
          simp only [List.length_cons] at hle
          simp only [RdC, add_plain, Nat.zero_add]
          refine ⟨⟨hcl e (by simp), u, ?_, ?_, Rd.keep hk e u h1⟩, ih vs' (j + 1) h2 (fun d hd => hcl d (by simp [hd])) (by omega) fun i v hi => by
            rw [show j + 1 + i = j + (i + 1) from by omega]
            exact hv' (i + 1) v (by simpa using hi)⟩
          · simp only [World.cell?, hnew]
            have h3 := hv' 0 u (by simp)
            have h4 := (List.getElem?_eq_some_iff.1 h3).1
            have h5 : ((old ++ us) ++ rest)[j]? = some u := by
              rw [List.getElem?_append_left (by simpa using h4)]
              simpa using h3
            simpa using h5
          · intro hm
            have := hfree w.heap.size _ rfl hm
            omega
      exact key _ _ 0 hall hcl (by rw [flat_length n (xs ++ ys) fun z hz => (List.mem_append.1 hz).elim (hx z) (hy z)]; omega) fun i v hi => by simpa using hi

end Go.Ab
