/- One text of a proof that a law of this seat says true for every input: an evaluator of code over data, and that it tells the truth. It holds of the given program under the conditions that the row prints. -/
import Derived.Test.YticphlljahcmkaaDoorAbRel
set_option linter.unusedVariables false
namespace Go.Ab

theorem erase_sub {id : Id} {p : Id × Ob} : ∀ {o : Obs}, p ∈ erase id o → p ∈ o ∧ p.1 ≠ id
  | [], h => by simp [erase] at h
  | (k, x) :: r, h => by
    simp only [erase] at h
    split at h
    · have := erase_sub h
      exact ⟨List.mem_cons_of_mem _ this.1, this.2⟩
    · rename_i hne
      rcases List.mem_cons.1 h with e | h
      · subst e
        exact ⟨by simp, hne⟩
      · have := erase_sub h
        exact ⟨List.mem_cons_of_mem _ this.1, this.2⟩
theorem erase_nodup {id : Id} : ∀ {o : Obs}, (o.map (·.1)).Nodup → ((erase id o).map (·.1)).Nodup
  | [], h => by simp [erase]
  | (k, x) :: r, h => by
    simp only [List.map_cons, List.nodup_cons] at h
    simp only [erase]
    split
    · exact erase_nodup h.2
    · simp only [List.map_cons, List.nodup_cons]
      refine ⟨fun hm => h.1 ?_, erase_nodup h.2⟩
      obtain ⟨p, hp, e⟩ := List.mem_map.1 hm
      exact List.mem_map.2 ⟨p, (erase_sub hp).1, e⟩
theorem mem_erase {id : Id} {p : Id × Ob} : ∀ {o : Obs}, p ∈ o → p.1 ≠ id → p ∈ erase id o
  | [], h, _ => by simp at h
  | (k, x) :: r, h, hne => by
    simp only [erase]
    rcases List.mem_cons.1 h with e | h
    · subst e
      simp at hne
      simp [hne]
    · split
      · exact mem_erase h hne
      · exact List.mem_cons_of_mem _ (mem_erase h hne)

/-- objects, their values put otherwise -/
def Ob.sub (fo : Id → AV) (fr : Id → Nat → AV) : Ob → Ob
  | .box cs => .box (subL fo fr cs)
  | .tok n xs => .tok n xs
theorem subO_eq (fo : Id → AV) (fr : Id → Nat → AV) : ∀ o : Obs, subO fo fr o = o.map fun p => (p.1, p.2.sub fo fr)
  | [] => rfl
  | (k, .box cs) :: r => by simp [subO, subO_eq fo fr r, Ob.sub]
  | (k, .tok n xs) :: r => by simp [subO, subO_eq fo fr r, Ob.sub]
theorem subO_keys (fo : Id → AV) (fr : Id → Nat → AV) (o : Obs) : (subO fo fr o).map (·.1) = o.map (·.1) := by
  rw [subO_eq, List.map_map]
  rfl
theorem Ob.sub_may (fo : Id → AV) (fr : Id → Nat → AV) (ob : Ob) : (ob.sub fo fr).may = ob.may := by cases ob <;> rfl
theorem lookup_subO (fo : Id → AV) (fr : Id → Nat → AV) (id : Id) : ∀ o : Obs, lookup id (subO fo fr o) = (lookup id o).map (Ob.sub fo fr)
  | [] => rfl
  | (k, .box cs) :: r => by
    simp only [subO, lookup]
    split
    · rfl
    · exact lookup_subO fo fr id r
  | (k, .tok n xs) :: r => by
    simp only [subO, lookup]
    split
    · rfl
    · exact lookup_subO fo fr id r
theorem lookup_erase {id k : Id} (h : k ≠ id) : ∀ o : Obs, lookup k (erase id o) = lookup k o
  | [] => rfl
  | (j, x) :: r => by
    simp only [erase, lookup]
    split
    · rename_i e
      subst e
      rw [if_neg (Ne.symm h)]
      exact lookup_erase h r
    · simp only [lookup]
      rw [lookup_erase h r]

def upd (γ : Gam) (id : Id) (g : Gh) : Gam := fun k => if k = id then g else γ k
theorem upd_same (γ : Gam) (id : Id) (g : Gh) : upd γ id g id = g := by simp [upd]
theorem upd_ne (γ : Gam) {id k : Id} (g : Gh) (h : k ≠ id) : upd γ id g k = γ k := by simp [upd, h]

/-- What an object of the old state becomes, if it isn't the one that is dropped. -/
theorem RO.sub {γ γ' : Gam} {o o' : Obs} {M M' : Mut} {w w' : World} {fo : Id → AV} {fr : Id → Nat → AV} (hk : Keep M M' w w') (id : Id) (ob : Ob)
    (hg : γ' id = γ id) (hb : ∀ b, (γ id).b = some b → w'.heap[b]? = w.heap[b]?)
    (ho : ∀ k u, RV γ o M w (.own k) u → RV γ' o' M' w' (fo k) u) (hr : ∀ id off u, RV γ o M w (.ref id off) u → RV γ' o' M' w' (fr id off) u)
    (h : RO γ o M w id ob) : RO γ' o' M' w' id (ob.sub fo fr) := by
  have hd : ∀ x u, Rd M w x u → Rd M' w' x u := fun x u => Rd.keep hk x u
  cases ob with
  | box cs =>
    obtain ⟨b, arr, ty, e, hh, hv⟩ := h
    exact ⟨b, arr, ty, by rw [hg]; exact e, by rw [hb b e]; exact hh, RVL.sub hd ho hr _ _ hv⟩
  | tok n xs =>
    simp only [RO, Ob.sub] at h ⊢
    rw [hg]
    cases e : (γ id).b with
    | none => rw [e] at h; exact ⟨hd _ _ h.1, h.2⟩
    | some b =>
      rw [e] at h
      obtain ⟨arr, ty, hh, h1, h2, h3⟩ := h
      exact ⟨arr, ty, by rw [hb b e]; exact hh, h1, h2, RdE.keep hk _ _ _ _ h3⟩

/-- A new object under a name: what was under it before is dropped. -/
theorem SR.new {T : Ctx} {N : Mut} {w0 : World} {X : Mut} {γ : Gam} {w w' : World} {s : St} {a : Act} (h : SR T N w0 X γ w s a) (c : Chg (fun _ _ => False) w w')
    (id : Id) (g : Gh) (ob : Ob) (hg : ∀ b, g.b = some b → w.heap.size ≤ b ∧ b < w'.heap.size)
    (hro : ∀ (γ' : Gam) (o' : Obs), Keep (all γ N s.o) (all γ' N o') w w' → γ' id = g → (∀ x u, RV γ s.o (all γ N s.o) w x u → RV γ' o' (all γ' N o') w' (x.sub (dropO id s) (dropR id)) u) → (∀ b i, N b i → b < w.heap.size) → (∀ b i, w.heap.size ≤ b → b < w'.heap.size → own γ' o' b i → g.b = some b ∧ ob.may i) → RO γ' o' (all γ' N o') w' id ob) :
    SR T N w0 X (upd γ id g) w' ⟨subL (dropO id s) (dropR id) s.t, (id, ob) :: subO (dropO id s) (dropR id) (erase id s.o)⟩ a := by
  have hsub : ∀ p ∈ subO (dropO id s) (dropR id) (erase id s.o), p.1 ≠ id ∧ ∃ q ∈ s.o, q.1 = p.1 ∧ p.2 = q.2.sub (dropO id s) (dropR id) := by
    intro p hp
    rw [subO_eq] at hp
    obtain ⟨q, hq, rfl⟩ := List.mem_map.1 hp
    exact ⟨(erase_sub hq).2, q, (erase_sub hq).1, rfl, rfl⟩
  have hown : ∀ b i, own (upd γ id g) ((id, ob) :: subO (dropO id s) (dropR id) (erase id s.o)) b i → own γ s.o b i ∨ (g.b = some b ∧ ob.may i) := by
    rintro b i ⟨p, hp, hb, hm⟩
    rcases List.mem_cons.1 hp with e | hp
    · subst e
      simp only [upd_same] at hb
      exact .inr ⟨hb, hm⟩
    · obtain ⟨hne, q, hq, e, e2⟩ := hsub p hp
      rw [upd_ne γ g hne, ← e] at hb
      rw [e2, Ob.sub_may] at hm
      exact .inl ⟨q, hq, hb, hm⟩
  have ho : ∀ M', (∀ x u, Rd (all γ N s.o) w x u → Rd M' w' x u) → ∀ k u, RV γ s.o (all γ N s.o) w (.own k) u → RV (upd γ id g) ((id, ob) :: subO (dropO id s) (dropR id) (erase id s.o)) M' w' (dropO id s k) u := by
    intro M' hd k u hv
    simp only [RV] at hv
    obtain ⟨n, xs, hl, rfl⟩ := hv
    by_cases e : k = id
    · have e1 : dropO id s k = .d (.sl n xs) := by subst e; simp [dropO, hl]
      rw [e1]
      simp only [RV]
      exact hd _ _ (tok_rd h.inv hl)
    · have e1 : dropO id s k = .own k := by simp [dropO, e]
      rw [e1]
      simp only [RV]
      refine ⟨n, xs, ?_, by rw [upd_ne γ g e]⟩
      simp only [lookup]
      rw [if_neg (Ne.symm e), lookup_subO, lookup_erase e, hl]
      rfl
  have hr : ∀ M', ∀ i off u, RV γ s.o (all γ N s.o) w (.ref i off) u → RV (upd γ id g) ((id, ob) :: subO (dropO id s) (dropR id) (erase id s.o)) M' w' (dropR id i off) u := by
    intro M' i off u hv
    by_cases e : i = id
    · have e1 : dropR id i off = .undef := by simp [dropR, e]
      rw [e1]
      simp only [RV]
    · have e1 : dropR id i off = .ref i off := by simp [dropR, e]
      rw [e1]
      simp only [RV] at hv ⊢
      rw [upd_ne γ g e]
      exact hv
  refine h.core c (fun _ _ hx => hx.elim) (fun b i hb hm => ?_) (fun hd => ho _ hd) (fun hd => hr _) fun hk => ⟨?_, ?_, ?_, fun b i hb => Nat.lt_of_lt_of_le (h.inv.old b i hb) c.size, ?_⟩
  · rcases hown b i hm with hm | ⟨hm, _⟩
    · exact hm
    · have := (hg b hm).1
      omega
  · simp only [List.map_cons, List.nodup_cons, subO_keys]
    refine ⟨fun hm => ?_, erase_nodup h.inv.keys⟩
    obtain ⟨p, hp, e⟩ := List.mem_map.1 hm
    exact (erase_sub hp).2 e
  · have side : ∀ p, p ∈ (id, ob) :: subO (dropO id s) (dropR id) (erase id s.o) → ∀ b, (upd γ id g p.1).b = some b → (p.1 = id ∧ w.heap.size ≤ b) ∨ (p.1 ≠ id ∧ b < w.heap.size ∧ ∃ q ∈ s.o, q.1 = p.1 ∧ (γ q.1).b = some b) := by
      intro p hp b hb
      rcases List.mem_cons.1 hp with e | hp
      · subst e
        simp only [upd_same] at hb
        exact .inl ⟨rfl, (hg b hb).1⟩
      · obtain ⟨hne, q, hq, e, e2⟩ := hsub p hp
        rw [upd_ne γ g hne, ← e] at hb
        exact .inr ⟨hne, own_lt h.inv hq hb, q, hq, e, hb⟩
    intro p hp q hq b hb hb'
    rcases side p hp b hb with ⟨e, hlt⟩ | ⟨hne, hlt, p', hp', e, hbp⟩ <;> rcases side q hq b hb' with ⟨e', hlt'⟩ | ⟨hne', hlt', q', hq', e', hbq⟩
    · rw [e, e']
    · omega
    · omega
    · rw [← e, ← e']
      exact h.inv.apart p' hp' q' hq' b hbp hbq
  · intro p hp b hb i hn
    rcases List.mem_cons.1 hp with e | hp
    · subst e
      simp only [upd_same] at hb
      have := (hg b hb).1
      have := h.inv.old b i hn
      omega
    · obtain ⟨hne, q, hq, e, e2⟩ := hsub p hp
      rw [upd_ne γ g hne, ← e] at hb
      exact h.inv.sep q hq b hb i hn
  · intro p hp
    rcases List.mem_cons.1 hp with e | hp
    · subst e
      refine hro _ _ hk (upd_same γ id g) (fun x u hx => RV.sub (fun x u => Rd.keep hk x u) (ho _ fun x u => Rd.keep hk x u) (hr _) x u hx) h.inv.old fun b i hb hb' hm => ?_
      · rcases hown b i hm with ⟨q, hq, hqb, _⟩ | hm
        · have := own_lt h.inv hq hqb
          omega
        · exact hm
    · obtain ⟨hne, q, hq, e, e2⟩ := hsub p hp
      rw [e2, ← e]
      refine RO.sub hk q.1 q.2 (upd_ne γ g (by rw [e]; exact hne)) (fun b hb => ?_) (ho _ fun x u => Rd.keep hk x u) (hr _) (h.inv.obs q hq)
      exact c.block b (own_lt h.inv hq hb) fun _ hf => hf


theorem RVL.map {γ γ' : Gam} {o o' : Obs} {M M' : Mut} {w w' : World} {fo : Id → AV} {fr : Id → Nat → AV}
    (tr : ∀ x u, RV γ o M w x u → RV γ' o' M' w' (x.sub fo fr) u) : ∀ (xs : List AV) (us : List Value), RVL γ o M w xs us → RVL γ' o' M' w' (subL fo fr xs) us
  | [], us, h => by simpa only [RVL, subL] using h
  | x :: xs, us, h => by
    simp only [RVL, subL] at h ⊢
    obtain ⟨u, us', e, h1, h2⟩ := h
    exact ⟨u, us', e, tr x u h1, RVL.map tr xs us' h2⟩

theorem subL_set (fo : Id → AV) (fr : Id → Nat → AV) (v : AV) : ∀ (xs : List AV) (i : Nat), subL fo fr (xs.set i v) = (subL fo fr xs).set i (v.sub fo fr)
  | [], i => by simp [subL]
  | x :: xs, 0 => by simp [subL]
  | x :: xs, i + 1 => by simp [subL, subL_set fo fr v xs i]

theorem heap_alloc (w : World) (ob : Obj) : (w.alloc ob).heap[w.heap.size]? = some ob := by
  show (w.heap.push ob)[w.heap.size]? = some ob
  simp

/-- A new variable in memory. -/
theorem SR.newBox {T : Ctx} {N : Mut} {w0 : World} {X : Mut} {γ : Gam} {w : World} {s : St} {a : Act} (h : SR T N w0 X γ w s a) (d : Tmp) {cs : List AV} {us : List Value} (ty : TypeId) (hc : RVL γ s.o (all γ N s.o) w cs us) :
    ∃ γ', SR T N w0 X γ' (w.alloc (.cells us.toArray ty)) (s.newBox d cs) (a.put (some d) (.pointer (some ⟨w.heap.size, 0, none⟩))) := by
  have hn := h.new (Chg.alloc w (.cells us.toArray ty)) (1, d) ⟨some w.heap.size, 0, .slice none 0 0⟩ (.box (subL (dropO (1, d) s) (dropR (1, d)) cs)) (fun b hb => by
      simp only [Option.some.injEq] at hb
      subst hb
      simp) (fun γ' o' hk hg tr _ _ => ⟨w.heap.size, us.toArray, ty, by rw [hg], heap_alloc _ _, by
      simpa using RVL.map tr cs us hc⟩)
  exact ⟨_, hn.put (some d) (v := .ref (1, d) 0) (u := .pointer (some ⟨w.heap.size, 0, none⟩)) (by
    simp only [RV, upd_same]
    exact ⟨_, rfl, rfl⟩)⟩

/-- A new slice of the frame's own that has no memory yet. -/
theorem SR.newNil {T : Ctx} {N : Mut} {w0 : World} {X : Mut} {γ : Gam} {w : World} {s : St} {a : Act} (h : SR T N w0 X γ w s a) (d : Tmp) (n : Nat) :
    ∃ γ', SR T N w0 X γ' w (s.newTok d n []) (a.put (some d) (.slice none 0 0)) := by
  have hn := h.new (Chg.refl _ w) (1, d) ⟨none, 0, .slice none 0 0⟩ (.tok n []) (fun b hb => by simp at hb) (fun γ' o' hk hg tr _ _ => by
    simp only [RO, hg, Rd]
    exact ⟨⟨none, 0, 0, rfl, rfl, Nat.le_refl _, fun _ => rfl, fun p hp => by simp at hp⟩, none, 0, rfl⟩)
  exact ⟨_, hn.put (some d) (v := .own (1, d)) (u := .slice none 0 0) (by
    simp only [RV, upd_same, lookup, if_true]
    exact ⟨n, [], rfl, rfl⟩)⟩

/-- A slice without room behind it becomes the frame's own: whatever is added to it goes elsewhere. -/
theorem SR.newTight {T : Ctx} {N : Mut} {w0 : World} {X : Mut} {γ : Gam} {w : World} {s : St} {a : Act} (h : SR T N w0 X γ w s a) (d : Tmp) {n : Nat} {xs : List D} {u : Value} (hu : RV γ s.o (all γ N s.o) w (.tight n xs) u) :
    ∃ γ', SR T N w0 X γ' w (s.newTok d n xs) (a.put (some d) u) := by
  have hn := h.new (Chg.refl _ w) (1, d) ⟨none, 0, u⟩ (.tok n xs) (fun b hb => by simp at hb) (fun γ' o' hk hg tr _ _ => by
    simp only [RO, hg]
    have := tr _ _ hu
    simpa only [AV.sub, RV] using this)
  exact ⟨_, hn.put (some d) (v := .own (1, d)) (u := u) (by
    simp only [RV, upd_same, lookup, if_true]
    exact ⟨n, xs, rfl, rfl⟩)⟩

/-- A new slice of the frame's own in a new block: its elements, and room behind them. -/
theorem SR.newTok {T : Ctx} {N : Mut} {w0 : World} {X : Mut} {γ : Gam} {w : World} {s : St} {a : Act} (h : SR T N w0 X γ w s a) (d : Tmp) (n : Nat) (xs : List D) (cells : List Value) (cap : Nat) (ty : TypeId) (hlen : xs.length ≤ cap)
    (hsz : cap * n = cells.length) (hx : ∀ x ∈ xs, x.cells.length = n) (hq : ∀ d ∈ flat xs, d.cell = true) (rest : List Value) (hc : ∃ us, cells = us ++ rest ∧ RdL (all γ N s.o) w (flat xs) us) :
    ∃ γ', SR T N w0 X γ' (w.alloc (.cells cells.toArray ty)) (s.newTok d n xs) (a.put (some d) (.slice (some ⟨w.heap.size, 0, none⟩) xs.length cap)) := by
  obtain ⟨us, rfl, hus⟩ := hc
  have hn := h.new (Chg.alloc w (.cells (us ++ rest).toArray ty)) (1, d) ⟨some w.heap.size, cap, .slice none 0 0⟩ (.tok n xs) (fun b hb => by
      simp only [Option.some.injEq] at hb
      subst hb
      simp) (fun γ' o' hk hg tr hN hnew => by
      simp only [RO, hg]
      refine ⟨_, ty, heap_alloc _ _, hlen, by simpa using hsz, (RdE_flat ..).2 ⟨hx, ?_⟩⟩
      have key : ∀ (ds : List D) (vs : List Value) (k : Nat), RdL (all γ N s.o) w ds vs → (∀ d ∈ ds, d.cell = true) → k + ds.length ≤ xs.length * n → (∀ i v, vs[i]? = some v → (us ++ rest)[k + i]? = some v) → RdC (all γ' N o') (w.alloc (.cells (us ++ rest).toArray ty)) ds ⟨w.heap.size, 0, none⟩ k := by
        intro ds
        induction ds with
        | nil => intro vs k _ _ _ _; simp only [RdC]
        | cons e ds ih =>
          intro vs k hv hcl hle hat
          simp only [RdL] at hv
          obtain ⟨u, vs', rfl, h1, h2⟩ := hv
          simp only [List.length_cons] at hle
          simp only [RdC]
          have hadd : (⟨w.heap.size, 0, none⟩ : Addr).add k = ⟨w.heap.size, k, none⟩ := by
            unfold Addr.add
            by_cases hk0 : k = 0
            · simp [hk0]
            · simp [hk0]
          refine ⟨⟨hcl e (by simp), u, ?_, ?_, ?_⟩, ih vs' (k + 1) h2 (fun d hd => hcl d (by simp [hd])) (by omega) fun i v hi => ?_⟩
          · rw [hadd, World.cell?_alloc_new]
            simpa using hat 0 u (by simp)
          · rw [hadd]
            rintro (hm | hm)
            · exact Nat.lt_irrefl _ (hN _ _ hm)
            · have := (hnew _ _ (Nat.le_refl _) (by simp) hm).2
              simp only [Ob.may] at this
              omega
          · have := tr (.d e) u (by simpa only [RV] using h1)
            simpa only [AV.sub, RV] using this
          · rw [show k + 1 + i = k + (i + 1) from by omega]
            exact hat (i + 1) v (by simpa using hi)
      refine key (flat xs) us 0 hus hq (by rw [flat_length n xs hx]; omega) fun i v hi => ?_
      rw [Nat.zero_add]
      have := (List.getElem?_eq_some_iff.1 hi).1
      rw [List.getElem?_append_left this]
      exact hi)
  exact ⟨_, hn.put (some d) (v := .own (1, d)) (u := .slice (some ⟨w.heap.size, 0, none⟩) xs.length cap) (by
    simp only [RV, upd_same, lookup, if_true]
    exact ⟨n, xs, rfl, rfl⟩)⟩

end Go.Ab
