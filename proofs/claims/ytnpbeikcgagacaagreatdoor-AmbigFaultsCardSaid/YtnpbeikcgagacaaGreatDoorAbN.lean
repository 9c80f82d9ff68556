/- One text of a proof that a law of this seat says true for every input: an evaluator of code over data, and that it tells the truth. It holds of the given program under the conditions that the row prints. -/
import Derived.Test.YtnpbeikcgagacaaGreatDoorAbCa
import Derived.Test.YtnpbeikcgagacaaGreatDoorAbA
set_option linter.unusedSimpArgs false
set_option linter.unusedVariables false
set_option linter.unusedSectionVars false
namespace Go.Ab
/-! # A library function that hands back a new object and turns nothing -/
theorem Inv.add {γ : Gam} {N : Mut} {o : Obs} {w w' : World} (h : Inv γ N o w) (c : Chg (fun _ _ => False) w w') (k : Id) (hk : ∀ p ∈ o, p.1 ≠ k) (hko : ∀ p ∈ o, k ∉ p.2.idsB) (g : Gh) (ob : Ob)
    (hg : ∀ b, g.b = some b → w.heap.size ≤ b ∧ b < w'.heap.size)
    (hro : ∀ (γ' : Gam) (o' : Obs) (M : Mut), γ' k = g → (∀ b i, M b i → b < w.heap.size ∨ (g.b = some b ∧ ob.may g i)) → RO γ' o' M w' k ob) :
    Inv (upd γ k g) N ((k, ob) :: o) w' ∧ (∀ as vs, k ∉ idsL as → RVL γ o (all γ N o) w as vs → RVL (upd γ k g) ((k, ob) :: o) (all (upd γ k g) N ((k, ob) :: o)) w' as vs) ∧
      (∀ b i, own (upd γ k g) ((k, ob) :: o) b i → own γ o b i ∨ w.heap.size ≤ b) ∧
      ∀ id ob', lookup id o = some ob' → ob'.kd ≠ 0 → (upd γ k g id).b = (γ id).b ∧ ∃ ob'', lookup id ((k, ob) :: o) = some ob'' ∧ ob''.kd = ob'.kd := by
  have hown : ∀ b i, own (upd γ k g) ((k, ob) :: o) b i → own γ o b i ∨ (g.b = some b ∧ ob.may g i) := by
    rintro b i ⟨p, hp, hb, hm⟩
    rcases List.mem_cons.1 hp with rfl | hp
    · simp only [upd_same] at hb hm
      exact .inr ⟨hb, hm⟩
    · rw [upd_ne γ g (hk p hp)] at hb hm
      exact .inl ⟨p, hp, hb, hm⟩
  have hown2 : ∀ b i, own γ o b i → b < w.heap.size := by
    rintro b i ⟨p, hp, hb, _⟩
    exact own_lt h hp hb
  have hkeep : Keep (all γ N o) (all (upd γ k g) N ((k, ob) :: o)) w w' := c.keep (fun _ _ hf => hf.elim) fun b i hlt hm => by
    rcases hm with hm | hm
    · exact .inl hm
    · rcases hown b i hm with hm | ⟨hb, _⟩
      · exact .inr hm
      · have := (hg b hb).1
        omega
  have hlk : ∀ {j : Id}, j ≠ k → lookup j ((k, ob) :: o) = lookup j o := fun hj => by simp only [lookup]; rw [if_neg (Ne.symm hj)]
  have hlk2 : ∀ {j : Id} {ob' : Ob}, lookup j o = some ob' → j ≠ k := fun hl => hk _ (lookup_mem hl)
  have ho : ∀ j u, RV γ o (all γ N o) w (.own j) u → RV (upd γ k g) ((k, ob) :: o) (all (upd γ k g) N ((k, ob) :: o)) w' (.own j) u := by
    intro j u hv
    simp only [RV] at hv ⊢
    obtain ⟨ob', l, hl, hs, rfl⟩ := hv
    exact ⟨ob', l, by rw [hlk (hlk2 hl)]; exact hl, hs, by rw [upd_ne γ g (hlk2 hl)]⟩
  have he : ∀ j i off u, RV γ o (all γ N o) w (.elt j i off) u → RV (upd γ k g) ((k, ob) :: o) (all (upd γ k g) N ((k, ob) :: o)) w' (.elt j i off) u := by
    intro j i off u hv
    simp only [RV] at hv ⊢
    obtain ⟨b, g', n, es, hb, hl, rfl⟩ := hv
    exact ⟨b, g', n, es, by rw [upd_ne γ g (hlk2 hl)]; exact hb, by rw [hlk (hlk2 hl)]; exact hl, rfl⟩
  have hd : ∀ x u, Rd (all γ N o) w x u → Rd (all (upd γ k g) N ((k, ob) :: o)) w' x u := fun x u => Rd.keep hkeep x u
  -- a pointer to what has another name
  have hr : ∀ j off u, RV γ o (all γ N o) w (.ref j off) u → RV (upd γ k g) ((k, ob) :: o) (all (upd γ k g) N ((k, ob) :: o)) w' (if j = k then .undef else .ref j off) u := by
    intro j off u hv
    split
    · simp only [RV]
    · rename_i hj
      simp only [RV] at hv ⊢
      rw [upd_ne γ g hj]
      exact hv
  have n1 : ∀ j, j ≠ k → AV.own j = .own j := fun j _ => rfl
  have n2 : ∀ (j : Id) (off : Nat), j ≠ k → (fun (j : Id) (off : Nat) => if j = k then AV.undef else .ref j off) j off = .ref j off := fun j off hj => if_neg hj
  refine ⟨⟨?_, ?_, ?_, fun b i hb => Nat.lt_of_lt_of_le (h.old b i hb) c.size, ?_⟩, ?_, ?_, ?_⟩
  · rw [List.map_cons, List.nodup_cons]
    refine ⟨fun hm => ?_, h.keys⟩
    obtain ⟨p, hp, e⟩ := List.mem_map.1 hm
    exact hk p hp e
  · have side : ∀ p, p ∈ (k, ob) :: o → ∀ b, (upd γ k g p.1).b = some b → (p.1 = k ∧ w.heap.size ≤ b) ∨ (p ∈ o ∧ b < w.heap.size ∧ (γ p.1).b = some b) := by
      intro p hp b hb
      rcases List.mem_cons.1 hp with rfl | hp
      · simp only [upd_same] at hb
        exact .inl ⟨rfl, (hg b hb).1⟩
      · rw [upd_ne γ g (hk p hp)] at hb
        exact .inr ⟨hp, own_lt h hp hb, hb⟩
    intro p hp q hq b hpb hqb
    rcases side p hp b hpb with ⟨e1, h1⟩ | ⟨e1, h1, h2⟩ <;> rcases side q hq b hqb with ⟨e3, h3⟩ | ⟨e3, h3, h4⟩
    · rw [e1, e3]
    · omega
    · omega
    · exact h.apart p e1 q e3 b h2 h4
  · intro p hp b hb i hN
    rcases List.mem_cons.1 hp with rfl | hp
    · simp only [upd_same] at hb
      have := h.old b i hN
      have := (hg b hb).1
      omega
    · rw [upd_ne γ g (hk p hp)] at hb
      exact h.sep p hp b hb i hN
  · intro p hp
    rcases List.mem_cons.1 hp with rfl | hp
    · refine hro _ _ _ (upd_same _ _ _) fun b i hm => ?_
      rcases hm with hm | hm
      · exact .inl (h.old b i hm)
      · rcases hown b i hm with hm | hm
        · exact .inl (hown2 b i hm)
        · exact .inr hm
    · have hro' := h.obs p hp
      have := RO.sub (fo := .own) (fr := fun j off => if j = k then .undef else .ref j off) hkeep p.1 p.2 (upd_ne γ g (hk p hp)) (fun b hb => c.block b (own_lt h hp hb) fun _ hf => hf) (γ' := upd γ k g) (o' := (k, ob) :: o) ho hr (fun j i off u hv => he j i off u hv) hro'
      have e : p.2.sub .own (fun j off => if j = k then .undef else .ref j off) = p.2 := by
        have hn := hko p hp
        obtain ⟨id, ob'⟩ := p
        cases ob' with
        | box cs => simp only [Ob.sub]; rw [subL_nk n1 n2 cs hn]
        | tok n xs => rfl
        | arr g' n es => simp only [Ob.sub]; rw [subE_nk n1 n2 es hn]
        | map es => simp only [Ob.sub]; rw [subM_nk n1 n2 es hn]
      rwa [e] at this
  · intro as vs hka hv
    have := RVL.sub hd ho hr (fun j i off u hv => he j i off u hv) as vs hv
    rwa [subL_nk n1 n2 as hka] at this
  · intro b i hm
    rcases hown b i hm with hm | ⟨hb, _⟩
    · exact .inl hm
    · exact .inr (hg b hb).1
  · intro id ob' hl hkd
    exact ⟨by rw [upd_ne γ g (hlk2 hl)], ob', by rw [hlk (hlk2 hl)]; exact hl, rfl⟩
end Go.Ab

namespace Go.Ab
/-- slices.Grow of a slice of none: a new one with room, of no elements. -/
def GGrow : List AV → Obs → Option (List AV × Obs)
  | [.tight 1 [], .d (.v (.int .i64 n))], [] => if 0 < n ∧ n ≤ lim then some ([.own (1, 0)], [((1, 0), .tok 1 [])]) else if n = 0 then some ([.tight 1 []], []) else none
  | _, _ => none
theorem turns_grow {P : Program} {T : Ctx} {f : FuncId} (hfn : FnOk P f)
    (hc : ∀ (base : Option Addr) (n : Int) (W : World), 0 < n → n ≤ lim → Calls P f #[.slice base 0 0, .int .i64 n] W fun e w' => ∃ (cap : Nat) (arr : Array Value) (ty : TypeId), e = .returned (.slice (some ⟨W.heap.size, 0, none⟩) 0 cap) ∧ w' = W.drew.alloc (.cells arr ty) ∧ cap = arr.size)
    (h0 : ∀ (base : Option Addr) (W : World), Calls P f #[.slice base 0 0, .int .i64 0] W fun e w' => e = .returned (.slice base 0 0) ∧ w' = W) : Turns P T f GGrow := by
  intro as o rs o' hG
  unfold GGrow at hG
  split at hG
  · rename_i n
    have arg : ∀ {γ : Gam} {M : Mut} {w : World} {vs : List Value}, RVL γ [] M w [AV.tight 1 [], AV.d (.v (.int .i64 n))] vs → ∃ base, vs = [.slice base 0 0, .int .i64 n] := by
      intro γ M w vs hv
      simp only [RVL, RV, Rd] at hv
      obtain ⟨u, us, rfl, ⟨⟨a, len, cap, rfl, h1, h2, h3, _⟩, a', len', h4⟩, u2, us2, rfl, rfl, rfl⟩ := hv
      injection h4 with h5 h6 h7
      simp only [List.length_nil] at h1
      subst h1
      subst h6
      subst h7
      exact ⟨a, rfl⟩
    split at hG
    · rename_i hn
      injection hG with hG
      injection hG with e1 e2
      subst e1 e2
      refine ⟨hfn, fun γ N w vs hz hinv hv hGl => ?_⟩
      obtain ⟨base, rfl⟩ := arg hv
      refine (hc base n w hn.1 hn.2).mono ?_
      rintro e w' ⟨cap, arr, ty, rfl, rfl, hcap⟩
      have hb : (w.drew.alloc (.cells arr ty)).heap[w.heap.size]? = some (.cells arr ty (0, 0)) := by
        exact heap_alloc w.drew _
      refine ⟨fun k => if k = (1, 0) then ⟨some w.heap.size, cap, .slice none 0 0, 0⟩ else γ k, [.slice (some ⟨w.heap.size, 0, none⟩) 0 cap], ⟨by simp, ?_, ?_, ?_, ?_⟩, ?_, rfl, ?_, ?_, ?_⟩
      · intro p hp q hq b _ _
        simp only [List.mem_singleton] at hp hq
        rw [hp, hq]
      · intro p hp b h1 i hN
        simp only [List.mem_singleton] at hp
        subst hp
        simp only [if_true, Option.some.injEq] at h1
        subst h1
        exact Nat.lt_irrefl _ (hinv.old _ _ hN)
      · intro b i hN
        have := hinv.old _ _ hN
        have h2 := (Chg.alloc w.drew (.cells arr ty)).size
        exact Nat.lt_of_lt_of_le this h2
      · intro p hp
        simp only [List.mem_singleton] at hp
        subst hp
        simp only [RO, if_true]
        exact ⟨arr, ty, hb, Nat.zero_le _, by omega, by simp [RdE]⟩
      · simp only [RVL, RV]
        exact ⟨_, _, rfl, ⟨.tok 1 [], .n 0, rfl, rfl, rfl⟩, rfl⟩
      · exact ((Chg.drew w).trans (Chg.alloc w.drew _) (fun _ _ h => h.elim)).mono fun _ _ _ h => h.elim
      · rintro b i ⟨p, hp, h1, _⟩
        simp only [List.mem_singleton] at hp
        subst hp
        simp only [if_true, Option.some.injEq] at h1
        exact .inr (by omega)
      · intro id ob hl
        simp [lookup] at hl
    · split at hG
      · rename_i hn
        injection hG with hG
        injection hG with e1 e2
        subst e1 e2 hn
        refine ⟨hfn, fun γ N w vs hz hinv hv hGl => ?_⟩
        obtain ⟨base, rfl⟩ := arg hv
        refine (h0 base w).mono ?_
        rintro e w' ⟨rfl, rfl⟩
        refine ⟨γ, [.slice base 0 0], hinv, ?_, rfl, Chg.refl _ _, fun b i h => .inl h, fun id ob hl => by simp [lookup] at hl⟩
        simp only [RVL, RV, Rd]
        exact ⟨_, _, rfl, ⟨⟨base, 0, 0, rfl, rfl, Nat.le_refl _, fun _ => rfl, fun p hp => by simp only [RdE]⟩, base, 0, rfl⟩, rfl⟩
      · simp at hG
  · simp at hG
end Go.Ab
