/- One text of a proof that a law of this seat says true for every input: an evaluator of code over data, and that it tells the truth. It holds of the given program under the conditions that the row prints. -/
import Derived.Test.YtnpbeikcgagacaaGreatDoorAbLibs
import Derived.Test.YtnpbeikcgagacaaGreatDoorAbK
import Derived.Test.YtnpbeikcgagacaaGreatDoorAbN
import Derived.Test.YtnpbeikcgagacaaGreatDoorAbG
import Derived.Test.YtnpbeikcgagacaaGreatDoorAbAnn
import Derived.Below
import Derived.OwnWalk
import Derived.RegionTactic
set_option linter.unusedSimpArgs false
set_option linter.unusedVariables false
set_option linter.unusedSectionVars false
namespace Go.Ab
open Go.Proofs Go.Sort
/-- the texts of a list -/
def strsD : List D → Option (List (List UInt8))
  | [] => some []
  | .s l :: r => match strsD r with | some ls => some (l :: ls) | none => none
  | _ => none
theorem strsD_map : ∀ ls : List (List UInt8), strsD (ls.map .s) = some ls
  | [] => rfl
  | l :: r => by simp only [List.map_cons, strsD, strsD_map r]
theorem strsD_some : ∀ {xs : List D} {ls : List (List UInt8)}, strsD xs = some ls → xs = ls.map .s
  | [], ls, h => by simp [strsD] at h; subst h; rfl
  | x :: r, ls, h => by
    cases x <;> simp only [strsD] at h <;> try (cases h; done)
    split at h
    · rename_i ls' h'
      cases h
      rw [strsD_some h']
      rfl
    · cases h
/-- a list of texts: its cells -/
theorem strs_cells {N : Mut} {w : World} {ls : List (List UInt8)} {p : Addr} (h : RdE N w 1 (ls.map .s) p 0) (hne : ls ≠ []) :
    p = ⟨p.block, p.off, none⟩ ∧ p.block < w.heap.size ∧ ∀ j l, ls[j]? = some l → w.cell? ⟨p.block, p.off + j, none⟩ = some (.string ⟨l.toArray⟩) := by
  have hc : ∀ j l, ls[j]? = some l → w.cell? (p.add j) = some (.string ⟨l.toArray⟩) := fun j l hj => by
    have := RdE_get N w 1 _ p 0 j (.s l) h (by simp [hj])
    rw [RdX_iff] at this
    simp only [D.cells, RdC, Rd, and_true] at this
    obtain ⟨_, _, u, hu, _, rfl⟩ := this
    simpa using hu
  cases ls with
  | nil => exact absurd rfl hne
  | cons l r =>
    have h0 := hc 0 l (by simp)
    have e0 : p.add 0 = p := by simp [Addr.add]
    rw [e0] at h0
    have e : p = ⟨p.block, p.off, none⟩ := cell_spot h0
    refine ⟨e, cell_lt h0, fun j l' hj => ?_⟩
    have := hc j l' hj
    rw [e] at this
    simpa [add_plain] using this
variable {glob : Nat → Option (List D)}
/-- slices.Clone at texts -/
def FClS : List D → Option (List D)
  | [.sl 1 xs] => match strsD xs with
    | some ls => if ls.length ≤ lim then some [.sl 1 xs] else none
    | none => none
  | _ => none
/-- slices.Clone where there is nothing -/
def FCl0 : List D → Option (List D)
  | [.sl 1 []] => some [.sl 1 []]
  | _ => none
/-- slices.Sort where there is nothing -/
def FSo0 : List D → Option (List D)
  | [.sl 1 []] => some []
  | _ => none
theorem FClS_ok : Pure Tryz.prog (mkCtx tab glob) 25 FClS := by
  refine Pure.mk' Tryz.func25 (by kernel_rfl) (by kernel_rfl) fun ds rs hF N w vs hN hG hv => ?_
  unfold FClS at hF
  split at hF
  · rename_i xs
    split at hF
    · rename_i ls hls
      split at hF
      · rename_i hb
        cases hF
        obtain rfl := strsD_some hls
        obtain ⟨u, rfl, hu⟩ := rd1 hv
        simp only [Rd] at hu
        obtain ⟨a, len, cap, rfl, h1, h2, h3, h4⟩ := hu
        simp only [List.length_map] at h1
        subst h1
        have hl : lim = 4294967296 := rfl
        cases a with
        | none =>
          have h5 := h3 rfl
          subst h5
          have : ls = [] := List.length_eq_zero_iff.1 (by omega)
          subst this
          refine (Tryz.slices_Clone_string_nil _ _ w).mono ?_
          rintro e w' ⟨rfl, rfl⟩
          refine ⟨[_], one_us ?_, rfl, Chg.refl _ _⟩
          simp only [Rd]
          exact ⟨none, 0, 0, rfl, rfl, Nat.le_refl _, fun _ => rfl, fun p hp => by simp at hp⟩
        | some q =>
          by_cases hne : ls = []
          · subst hne
            refine (Tryz.slices_Clone_string_zero q cap w).mono ?_
            rintro e w' ⟨v', rfl, hrow, _, hbl⟩
            exact ⟨[_], one_us (rd_ownsRow (l := []) hrow hN), rfl, Chg.below.2 hbl⟩
          · obtain ⟨e1, e2, e3⟩ := strs_cells (h4 q rfl) hne
            rw [e1]
            have := Tryz.slices_Clone_string q.block q.off ls.length cap (ls.map fun l => ⟨l.toArray⟩) w (by simp) (by omega) (fun j hj => by
              simp only [List.length_map] at hj
              rw [e3 j _ (List.getElem?_eq_getElem hj)]
              simp [List.getD_eq_getElem?_getD, hj])
            refine this.mono ?_
            rintro e w' ⟨v', rfl, hrow, _, hbl⟩
            have e4 : ((ls.map fun l => (⟨l.toArray⟩ : ByteArray)).take ls.length).map Value.string = ls.map encStr := by
              rw [List.take_of_length_le (by simp), List.map_map]
              rfl
            rw [e4] at hrow
            exact ⟨[_], one_us (rd_ownsRow hrow hN), rfl, Chg.below.2 hbl⟩
      · simp at hF
    · simp at hF
  · simp at hF
theorem FSoI_ok : Pure Tryz.prog (mkCtx tab glob) 80 FSo0 := by
  refine Pure.mk' Tryz.func80 (by kernel_rfl) (by kernel_rfl) fun ds rs hF N w vs hN hG hv => ?_
  unfold FSo0 at hF
  split at hF
  · cases hF
    obtain ⟨u, rfl, hu⟩ := rd1 hv
    simp only [Rd] at hu
    obtain ⟨a, len, cap, rfl, h1, h2, h3, h4⟩ := hu
    simp only [List.length_nil] at h1
    subst h1
    refine (Tryz.slices_Sort_int_none a cap w).mono ?_
    rintro e w' ⟨rfl, rfl⟩
    exact ⟨[], rfl, rfl, Chg.refl _ _⟩
  · simp at hF
theorem FSoS_ok : Pure Tryz.prog (mkCtx tab glob) 77 FSo0 := by
  refine Pure.mk' Tryz.func77 (by kernel_rfl) (by kernel_rfl) fun ds rs hF N w vs hN hG hv => ?_
  unfold FSo0 at hF
  split at hF
  · cases hF
    obtain ⟨u, rfl, hu⟩ := rd1 hv
    simp only [Rd] at hu
    obtain ⟨a, len, cap, rfl, h1, h2, h3, h4⟩ := hu
    simp only [List.length_nil] at h1
    subst h1
    refine (Tryz.slices_Sort_string_none a cap w).mono ?_
    rintro e w' ⟨rfl, rfl⟩
    exact ⟨[], rfl, rfl, Chg.refl _ _⟩
  · simp at hF
theorem FCoS_ok : Pure Tryz.prog (mkCtx tab glob) 85 FCl0 := by
  refine Pure.mk' Tryz.func85 (by kernel_rfl) (by kernel_rfl) fun ds rs hF N w vs hN hG hv => ?_
  unfold FCl0 at hF
  split at hF
  · cases hF
    obtain ⟨u, rfl, hu⟩ := rd1 hv
    have hu2 := hu
    simp only [Rd] at hu
    obtain ⟨a, len, cap, rfl, h1, h2, h3, h4⟩ := hu
    simp only [List.length_nil] at h1
    subst h1
    refine (Tryz.slices_Compact_string_empty a cap w).mono ?_
    rintro e w' ⟨rfl, rfl⟩
    exact ⟨[_], one_us hu2, rfl, Chg.refl _ _⟩
  · simp at hF
end Go.Ab

namespace Go.Ab
open Go.Proofs Go.Sort
/-- slices.Clone at texts: a new slice, with what room there is. -/
def GClS : List AV → Obs → Option (List AV × Obs)
  | [x], o => match x.data o with
    | some (.sl 1 xs) => (match strsD xs with
      | some ls => if ls.length ≤ lim ∧ (o.all fun p => !p.2.idsB.contains (1, 0)) = true then some ([.own (1, 0)], ((1, 0), .tok 1 xs) :: o) else none
      | none => none)
    | _ => none
  | _, _ => none
/-- A new row is a slice of the frame's own. -/
theorem row_new {w w' : World} {et : TypeId} {v : Value} {ls : List (List UInt8)} (hrow : w'.ownsRow w.heap.size et 1 v ls.length (ls.map encStr)) (hbl : RowKit.Below w.heap.size w w') {γ : Gam} {N : Mut} {o : Obs} (hz : ∀ p ∈ o, p.1.1 = 0) (hinv : Inv γ N o w) (hko : ∀ p ∈ o, (1, 0) ∉ p.2.idsB) :
    ∃ γ' us, Inv γ' N (((1, 0), .tok 1 (ls.map .s)) :: o) w' ∧ RVL γ' (((1, 0), .tok 1 (ls.map .s)) :: o) (all γ' N (((1, 0), .tok 1 (ls.map .s)) :: o)) w' [.own (1, 0)] us ∧ Ending.returned v = .returned (pack us) ∧ Chg (own γ o) w w' ∧ (∀ b i, own γ' (((1, 0), .tok 1 (ls.map .s)) :: o) b i → own γ o b i ∨ w.heap.size ≤ b) ∧
      ∀ id ob, lookup id o = some ob → ob.kd ≠ 0 → (γ' id).b = (γ id).b ∧ ∃ ob', lookup id (((1, 0), .tok 1 (ls.map .s)) :: o) = some ob' ∧ ob'.kd = ob.kd := by
  have hch := Chg.below.2 hbl
  have hk : ∀ p ∈ o, p.1 ≠ (1, 0) := fun p hp e => by
    have := hz p hp
    rw [e] at this
    cases this
  obtain ⟨_, hrow⟩ := hrow
  rcases hrow with ⟨rfl, h0⟩ | ⟨g, cap, cur, rfl, hb, hh, h1, h2, h3, h4⟩
  · have : ls = [] := List.length_eq_zero_iff.1 h0
    subst this
    obtain ⟨a1, a2, a3, a4⟩ := hinv.add hch (1, 0) hk hko ⟨none, 0, .slice none 0 0, 0⟩ (.tok 1 []) (fun b hb => by simp at hb) (fun γ' o' M hg _ => by
      simp only [RO, hg, Rd]
      exact ⟨⟨none, 0, 0, rfl, rfl, Nat.le_refl _, fun _ => rfl, fun p hp => by simp at hp⟩, none, 0, rfl⟩)
    refine ⟨_, [.slice none 0 0], a1, ?_, rfl, hch.mono fun _ _ _ hf => hf.elim, a3, a4⟩
    simp only [RVL, RV, lookup, if_true]
    exact ⟨_, _, rfl, ⟨_, .n 0, rfl, rfl, by simp only [slVal, tokVal, upd_same]⟩, rfl⟩
  · have hgl : g < w'.heap.size := (Array.getElem?_eq_some_iff.1 hh).1
    obtain ⟨a1, a2, a3, a4⟩ := hinv.add hch (1, 0) hk hko ⟨some g, cap, .slice none 0 0, 0⟩ (.tok 1 (ls.map .s)) (fun b hb' => by
        simp only [Option.some.injEq] at hb'
        omega) (fun γ' o' M hg hM => by
      simp only [RO, hg]
      refine ⟨cur, _, hh, by simpa using h1, by omega, ?_⟩
      have key : ∀ (r : List (List UInt8)) (i : Nat), (∀ j s, r[j]? = some s → ls[i + j]? = some s) → RdE M w' 1 (r.map .s) ⟨g, 0, none⟩ i := by
        intro r
        induction r with
        | nil => intro i _; simp [RdE]
        | cons s r ih =>
          intro i hr
          rw [List.map_cons, RdE_cons]
          refine ⟨⟨rfl, ?_⟩, ih (i + 1) fun j y hj => by have := hr (j + 1) y (by simpa using hj); rwa [Nat.add_assoc, Nat.add_comm 1 j]⟩
          have h5 := hr 0 s (by simp)
          rw [Nat.add_zero] at h5
          have hil := (List.getElem?_eq_some_iff.1 h5).1
          simp only [D.cells, RdC, and_true]
          refine ⟨rfl, encStr s, ?_, fun hm => ?_, by simp only [Rd]⟩
          · rw [add_plain, Nat.zero_add]
            simp only [World.cell?, hh]
            have h6 : (cur.toList.take (ls.length * 1))[i]? = some (encStr s) := by rw [h4]; simp [h5]
            rw [List.getElem?_take] at h6
            split at h6
            · simpa using h6
            · cases h6
          · rw [add_plain, Nat.zero_add] at hm
            rcases hM _ _ hm with h7 | ⟨_, h7⟩
            · simp only at h7
              omega
            · simp only [Ob.may, List.length_map] at h7
              omega
      exact key ls 0 fun j s hj => by simpa using hj)
    refine ⟨_, [.slice (some ⟨g, 0, none⟩) ls.length cap], a1, ?_, rfl, hch.mono fun _ _ _ hf => hf.elim, a3, a4⟩
    simp only [RVL, RV, lookup, if_true]
    exact ⟨_, _, rfl, ⟨_, .n ls.length, rfl, by simp [Ob.sl], by simp only [slVal, tokVal, upd_same]⟩, rfl⟩
theorem GClS_ok (T : Ctx) : Turns Tryz.prog T 25 GClS := by
  intro as0 o rs o' hG
  unfold GClS at hG
  split at hG
  · rename_i x
    split at hG
    · rename_i xs hx
      split at hG
      · rename_i ls hls
        split at hG
        · rename_i hc
          injection hG with hG
          injection hG with e1 e2
          subst e1 e2
          refine ⟨⟨_, Tryz.func25, by kernel_rfl, by kernel_rfl⟩, fun γ N w vs hz hinv hv hGl => ?_⟩
          obtain rfl := strsD_some hls
          simp only [RVL] at hv
          obtain ⟨u, us, rfl, hu, rfl⟩ := hv
          have hu := data_ok hinv _ _ _ hu hx
          simp only [Rd] at hu
          obtain ⟨a, len, cap, rfl, h1, h2, h3, h4⟩ := hu
          simp only [List.length_map] at h1
          subst h1
          have hl : lim = 4294967296 := rfl
          have hko : ∀ p ∈ o, (1, 0) ∉ p.2.idsB := fun p hp hm => by
            have := List.all_eq_true.1 hc.2 p hp
            have h8 : p.2.idsB.contains (1, 0) = true := by rw [List.contains_iff_mem]; exact hm
            rw [h8] at this
            cases this
          cases a with
          | none =>
            have h5 := h3 rfl
            subst h5
            have : ls = [] := List.length_eq_zero_iff.1 (by omega)
            subst this
            refine (Tryz.slices_Clone_string_nil _ _ w).mono ?_
            rintro e w' ⟨rfl, rfl⟩
            exact row_new (et := 0) (ls := []) ⟨rfl, .inl ⟨rfl, rfl⟩⟩ (RowKit.Below.refl _ _) hz hinv hko
          | some q =>
            by_cases hne : ls = []
            · subst hne
              refine (Tryz.slices_Clone_string_zero q cap w).mono ?_
              rintro e w' ⟨v', rfl, hrow, _, hbl⟩
              exact row_new (ls := []) hrow hbl hz hinv hko
            · obtain ⟨e1, e2, e3⟩ := strs_cells (h4 q rfl) hne
              rw [e1]
              have := Tryz.slices_Clone_string q.block q.off ls.length cap (ls.map fun l => ⟨l.toArray⟩) w (by simp) (by omega) (fun j hj => by
                simp only [List.length_map] at hj
                rw [e3 j _ (List.getElem?_eq_getElem hj)]
                simp [List.getD_eq_getElem?_getD, hj])
              refine this.mono ?_
              rintro e w' ⟨v', rfl, hrow, _, hbl⟩
              have e4 : ((ls.map fun l => (⟨l.toArray⟩ : ByteArray)).take ls.length).map Value.string = ls.map encStr := by
                rw [List.take_of_length_le (by simp), List.map_map]
                rfl
              rw [e4] at hrow
              exact row_new hrow hbl hz hinv hko
        · cases hG
      · cases hG
    · cases hG
  · cases hG
end Go.Ab

set_option maxRecDepth 100000
namespace Go.Ab
open Go.Proofs Go.Sort Go.RowKit
/-! names.Sorted: a copy, sorted, each text once -/
theorem clone_row {N : Mut} {w : World} {a : Option Addr} {len cap : Nat} {ls : List (List UInt8)} (h : Rd N w (.sl 1 (ls.map .s)) (.slice a len cap)) (hb : ls.length ≤ lim) :
    Calls Tryz.prog 25 #[.slice a len cap] w fun e w' => ∃ v, e = .returned v ∧ w'.ownsRow w.heap.size 9 1 v ls.length (ls.map encStr) ∧ RowKit.Below w.heap.size w w' := by
  simp only [Rd] at h
  obtain ⟨a', len', cap', e0, h1, h2, h3, h4⟩ := h
  injection e0 with e1 e2 e3
  subst e1 e2 e3
  simp only [List.length_map] at h1
  subst h1
  have hl : lim = 4294967296 := rfl
  cases a with
  | none =>
    have h5 := h3 rfl
    subst h5
    have : ls = [] := List.length_eq_zero_iff.1 (by omega)
    subst this
    refine (Tryz.slices_Clone_string_nil _ _ w).mono ?_
    rintro e w' ⟨rfl, rfl⟩
    exact ⟨_, rfl, ⟨rfl, .inl ⟨rfl, rfl⟩⟩, RowKit.Below.refl _ _⟩
  | some q =>
    by_cases hne : ls = []
    · subst hne
      refine (Tryz.slices_Clone_string_zero q cap w).mono ?_
      rintro e w' ⟨v', rfl, hrow, _, hbl⟩
      exact ⟨_, rfl, hrow, hbl⟩
    · obtain ⟨e1, e2, e3⟩ := strs_cells (h4 q rfl) hne
      rw [e1]
      have := Tryz.slices_Clone_string q.block q.off ls.length cap (ls.map fun l => ⟨l.toArray⟩) w (by simp) (by omega) (fun j hj => by
        simp only [List.length_map] at hj
        rw [e3 j _ (List.getElem?_eq_getElem hj)]
        simp [List.getD_eq_getElem?_getD, hj])
      refine this.mono ?_
      rintro e w' ⟨v', rfl, hrow, _, hbl⟩
      have e4 : ((ls.map fun l => (⟨l.toArray⟩ : ByteArray)).take ls.length).map Value.string = ls.map encStr := by
        rw [List.take_of_length_le (by simp), List.map_map]
        rfl
      rw [e4] at hrow
      exact ⟨_, rfl, hrow, hbl⟩
theorem sort_row {w : World} {B : Nat} {t : TypeId} {v : Value} {ls : List (List UInt8)} (h : w.ownsRow B t 1 v ls.length (ls.map encStr)) (hB : B ≤ w.heap.size) (hb : ls.length ≤ lim) :
    Calls Tryz.prog 77 #[v] w fun e w' => e = .returned (.tuple #[]) ∧ w'.ownsRow B t 1 v ls.length ((isort ls).map encStr) ∧ RowKit.Below B w w' := by
  have hl : lim = 4294967296 := rfl
  obtain ⟨hn, hrow⟩ := h
  rcases hrow with ⟨rfl, h0⟩ | ⟨g, cap, cur, rfl, hg, hh, h1, h2, h3, h4⟩
  · have : ls = [] := List.length_eq_zero_iff.1 h0
    subst this
    refine (Tryz.slices_Sort_string_none none 0 w).mono ?_
    rintro e w' ⟨rfl, rfl⟩
    exact ⟨rfl, ⟨rfl, .inl ⟨rfl, rfl⟩⟩, RowKit.Below.refl _ _⟩
  · have hgl : g < w.heap.size := (Array.getElem?_eq_some_iff.1 hh).1
    refine (Tryz.slices_Sort_string g 0 cap ls w (holds_of_block hh (by simpa using h4)) hgl (by omega)).mono ?_
    rintro e w' ⟨rfl, nn, os, rfl⟩
    have hms : (ls.mergeSort fun x y => decide (x ≤ y)) = isort ls := isort_merge ls
    rw [hms]
    exact ⟨rfl, ownsRow_sorted (isort_perm ls).length_eq hg hh h1 h2 h3, (RowKit.Below.refl B w).grown (grownBy_sorted _) hB (fun k hk => by injection hk with hk; omega)⟩
theorem comp_row {w : World} {B : Nat} {t : TypeId} {v : Value} {ls : List (List UInt8)} (h : w.ownsRow B t 1 v ls.length (ls.map encStr)) (hB : B ≤ w.heap.size) (hb : ls.length ≤ lim) :
    Calls Tryz.prog 85 #[v] w fun e w' => ∃ v', e = .returned v' ∧ w'.ownsRow B t 1 v' (dedB ls).length ((dedB ls).map encStr) ∧ RowKit.Below B w w' := by
  have hl : lim = 4294967296 := rfl
  obtain ⟨hn, hrow⟩ := h
  rcases hrow with ⟨rfl, h0⟩ | ⟨g, cap, cur, rfl, hg, hh, h1, h2, h3, h4⟩
  · have : ls = [] := List.length_eq_zero_iff.1 h0
    subst this
    refine (Tryz.slices_Compact_string_empty none 0 w).mono ?_
    rintro e w' ⟨rfl, rfl⟩
    exact ⟨_, rfl, ⟨rfl, .inl ⟨rfl, rfl⟩⟩, RowKit.Below.refl _ _⟩
  · have hgl : g < w.heap.size := (Array.getElem?_eq_some_iff.1 hh).1
    refine (Tryz.slices_Compact_string g 0 cap ls w (holds_of_block hh (by simpa using h4)) (by omega) h1).mono ?_
    rintro e w' ⟨rfl, nn, rfl⟩
    rw [dedB_eq ls]
    have hlen : (dedB ls).length ≤ ls.length := by
      have : ∀ (l : List (List UInt8)) (p : List UInt8), (dedA p l).length ≤ l.length := by
        intro l
        induction l with
        | nil => intro p; simp [dedA]
        | cons a l ih =>
          intro p
          simp only [dedA]
          cases p == a with
          | true => have := ih a; simp; omega
          | false => have := ih a; simp; omega
      cases ls with
      | nil => simp [dedB]
      | cons a l => have := this l a; simp [dedB]; omega
    have hcur : ls.length ≤ cur.size := by
      have := congrArg List.length h4
      simp at this
      omega
    have hle : (dedB ls ++ List.replicate (ls.length - (dedB ls).length) []).length ≤ cur.size := by
      simp
      omega
    have hgrow : putRow encStr (Sort.ahead w nn) g 0 (dedB ls ++ List.replicate (ls.length - (dedB ls).length) []).toArray = grow (putRow encStr (Sort.ahead w nn) g 0 (dedB ls ++ List.replicate (ls.length - (dedB ls).length) []).toArray) #[] := by
      unfold grow
      rw [Array.append_empty]
    rw [hgrow]
    have hput := put_toList cur (dedB ls ++ List.replicate (ls.length - (dedB ls).length) []) hle
    rw [List.map_append, List.append_assoc] at hput
    refine ⟨_, rfl, ⟨by simp, .inr ⟨g, cap, _, rfl, hg, heap_sorted _ hh, by omega, h2, by simp [putCells, h3], ?_⟩⟩, (RowKit.Below.refl B w).grown (grownBy_sorted _) hB (fun k hk => by injection hk with hk; omega)⟩
    rw [hput, Nat.mul_one]
    simp
set_option maxHeartbeats 2000000 in
theorem sorted_row {N : Mut} {w : World} {u : Value} {ls : List (List UInt8)} (h : Rd N w (.sl 1 (ls.map .s)) u) (hb : ls.length ≤ lim) :
    Calls Tryz.prog 61 #[u] w fun e w' => ∃ v, e = .returned v ∧ w'.ownsRow w.heap.size 9 1 v (dedB (isort ls)).length ((dedB (isort ls)).map encStr) ∧ RowKit.Below w.heap.size w w' := by
  have h0 := h
  simp only [Rd] at h0
  obtain ⟨a, len, cap, rfl, _⟩ := h0
  have hc := clone_row h hb
  have hil : (isort ls).length = ls.length := (isort_perm ls).length_eq
  have hs : ∀ {w1 : World} {v1 : Value}, w1.ownsRow w.heap.size 9 1 v1 ls.length (ls.map encStr) → w.heap.size ≤ w1.heap.size → _ := fun {w1 v1} h1 h2 => sort_row (w := w1) (v := v1) h1 h2 hb
  have hd : ∀ {w1 : World} {v1 : Value}, w1.ownsRow w.heap.size 9 1 v1 ls.length ((isort ls).map encStr) → w.heap.size ≤ w1.heap.size → _ := fun {w1 v1} h1 h2 => comp_row (w := w1) (v := v1) (by rw [hil]; exact h1) h2 (by rw [hil]; exact hb)
  go_enter Tryz.func61, Tryz.ntmps61
  go_wp2_with (first
    | (go_at_call 25; refine hc.mono ?_; rintro e w1 ⟨v1, rfl, hr1, hb1⟩)
    | (go_at_call 77; refine (hs hr1 hb1.size).mono ?_; rintro e w2 ⟨rfl, hr2, hb2⟩)
    | (go_at_call 85; refine (hd hr2 (Nat.le_trans hb1.size hb2.size)).mono ?_; rintro e w3 ⟨v3, rfl, hr3, hb3⟩))
  go_ret
  exact ⟨_, rfl, hr3, (hb1.trans hb2).trans hb3⟩
def FSrt : List D → Option (List D)
  | [.sl 1 xs] => match strsD xs with
    | some ls => if ls.length ≤ lim then some [.sl 1 ((dedB (isort ls)).map .s)] else none
    | none => none
  | _ => none
theorem FSrt_ok (T : Ctx) : Pure Tryz.prog T 61 FSrt := by
  refine Pure.mk' Tryz.func61 (by kernel_rfl) (by kernel_rfl) fun ds rs hF N w vs hN hG hv => ?_
  unfold FSrt at hF
  split at hF
  · rename_i xs
    split at hF
    · rename_i ls hls
      split at hF
      · rename_i hb
        cases hF
        obtain rfl := strsD_some hls
        obtain ⟨u, rfl, hu⟩ := rd1 hv
        refine (sorted_row hu hb).mono ?_
        rintro e w' ⟨v, rfl, hrow, hbl⟩
        exact ⟨[_], one_us (rd_ownsRow hrow hN), rfl, Chg.below.2 hbl⟩
      · cases hF
    · cases hF
  · cases hF
end Go.Ab
