/- One text of a proof that a law of this seat says true for every input: an evaluator of code over data, and that it tells the truth. It holds of the given program under the conditions that the row prints. -/
import Derived.Test.YtmnidmkahpfaaaaGreatDoorAbLibs
import Derived.Test.YtmnidmkahpfaaaaGreatDoorAbK
set_option linter.unusedSimpArgs false
set_option linter.unusedVariables false
set_option linter.unusedSectionVars false
namespace Go.Ab
open Go.Proofs Go.Sort
/-- the texts of a list -/
def strsD : List D → Option (List (List UInt8))
  | [] => some []
  | .s l :: r => match strsD r with | some ls => some (l :: ls) | none => none
  | _ => none
theorem strsD_map : ∀ ls : List (List UInt8), strsD (ls.map .s) = some ls
  | [] => rfl
  | l :: r => by simp only [List.map_cons, strsD, strsD_map r]
theorem strsD_some : ∀ {xs : List D} {ls : List (List UInt8)}, strsD xs = some ls → xs = ls.map .s
  | [], ls, h => by simp [strsD] at h; subst h; rfl
  | x :: r, ls, h => by
    cases x <;> simp only [strsD] at h <;> try (cases h; done)
    split at h
    · rename_i ls' h'
      cases h
      rw [strsD_some h']
      rfl
    · cases h
/-- a list of texts: its cells -/
theorem strs_cells {N : Mut} {w : World} {ls : List (List UInt8)} {p : Addr} (h : RdE N w 1 (ls.map .s) p 0) (hne : ls ≠ []) :
    p = ⟨p.block, p.off, none⟩ ∧ p.block < w.heap.size ∧ ∀ j l, ls[j]? = some l → w.cell? ⟨p.block, p.off + j, none⟩ = some (.string ⟨l.toArray⟩) := by
  have hc : ∀ j l, ls[j]? = some l → w.cell? (p.add j) = some (.string ⟨l.toArray⟩) := fun j l hj => by
    have := RdE_get N w 1 _ p 0 j (.s l) h (by simp [hj])
    rw [RdX_iff] at this
    simp only [D.cells, RdC, Rd, and_true] at this
    obtain ⟨_, _, u, hu, _, rfl⟩ := this
    simpa using hu
  cases ls with
  | nil => exact absurd rfl hne
  | cons l r =>
    have h0 := hc 0 l (by simp)
    have e0 : p.add 0 = p := by simp [Addr.add]
    rw [e0] at h0
    have e : p = ⟨p.block, p.off, none⟩ := cell_spot h0
    refine ⟨e, cell_lt h0, fun j l' hj => ?_⟩
    have := hc j l' hj
    rw [e] at this
    simpa [add_plain] using this
variable {glob : Nat → Option (List D)}
/-- slices.Clone at texts -/
def FClS : List D → Option (List D)
  | [.sl 1 xs] => match strsD xs with
    | some ls => if ls.length ≤ lim then some [.sl 1 xs] else none
    | none => none
  | _ => none
/-- slices.Clone where there is nothing -/
def FCl0 : List D → Option (List D)
  | [.sl 1 []] => some [.sl 1 []]
  | _ => none
/-- slices.Sort where there is nothing -/
def FSo0 : List D → Option (List D)
  | [.sl 1 []] => some []
  | _ => none
theorem FClS_ok : Pure Tryz.prog (mkCtx tab glob) 14 FClS := by
  refine Pure.mk' Tryz.func14 (by kernel_rfl) (by kernel_rfl) fun ds rs hF N w vs hN hG hv => ?_
  unfold FClS at hF
  split at hF
  · rename_i xs
    split at hF
    · rename_i ls hls
      split at hF
      · rename_i hb
        cases hF
        obtain rfl := strsD_some hls
        obtain ⟨u, rfl, hu⟩ := rd1 hv
        simp only [Rd] at hu
        obtain ⟨a, len, cap, rfl, h1, h2, h3, h4⟩ := hu
        simp only [List.length_map] at h1
        subst h1
        have hl : lim = 4294967296 := rfl
        cases a with
        | none =>
          have h5 := h3 rfl
          subst h5
          have : ls = [] := List.length_eq_zero_iff.1 (by omega)
          subst this
          refine (Tryz.slices_Clone_string_nil _ _ w).mono ?_
          rintro e w' ⟨rfl, rfl⟩
          refine ⟨[_], one_us ?_, rfl, Chg.refl _ _⟩
          simp only [Rd]
          exact ⟨none, 0, 0, rfl, rfl, Nat.le_refl _, fun _ => rfl, fun p hp => by simp at hp⟩
        | some q =>
          by_cases hne : ls = []
          · subst hne
            refine (Tryz.slices_Clone_string_zero q cap w).mono ?_
            rintro e w' ⟨v', rfl, hrow, _, hbl⟩
            exact ⟨[_], one_us (rd_ownsRow (l := []) hrow hN), rfl, Chg.below.2 hbl⟩
          · obtain ⟨e1, e2, e3⟩ := strs_cells (h4 q rfl) hne
            rw [e1]
            have := Tryz.slices_Clone_string q.block q.off ls.length cap (ls.map fun l => ⟨l.toArray⟩) w (by simp) (by omega) (fun j hj => by
              simp only [List.length_map] at hj
              rw [e3 j _ (List.getElem?_eq_getElem hj)]
              simp [List.getD_eq_getElem?_getD, hj])
            refine this.mono ?_
            rintro e w' ⟨v', rfl, hrow, _, hbl⟩
            have e4 : ((ls.map fun l => (⟨l.toArray⟩ : ByteArray)).take ls.length).map Value.string = ls.map encStr := by
              rw [List.take_of_length_le (by simp), List.map_map]
              rfl
            rw [e4] at hrow
            exact ⟨[_], one_us (rd_ownsRow hrow hN), rfl, Chg.below.2 hbl⟩
      · simp at hF
    · simp at hF
  · simp at hF
theorem FCl0_ok : Pure Tryz.prog (mkCtx tab glob) 34 FCl0 := by
  refine Pure.mk' Tryz.func34 (by kernel_rfl) (by kernel_rfl) fun ds rs hF N w vs hN hG hv => ?_
  unfold FCl0 at hF
  split at hF
  · cases hF
    obtain ⟨u, rfl, hu⟩ := rd1 hv
    simp only [Rd] at hu
    obtain ⟨a, len, cap, rfl, h1, h2, h3, h4⟩ := hu
    simp only [List.length_nil] at h1
    subst h1
    cases a with
    | none =>
      have h5 := h3 rfl
      subst h5
      refine (Tryz.slices_Clone_int_nil _ _ w).mono ?_
      rintro e w' ⟨rfl, rfl⟩
      refine ⟨[_], one_us ?_, rfl, Chg.refl _ _⟩
      simp only [Rd]
      exact ⟨none, 0, 0, rfl, rfl, Nat.le_refl _, fun _ => rfl, fun p hp => by simp at hp⟩
    | some q =>
      refine (Tryz.slices_Clone_int_zero q cap w).mono ?_
      rintro e w' ⟨v', rfl, hrow, _, hbl⟩
      refine ⟨[_], one_us ?_, rfl, Chg.below.2 hbl⟩
      obtain ⟨_, h⟩ := hrow
      simp only [Rd]
      rcases h with ⟨rfl, _⟩ | ⟨g, cap', cur, rfl, _⟩
      · exact ⟨none, 0, 0, rfl, rfl, Nat.le_refl _, fun _ => rfl, fun p hp => by simp at hp⟩
      · exact ⟨some ⟨g, 0, none⟩, 0, cap', rfl, rfl, Nat.zero_le _, fun h => by simp at h, fun p hp => trivial⟩
  · simp at hF
theorem FSoI_ok : Pure Tryz.prog (mkCtx tab glob) 50 FSo0 := by
  refine Pure.mk' Tryz.func50 (by kernel_rfl) (by kernel_rfl) fun ds rs hF N w vs hN hG hv => ?_
  unfold FSo0 at hF
  split at hF
  · cases hF
    obtain ⟨u, rfl, hu⟩ := rd1 hv
    simp only [Rd] at hu
    obtain ⟨a, len, cap, rfl, h1, h2, h3, h4⟩ := hu
    simp only [List.length_nil] at h1
    subst h1
    refine (Tryz.slices_Sort_int_none a cap w).mono ?_
    rintro e w' ⟨rfl, rfl⟩
    exact ⟨[], rfl, rfl, Chg.refl _ _⟩
  · simp at hF
theorem FCoI_ok : Pure Tryz.prog (mkCtx tab glob) 51 FCl0 := by
  refine Pure.mk' Tryz.func51 (by kernel_rfl) (by kernel_rfl) fun ds rs hF N w vs hN hG hv => ?_
  unfold FCl0 at hF
  split at hF
  · cases hF
    obtain ⟨u, rfl, hu⟩ := rd1 hv
    have hu2 := hu
    simp only [Rd] at hu
    obtain ⟨a, len, cap, rfl, h1, h2, h3, h4⟩ := hu
    simp only [List.length_nil] at h1
    subst h1
    refine (Tryz.slices_Compact_int_empty a cap w).mono ?_
    rintro e w' ⟨rfl, rfl⟩
    exact ⟨[_], one_us hu2, rfl, Chg.refl _ _⟩
  · simp at hF
theorem FSoS_ok : Pure Tryz.prog (mkCtx tab glob) 64 FSo0 := by
  refine Pure.mk' Tryz.func64 (by kernel_rfl) (by kernel_rfl) fun ds rs hF N w vs hN hG hv => ?_
  unfold FSo0 at hF
  split at hF
  · cases hF
    obtain ⟨u, rfl, hu⟩ := rd1 hv
    simp only [Rd] at hu
    obtain ⟨a, len, cap, rfl, h1, h2, h3, h4⟩ := hu
    simp only [List.length_nil] at h1
    subst h1
    refine (Tryz.slices_Sort_string_none a cap w).mono ?_
    rintro e w' ⟨rfl, rfl⟩
    exact ⟨[], rfl, rfl, Chg.refl _ _⟩
  · simp at hF
theorem FCoS_ok : Pure Tryz.prog (mkCtx tab glob) 65 FCl0 := by
  refine Pure.mk' Tryz.func65 (by kernel_rfl) (by kernel_rfl) fun ds rs hF N w vs hN hG hv => ?_
  unfold FCl0 at hF
  split at hF
  · cases hF
    obtain ⟨u, rfl, hu⟩ := rd1 hv
    have hu2 := hu
    simp only [Rd] at hu
    obtain ⟨a, len, cap, rfl, h1, h2, h3, h4⟩ := hu
    simp only [List.length_nil] at h1
    subst h1
    refine (Tryz.slices_Compact_string_empty a cap w).mono ?_
    rintro e w' ⟨rfl, rfl⟩
    exact ⟨[_], one_us hu2, rfl, Chg.refl _ _⟩
  · simp at hF
end Go.Ab
