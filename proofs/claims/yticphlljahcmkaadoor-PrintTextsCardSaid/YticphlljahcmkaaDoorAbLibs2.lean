/- One text of a proof that a law of this seat says true for every input: an evaluator of code over data, and that it tells the truth. It holds of the given program under the conditions that the row prints. -/
import Derived.Test.YticphlljahcmkaaDoorAbLibs
set_option linter.unusedVariables false
namespace Go.Ab
open Go.Proofs

/-- the texts of a list -/
def strsOf : List D → Option (List (List UInt8))
  | [] => some []
  | .s l :: r => match strsOf r with | some ls => some (l :: ls) | none => none
  | _ => none
theorem strsOf_map : ∀ ls : List (List UInt8), strsOf (ls.map .s) = some ls
  | [] => rfl
  | l :: r => by simp only [List.map_cons, strsOf, strsOf_map r]
theorem strsOf_some : ∀ {xs : List D} {ls : List (List UInt8)}, strsOf xs = some ls → xs = ls.map .s
  | [], ls, h => by simp [strsOf] at h; subst h; rfl
  | x :: r, ls, h => by
    cases x <;> simp only [strsOf] at h <;> try (cases h; done)
    split at h
    · rename_i ls' h'
      cases h
      rw [strsOf_some h']
      rfl
    · cases h
/-- a list of texts: its cells -/
theorem strs_cells {N : Mut} {w : World} {ls : List (List UInt8)} {p : Addr} (h : RdE N w 1 (ls.map .s) p 0) (hne : ls ≠ []) :
    p = ⟨p.block, p.off, none⟩ ∧ p.block < w.heap.size ∧ ∀ j l, ls[j]? = some l → w.cell? ⟨p.block, p.off + j, none⟩ = some (.string ⟨l.toArray⟩) := by
  have hc : ∀ j l, ls[j]? = some l → w.cell? (p.add j) = some (.string ⟨l.toArray⟩) := fun j l hj => by
    have := RdE_get N w 1 _ p 0 j (.s l) h (by simp [hj])
    rw [RdX_iff] at this
    simp only [D.cells, RdC, Rd, and_true] at this
    obtain ⟨_, _, u, hu, _, rfl⟩ := this
    simpa using hu
  cases ls with
  | nil => exact absurd rfl hne
  | cons l r =>
    have h0 := hc 0 l (by simp)
    have e0 : p.add 0 = p := by simp [Addr.add]
    rw [e0] at h0
    have e : p = ⟨p.block, p.off, none⟩ := cell_spot h0
    refine ⟨e, cell_lt h0, fun j l' hj => ?_⟩
    have := hc j l' hj
    rw [e] at this
    simpa [add_plain] using this

variable {glob : Nat → Option (List D)}
/-- strings.HasSuffix -/
def F64 : List D → Option (List D)
  | [.s l, .s p] => if l.length < 4294967281 then some [.v (.bool (Lib.hasSuffix l p))] else none
  | _ => none
theorem F64_ok : Pure Tryd.prog (mkCtx tab glob) 64 F64 := by
  refine Pure.mk' Tryd.func64 (by kernel_rfl) (by kernel_rfl) fun ds rs hF N w vs hN hG hv => ?_
  unfold F64 at hF
  split at hF
  · rename_i l p
    split at hF
    · rename_i hl
      cases hF
      obtain ⟨u, v, rfl, hu, hv2⟩ := rd2 hv
      simp only [Rd] at hu hv2
      subst hu hv2
      refine (Tryd.strings_HasSuffix _ _ _ (by simp [ByteArray.size]; omega)).mono ?_
      rintro e w' ⟨rfl, rfl⟩
      exact ⟨[_], one_us (by simp only [Rd]), rfl, Chg.refl _ _⟩
    · simp at hF
  · simp at hF
/-- strings.CutPrefix -/
def F127 : List D → Option (List D)
  | [.s l, .s p] => some [.s (Lib.trimPrefix l p), .v (.bool (Lib.hasPrefix l p))]
  | _ => none
theorem F127_ok : Pure Tryd.prog (mkCtx tab glob) 127 F127 := by
  refine Pure.mk' Tryd.func127 (by kernel_rfl) (by kernel_rfl) fun ds rs hF N w vs hN hG hv => ?_
  unfold F127 at hF
  split at hF
  · rename_i l p
    cases hF
    obtain ⟨u, v, rfl, hu, hv2⟩ := rd2 hv
    simp only [Rd] at hu hv2
    subst hu hv2
    refine (Tryd.strings_CutPrefix _ _ _).mono ?_
    rintro e w' ⟨rfl, rfl⟩
    refine ⟨[_, _], ?_, rfl, Chg.refl _ _⟩
    simp only [RdL, Rd]
    exact ⟨_, _, rfl, rfl, _, _, rfl, rfl, rfl⟩
  · simp at hF
section
variable {m : Int} (h20 : glob 20 = some [.v (.int .i64 m)])
/-- strings.Contains -/
def F96 : List D → Option (List D)
  | [.s l, .s p] => if l.length < 4294967281 then some [.v (.bool (Lib.contains l p))] else none
  | _ => none
/-- strings.ReplaceAll -/
def F135 : List D → Option (List D)
  | [.s l, .s p, .s q] => if l.length < 4294967281 ∧ p ≠ [] ∧ l.length + Lib.countB ⟨l.toArray⟩ ⟨p.toArray⟩ * q.length ≤ 140737488355328 then some [.s (Lib.replaceAll l p q)] else none
  | _ => none
/-- strings.Cut -/
def F153 : List D → Option (List D)
  | [.s l, .s p] => if l.length < 4294967281 then some [.s (Lib.cut l p).1, .s (Lib.cut l p).2.1, .v (.bool (Lib.cut l p).2.2)] else none
  | _ => none
/-- strings.Join -/
def F80 : List D → Option (List D)
  | [.sl 1 xs, .s p] => match strsOf xs with
    | some ls => if ls.length ≤ 140737488355328 ∧ (Lib.join ls p).length ≤ 140737488355328 then some [.s (Lib.join ls p)] else none
    | none => none
  | _ => none
theorem F80_ok : Pure Tryd.prog (mkCtx tab glob) 80 F80 := by
  refine Pure.mk' Tryd.func80 (by kernel_rfl) (by kernel_rfl) fun ds rs hF N w vs hN hG hv => ?_
  unfold F80 at hF
  split at hF
  · rename_i xs p
    split at hF
    · rename_i ls hls
      split at hF
      · rename_i hb
        cases hF
        obtain rfl := strsOf_some hls
        obtain ⟨u, v, rfl, hu, hv2⟩ := rd2 hv
        simp only [Rd] at hu hv2
        subst hv2
        obtain ⟨a, len, cap, rfl, h1, h2, h3, h4⟩ := hu
        simp only [List.length_map] at h1
        subst h1
        by_cases hne : ls = []
        · subst hne
          refine (Tryd.strings_Join_none a cap _ w).mono ?_
          rintro e w' ⟨rfl, rfl⟩
          exact ⟨[_], one_us (by simp only [Rd, Lib.join]; rfl), rfl, Chg.refl _ _⟩
        · cases a with
          | none =>
            have h5 := h3 rfl
            subst h5
            exact absurd (List.length_eq_zero_iff.1 (by omega)) hne
          | some q =>
            obtain ⟨e1, e2, e3⟩ := strs_cells (h4 q rfl) hne
            rw [e1]
            have hmap : (ls.map fun l => (⟨l.toArray⟩ : ByteArray)).map (·.data.toList) = ls := by simp [Function.comp_def]
            have := Tryd.strings_Join q.block q.off cap (ls.map fun l => ⟨l.toArray⟩) ⟨p.toArray⟩ w (fun j x hj => by
              rw [List.getElem?_map, Option.map_eq_some_iff] at hj
              obtain ⟨l, hl, rfl⟩ := hj
              exact e3 j l hl) e2 (by simpa using hb.1) (by simpa using h2) (by rw [hmap]; exact hb.2)
            rw [hmap, List.length_map] at this
            refine this.mono ?_
            rintro e w' ⟨rfl, hbl⟩
            exact ⟨[_], one_us (by simp only [Rd]), rfl, Chg.below.2 hbl⟩
      · simp at hF
    · simp at hF
  · simp at hF
include h20
theorem g20_at {N : Mut} {w : World} (hG : GlobOk (mkCtx tab glob) N w) : w.cell? ⟨20, 0, none⟩ = some (.int .i64 m) := by
  have hm := hG 20 _ h20
  simp only [RdC, and_true] at hm
  obtain ⟨_, x, hm, _, hx⟩ := hm
  simp only [Rd] at hx
  subst hx
  simpa [add_plain] using hm
theorem F96_ok : Pure Tryd.prog (mkCtx tab glob) 96 F96 := by
  refine Pure.mk' Tryd.func96 (by kernel_rfl) (by kernel_rfl) fun ds rs hF N w vs hN hG hv => ?_
  unfold F96 at hF
  split at hF
  · rename_i l p
    split at hF
    · rename_i hl
      cases hF
      obtain ⟨u, v, rfl, hu, hv2⟩ := rd2 hv
      simp only [Rd] at hu hv2
      subst hu hv2
      refine (Tryd.strings_Contains _ _ m _ (by simp [ByteArray.size]; omega) (g20_at h20 hG)).mono ?_
      rintro e w' ⟨rfl, rfl⟩
      exact ⟨[_], one_us (by simp only [Rd]), rfl, Chg.refl _ _⟩
    · simp at hF
  · simp at hF
theorem F135_ok : Pure Tryd.prog (mkCtx tab glob) 135 F135 := by
  refine Pure.mk' Tryd.func135 (by kernel_rfl) (by kernel_rfl) fun ds rs hF N w vs hN hG hv => ?_
  unfold F135 at hF
  split at hF
  · rename_i l p q
    split at hF
    · rename_i hl
      cases hF
      simp only [RdL] at hv
      obtain ⟨u, us, rfl, hu, v, us', rfl, hv2, x, us2, rfl, hx, rfl⟩ := hv
      simp only [Rd] at hu hv2 hx
      subst hu hv2 hx
      refine (Tryd.strings_ReplaceAll ⟨l.toArray⟩ ⟨p.toArray⟩ ⟨q.toArray⟩ m w (by simp [ByteArray.size]; omega) (g20_at h20 hG) (by
        cases p with
        | nil => simp at hl
        | cons _ _ => simp [ByteArray.size]) (by simpa [ByteArray.size] using hl.2.2)).mono ?_
      rintro e w' ⟨rfl, hb⟩
      exact ⟨[_], one_us (by simp only [Rd]), rfl, Chg.below.2 hb⟩
    · simp at hF
  · simp at hF
theorem F153_ok : Pure Tryd.prog (mkCtx tab glob) 153 F153 := by
  refine Pure.mk' Tryd.func153 (by kernel_rfl) (by kernel_rfl) fun ds rs hF N w vs hN hG hv => ?_
  unfold F153 at hF
  split at hF
  · rename_i l p
    split at hF
    · rename_i hl
      cases hF
      obtain ⟨u, v, rfl, hu, hv2⟩ := rd2 hv
      simp only [Rd] at hu hv2
      subst hu hv2
      refine (Tryd.strings_Cut _ _ m _ (by simp [ByteArray.size]; omega) (g20_at h20 hG)).mono ?_
      rintro e w' ⟨rfl, n, rfl⟩
      refine ⟨[_, _, _], ?_, rfl, ?_⟩
      · simp only [RdL, Rd]
        exact ⟨_, _, rfl, rfl, _, _, rfl, rfl, _, _, rfl, rfl, rfl⟩
      · exact ⟨by simp [World.drewN], by simp [World.drewN], by simp [World.drewN], by simp [World.drewN], fun _ _ _ => by simp [World.drewN], fun _ _ _ h _ => by simpa [World.drewN, World.cell?] using h⟩
    · simp at hF
  · simp at hF
end
end Go.Ab
