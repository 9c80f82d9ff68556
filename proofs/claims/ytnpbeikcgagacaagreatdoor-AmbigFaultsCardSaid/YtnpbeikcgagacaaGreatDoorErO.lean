/- One text of a proof that a law of this seat says true for every input: errors and what they wrap. It holds of the given program under the conditions that the row prints. -/
import Derived.Test.YtnpbeikcgagacaaGreatDoorErA
set_option linter.unusedSimpArgs false
set_option linter.unusedVariables false
set_option linter.unusedSectionVars false
set_option maxRecDepth 100000
namespace Go.Ab
open Go.Proofs
variable {glob : Nat → Option (List D)} {p : Nat → Addr} {o : Nat → Obj}
namespace Eo
/-- millwrightnum.Num -/
noncomputable def FNum (p : Nat → Addr) (o : Nat → Obj) : List D → Option (List D) := liftG (fun e : Er => e.good = true) (fun e => [encE p o e]) fun e => some [.v (.int .i64 (numE e))]
section
variable (hs : Sents glob p o)
include hs
theorem FNum_eq (e : Er) (he : e.good = true) : FNum p o [encE p o e] = some [.v (.int .i64 (numE e))] :=
  liftG_enc (good := fun e : Er => e.good = true) (enc := fun e => [encE p o e]) (f := fun e => some [.v (.int .i64 (numE e))]) (fun a b ha hb h => by
    simp only [List.cons.injEq, and_true] at h
    rw [encE_inj hs.inj a b ha hb h]) e he
theorem FNum_ok : Pure Tryz.prog (mkCtx tab glob) 8 (FNum p o) := by
  refine pure_of (T_ok glob) (U62_ok hs) Tryz.func8 (by kernel_rfl) (kp := kp8) (fr := fr8) (by kernel_rfl) fun ds rs hF => ?_
  obtain ⟨e, he, rfl, h⟩ := liftG_some hF
  cases h
  exact ⟨20, ev30 hs e he⟩
end
/-- millwrightnum.Err -/
def errO : Nat → Er
  | 0 => .none
  | k + 1 => (match ordE[k]? with | some g => .sent g | Option.none => .none)
theorem errO_good : ∀ k, (errO k).good = true
  | 0 => rfl
  | k + 1 => by
    simp only [errO]
    split
    · rename_i g hg
      obtain ⟨h1, h2⟩ := List.getElem?_eq_some_iff.1 hg
      have := ordE_in k h1
      rw [h2] at this
      simp [Er.good, this]
    · rfl
theorem errO_num : ∀ k, k < 19 → numE (errO k) = k := by decide
theorem errO_none : ∀ k, k < 19 → k ≠ 0 → errO k ≠ .none := by
  intro k hk h0 h
  have := errO_num k hk
  rw [h] at this
  simp only [numE] at this
  omega
theorem errO_form (k : Nat) (hk : k < 19) : (k = 0 ∧ encE p o (errO k) = .v .nilIface) ∨ (k ≠ 0 ∧ ∃ g, encE p o (errO k) = .ifc 273 (.at (p g) (o g))) := by
  cases k with
  | zero => exact .inl ⟨rfl, rfl⟩
  | succ k =>
    refine .inr ⟨by omega, ordE[k]'(by show k < 18; omega), ?_⟩
    simp only [errO]
    rw [List.getElem?_eq_getElem (by show k < 18; omega)]
    rfl
theorem numE_ld (f : List UInt8) (n : Int) : ∀ e : Er, e ≠ .none → numE (.ld f n e) = numE e
  | .none, h => absurd rfl h
  | .sent g, _ => rfl
  | .fault m e, _ => rfl
  | .ld f m e, _ => rfl
  | .gr l e, _ => rfl
  | .am s i j, _ => rfl
theorem numE_gr (l : List (List UInt8)) : ∀ e : Er, e ≠ .none → numE (.gr l e) = numE e
  | .none, h => absurd rfl h
  | .sent g, _ => rfl
  | .fault m e, _ => rfl
  | .ld f m e, _ => rfl
  | .gr l e, _ => rfl
  | .am s i j, _ => rfl
def FErr (p : Nat → Addr) (o : Nat → Obj) : List D → Option (List D)
  | [.v (.int .i64 k)] => if 0 ≤ k ∧ k < 19 then some [encE p o (errO k.toNat)] else none
  | _ => none
theorem FErr_eq (k : Nat) (hk : k < 19) : FErr p o [.v (.int .i64 k)] = some [encE p o (errO k)] := by
  simp only [FErr]
  rw [if_pos ⟨by omega, by omega⟩]
  simp
theorem evErr (hs : Sents glob p o) (k : Nat) (hk : k < 19) : fnK (mkCtx tab glob) (U62 p o) kp6 fr6 0 Tryz.f6 [.v (.int .i64 k)] = some [encE p o (errO k)] := by
  cases k with
  | zero => simp [Tryz.f6, errO, encE]
  | succ k =>
    have h1 : ¬ ((k : Int) + 1 < 1) := by omega
    have h2 : ¬ (18 < (k : Int) + 1) := by omega
    have hl : ordE.length = 18 := rfl
    have h3 : k < ordE.length := by omega
    have h4 : ordE[k]? = some ordE[k] := List.getElem?_eq_getElem h3
    have hw : IntKind.i64.wrap (k : Int) = k := wrap_i64 (by omega) (by omega)
    simp [Tryz.f6, h1, h2, U62, hw, h4, errO, encE]
theorem FErr_ok (hs : Sents glob p o) : Pure Tryz.prog (mkCtx tab glob) 6 (FErr p o) := by
  refine pure_of (T_ok glob) (U62_ok hs) Tryz.func6 (by kernel_rfl) (kp := kp6) (fr := fr6) (by kernel_rfl) fun ds rs hF => ?_
  unfold FErr at hF
  split at hF
  · rename_i k
    split at hF
    · rename_i h
      cases hF
      have := evErr hs k.toNat (by omega)
      rw [Int.toNat_of_nonneg h.1] at this
      exact ⟨0, this⟩
    · simp at hF
  · simp at hF
/-- number % 19 -/
theorem nineteen (number : Int) : ∃ k : Nat, k < 19 ∧ IntKind.i64.wrap ((IntKind.u64.wrap number).tmod 19) = k := by
  have hu : 0 ≤ IntKind.u64.wrap number := by
    show 0 ≤ number % 18446744073709551616
    omega
  have h2 := Int.tmod_nonneg (a := IntKind.u64.wrap number) 19 hu
  have h3 := Int.tmod_lt_of_pos (IntKind.u64.wrap number) (b := 19) (by decide)
  refine ⟨((IntKind.u64.wrap number).tmod 19).toNat, by omega, ?_⟩
  rw [wrap_i64 (by omega) (by omega)]
  omega
end Eo
end Go.Ab
