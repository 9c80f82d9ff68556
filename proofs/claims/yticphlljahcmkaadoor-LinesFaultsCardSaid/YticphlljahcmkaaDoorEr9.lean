/- One text of a proof that a law of this seat says true for every input: errors and what they wrap. It holds of the given program under the conditions that the row prints. -/
import Derived.Test.YticphlljahcmkaaDoorLn18
set_option linter.unusedVariables false
set_option linter.unusedSimpArgs false
set_option maxRecDepth 100000
namespace Go.Ab
open Go.Proofs
variable {glob : Nat → Option (List D)} {p : Nat → Addr} {o : Nat → Obj}

/-- millwrightnum.Err -/
def errO : Nat → Er
  | 0 => .none
  | k + 1 => (match ordE[k]? with | some g => .sent g | Option.none => .none)
theorem errO_good : ∀ k, (errO k).good = true
  | 0 => rfl
  | k + 1 => by
    simp only [errO]
    split
    · rename_i g hg
      obtain ⟨h1, h2⟩ := List.getElem?_eq_some_iff.1 hg
      have := ordE_in k h1
      rw [h2] at this
      simp [Er.good, this]
    · rfl
theorem errO_num : ∀ k, k < 19 → numE (errO k) = k := by decide
theorem errO_none : ∀ k, k < 19 → k ≠ 0 → errO k ≠ .none := by
  intro k hk h0 h
  have := errO_num k hk
  rw [h] at this
  simp only [numE] at this
  omega
theorem numE_fault (n : Int) : ∀ e : Er, e ≠ .none → numE (.fault n e) = numE e
  | .none, h => absurd rfl h
  | .sent g, _ => rfl
  | .fault m e, _ => rfl
def F44 (p : Nat → Addr) (o : Nat → Obj) : List D → Option (List D)
  | [.v (.int .i64 k)] => if 0 ≤ k ∧ k < 19 then some [encE p o (errO k.toNat)] else none
  | _ => none
theorem ev44 (hs : Sents glob p o) (k : Nat) (hk : k < 19) : fnK (mkCtx tab glob) (U62 p o) kp44 fr44 0 Tryd.f44 [.v (.int .i64 k)] = some [encE p o (errO k)] := by
  cases k with
  | zero => simp [Tryd.f44, errO, encE]
  | succ k =>
    have h1 : ¬ ((k : Int) + 1 < 1) := by omega
    have h2 : ¬ (18 < (k : Int) + 1) := by omega
    have hl : ordE.length = 18 := rfl
    have h3 : k < ordE.length := by omega
    have h4 : ordE[k]? = some ordE[k] := List.getElem?_eq_getElem h3
    have hw : IntKind.i64.wrap (k : Int) = k := wrap_i64 (by omega) (by omega)
    simp [Tryd.f44, h1, h2, U62, hw, h4, errO, encE]
theorem itoa_len (n : Int) (h0 : -9223372036854775808 ≤ n) (h1 : n ≤ 9223372036854775807) : (Lib.itoa n).length ≤ 21 := by
  have := dec_len n.natAbs (by omega)
  unfold Lib.itoa
  split
  · simp only [List.length_cons]; omega
  · rename_i h
    have e : n.toNat = n.natAbs := by omega
    rw [e]; omega
def F46 : List D → Option (List D)
  | [.ptr [.v (.int .i64 n), e]] => if (-9223372036854775808 ≤ n ∧ n ≤ 9223372036854775807) ∧ e.cell = true then some [.s ([108, 105, 110, 101, 32] ++ Lib.itoa n)] else none
  | _ => none
def E46 : Abs := ext (fun _ _ => none) 77 F77
theorem ev46 (n : Int) (e : D) (h0 : -9223372036854775808 ≤ n) (h1 : n ≤ 9223372036854775807) (he : e.cell = true) : fnK (mkCtx tab glob) E46 kp46 fr46 0 Tryd.f46 [.ptr [.v (.int .i64 n), e]] = some [.s ([108, 105, 110, 101, 32] ++ Lib.itoa n)] := by
  have hl := itoa_len n h0 h1
  have hF : F77 [.v (.int .i64 n)] = some [.s (Lib.itoa n)] := by simp only [F77]; rw [if_pos ⟨h0, h1⟩]
  generalize Lib.itoa n = t at *
  have hb : 5 + t.length ≤ lim := by unfold lim; omega
  simp [Tryd.f46, E46, hF, hb]
noncomputable def E12 (p : Nat → Addr) (o : Nat → Obj) : Abs := ext (ext (ext (ext (E11 p o) 44 (F44 p o)) 46 F46) 47 F77) 48 (F48 p o)
section
variable {m : Int} {t : TypeId} {fz : Nat × Nat} (hs : Sents glob p o) (h20 : glob 20 = some [.v (.int .i64 m)]) (h19 : glob 19 = some [.ifc 158 (.st [.v (.pointer (some ⟨26, 47, none⟩))])]) (h21 : glob 21 = some [.wh (.int .u64 1) 21 (powObj t fz)])
include hs h20 h19 h21
theorem E12_ok : ∀ f, Pure Tryd.prog (mkCtx tab glob) f (E12 p o f) := by
  refine ext_ok (ext_ok (ext_ok (ext_ok (E11_ok hs h20 h19) ?_) ?_) F47_ok) ?_
  · refine pure_of (T_ok glob) (U62_ok hs) Tryd.func44 (by kernel_rfl) (kp := kp44) (fr := fr44) (by kernel_rfl) fun ds rs hF => ?_
    unfold F44 at hF
    split at hF
    · rename_i k
      split at hF
      · rename_i h
        cases hF
        have := ev44 hs k.toNat (by omega)
        rw [Int.toNat_of_nonneg h.1] at this
        exact ⟨0, this⟩
      · simp at hF
    · simp at hF
  · refine pure_of (T_ok glob) (ext_ok none_ok (F77_ok h21)) Tryd.func46 (by kernel_rfl) (kp := kp46) (fr := fr46) (by kernel_rfl) fun ds rs hF => ?_
    unfold F46 at hF
    split at hF
    · split at hF
      · rename_i h
        cases hF
        exact ⟨0, ev46 _ _ h.1.1 h.1.2 h.2⟩
      · simp at hF
    · simp at hF
  · exact U48_ok p o 48
end
theorem lenc (n : Int) : ∀ e, (encE p o e).cell = true := encE_cell p o
set_option maxHeartbeats 8000000 in
/-- LinesFaults says true. -/
theorem ev9 (hs : Sents glob p o) (line number : Int) (h0 : -9223372036854775808 ≤ line) (h1 : line ≤ 9223372036854775807) : fnK (mkCtx tab glob) (E12 p o) kp9 fr9 0 Tryd.f9 [.v (.int .i64 line), .v (.int .i64 number)] = some [.v (.bool true)] := by
  obtain ⟨k, hk, hkk⟩ : ∃ k : Nat, k < 19 ∧ IntKind.i64.wrap ((IntKind.u64.wrap number).tmod 19) = k := by
    have hu : 0 ≤ IntKind.u64.wrap number := by
      show 0 ≤ number % 18446744073709551616
      omega
    have h2 := Int.tmod_nonneg (a := IntKind.u64.wrap number) 19 hu
    have h3 := Int.tmod_lt_of_pos (IntKind.u64.wrap number) (b := 19) (by decide)
    refine ⟨((IntKind.u64.wrap number).tmod 19).toNat, by omega, ?_⟩
    rw [wrap_i64 (by omega) (by omega)]
    omega
  have hg := errO_good k
  have hn := errO_num k hk
  have h44 : F44 p o [.v (.int .i64 k)] = some [encE p o (errO k)] := by
    simp only [F44]
    rw [if_pos ⟨by omega, by omega⟩]
    simp
  have c0 := encE_cell p o (errO k)
  have w1 := F45_eq hs (.fault line (errO k)) hg
  have w2 := F45_eq hs (.fault 7 (.fault line (errO k))) hg
  have w3 := F45_eq hs (errO k) hg
  have n1 := F30_eq hs (errO k) hg
  have n2 := F30_eq hs (.fault 7 (.fault line (errO k))) hg
  have u1 := F48_eq (p := p) (o := o) line (errO k) hg
  have hw3 : whereE (errO k) = (0, false) := by
    cases k with
    | zero => rfl
    | succ k =>
      simp only [errO]
      split <;> rfl
  have hl := itoa_len line h0 h1
  have hF : F77 [.v (.int .i64 line)] = some [.s (Lib.itoa line)] := by simp only [F77]; rw [if_pos ⟨h0, h1⟩]
  have hE : F46 [.ptr [.v (.int .i64 line), encE p o (errO k)]] = some [.s ([108, 105, 110, 101, 32] ++ Lib.itoa line)] := by
    simp only [F46]
    rw [if_pos ⟨⟨h0, h1⟩, c0⟩]
  rw [hw3] at w3
  rw [hn] at n1
  have n3 : k ≠ 0 → numE (.fault 7 (.fault line (errO k))) = k := fun h => by
    rw [numE_fault _ _ (by simp), numE_fault _ _ (errO_none k hk h), hn]
  simp only [encE, whereE] at w1 w2 n2
  have hform : (k = 0 ∧ encE p o (errO k) = .v .nilIface) ∨ (k ≠ 0 ∧ ∃ g, encE p o (errO k) = .ifc 228 (.at (p g) (o g))) := by
    cases k with
    | zero => exact .inl ⟨rfl, rfl⟩
    | succ k =>
      refine .inr ⟨by omega, ordE[k]'(by show k < 18; omega), ?_⟩
      simp only [errO]
      rw [List.getElem?_eq_getElem (by show k < 18; omega)]
      rfl
  generalize encE p o (errO k) = d at *
  generalize Lib.itoa line = tx at *
  generalize numE (.fault 7 (.fault line (errO k))) = nn at *
  have hb : 5 + tx.length ≤ lim := by unfold lim; omega
  clear hs hg hl hn
  rcases hform with ⟨hk0, rfl⟩ | ⟨hk0, g, rfl⟩
  · subst hk0
    simp at hkk h44 n1
    simp [Tryd.f9, E12, E11, E10, E9, E8, E7, hkk, h44, w1, w2, w3, n1, u1, hF, hE, hb]
  · have hk1 : ¬ (k : Int) = 0 := by omega
    have hk2 : ((k : Int) == 0) = false := by simpa using hk1
    have n4 := n3 hk0
    subst n4
    simp [Tryd.f9, E12, E11, E10, E9, E8, E7, hkk, h44, w1, w2, w3, n1, n2, u1, hF, hE, hb, hk0, hk1, hk2]
end Go.Ab
