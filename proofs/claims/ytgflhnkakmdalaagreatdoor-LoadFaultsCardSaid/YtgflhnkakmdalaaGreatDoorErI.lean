/- One text of a proof that a law of this seat says true for every input: errors and what they wrap. It holds of the given program under the conditions that the row prints. -/
import Derived.Test.YtgflhnkakmdalaaGreatDoorAbSimp
import Derived.Test.YtgflhnkakmdalaaGreatDoorAbShelf
import Derived.Lib.AppendIntMem
set_option linter.unusedSimpArgs false
set_option linter.unusedVariables false
set_option linter.unusedSectionVars false
set_option maxRecDepth 100000
namespace Go.Ab
open Go.Proofs
variable {glob : Nat → Option (List D)} {p : Nat → Addr} {o : Nat → Obj}

/-- strconv.Itoa -/
def F77 : List D → Option (List D)
  | [.v (.int .i64 n)] => if -9223372036854775808 ≤ n ∧ n ≤ 9223372036854775807 then some [.s (Lib.itoa n)] else none
  | _ => none
/-- The table that strconv reads. -/
def powObj (t : TypeId) (fr : Nat × Nat) : Obj := .cells (Lib.pow10Tab.map fun z => Value.int .u64 z).toArray t fr
theorem F77_ok {t : TypeId} {fr : Nat × Nat} (h21 : glob 19 = some [.wh (.int .u64 1) 19 (powObj t fr)]) : Pure Tryz.prog (mkCtx tab glob) 17 F77 := by
  refine Pure.mk' Tryz.func17 (by kernel_rfl) (by kernel_rfl) fun ds rs hF N w vs hN hG hv => ?_
  unfold F77 at hF
  split at hF
  · rename_i n
    split at hF
    · rename_i hn
      simp only [Option.some.injEq] at hF
      subst hF
      obtain ⟨u, rfl, hu⟩ := rd1 hv
      simp only [Rd] at hu
      subst hu
      have hg := hG 19 _ h21
      simp only [RdC, Rd, and_true] at hg
      obtain ⟨_, x, _, _, _, hb, _⟩ := hg
      have htab : Lib.TabIs Tryz.prog w "internal/strconv.uint64pow10" .u64 Lib.pow10Tab := by
        unfold Lib.TabIs World.var?
        rw [show Tryz.prog.globalNamed "internal/strconv.uint64pow10" = some 19 by kernel_rfl]
        simp only [Option.bind_some, hb, powObj]
      refine (Tryz.strconv_Itoa n hn.1 hn.2 w htab).mono ?_
      rintro e w' ⟨rfl, k, os, rfl⟩
      exact ⟨[_], one_us (by simp only [Rd]), rfl, Chg.below.2 (Lib.below_grow _ w (Nat.le_refl _) k os)⟩
    · simp at hF
  · simp at hF

theorem dec_big (u : Nat) (h : ¬ u < 10) : Lib.decDigits u = Lib.decDigits (u / 10) ++ [UInt8.ofNat (48 + u % 10)] := by
  rw [Lib.decDigits, dif_neg h]
theorem dec_small (u : Nat) (h : u < 10) : Lib.decDigits u = [UInt8.ofNat (48 + u)] := by
  rw [Lib.decDigits, dif_pos h]
def FF (k : Nat) : List D → Option (List D)
  | [.v (.int .i64 n)] => if n.natAbs < 10 ^ k ∧ -9223372036854775808 ≤ n ∧ n ≤ 9223372036854775807 then some [.s (Lib.itoa n)] else none
  | _ => none
theorem digit_at : ∀ m, m < 10 → (48 :: ([49, 50, 51, 52, 53, 54, 55, 56, 57] : List UInt8).take m).drop m = [48 + UInt8.ofNat m] := by decide
theorem digit_of : ∀ m, m < 10 → UInt8.ofNat (48 + m) = 48 + UInt8.ofNat m := by decide
theorem tmod_nat (u : Nat) : (u : Int).tmod 10 = ((u % 10 : Nat) : Int) := (Int.ofNat_tmod u 10).symm
theorem tdiv_nat (u : Nat) : (u : Int).tdiv 10 = ((u / 10 : Nat) : Int) := (Int.ofNat_tdiv u 10).symm
theorem dec_len (u : Nat) (h : u < 2 ^ 64) : (Lib.decDigits u).length ≤ 20 := by
  have key : ∀ k u, u < 10 ^ (k + 1) → (Lib.decDigits u).length ≤ k + 1 := by
    intro k
    induction k with
    | zero =>
      intro u hu
      rw [dec_small u (by simpa using hu)]
      simp
    | succ k ih =>
      intro u hu
      by_cases h : u < 10
      · rw [dec_small u h]
        simp
      · rw [dec_big u h]
        have := ih (u / 10) (by rw [Nat.pow_succ] at hu; omega)
        simp
        omega
  exact key 19 u (Nat.lt_of_lt_of_le h (by decide))
set_option maxHeartbeats 4000000 in
/-- The document's figures are strconv's. -/
theorem ev47 (k : Nat) (n : Int) (h0 : -9223372036854775808 ≤ n) (h1 : n ≤ 9223372036854775807) (hk : n.natAbs < 10 ^ (k + 1)) :
    fnK (mkCtx tab glob) (ext (fun _ _ => none) 9 (FF k)) kp9 fr9 0 Tryz.f9 [.v (.int .i64 n)] = some [.s (Lib.itoa n)] := by
  have hm : n.natAbs % 10 < 10 := Nat.mod_lt _ (by decide)
  have hd := digit_at _ hm
  have hw : IntKind.i64.wrap (((n.natAbs % 10 : Nat) : Int) + 1) = ((n.natAbs % 10 : Nat) : Int) + 1 := wrap_i64 (by omega) (by omega)
  have hle : ((n.natAbs % 10 : Nat) : Int) + 1 ≤ 10 := by omega
  have hmm : ((n.natAbs % 10 : Nat) : Int) ≤ ((n.natAbs % 10 : Nat) : Int) + 1 := by omega
  have hl1 : min (n.natAbs % 10) 9 + 1 ≤ lim + n.natAbs % 10 := by unfold lim; omega
  have hl2 : ∀ L, L + 1 ≤ lim → L + (min (n.natAbs % 10) 9 + 1 - n.natAbs % 10) ≤ lim := fun L h => by omega
  have hdo := digit_of _ hm
  by_cases hn : 0 ≤ n
  · obtain ⟨u, rfl⟩ := Int.eq_ofNat_of_zero_le hn
    simp only [Int.natAbs_natCast] at *
    have ht : ((u : Int).tmod 10) = ((u % 10 : Nat) : Int) := tmod_nat u
    have hneg : (-10 : Int) < (u : Int) := by omega
    by_cases hs : u < 10
    · have hs' : (u : Int) < 10 := by omega
      have hr : Lib.itoa (u : Int) = [UInt8.ofNat (48 + u % 10)] := by
        unfold Lib.itoa
        rw [if_neg (by omega), Int.toNat_natCast, dec_small u hs, Nat.mod_eq_of_lt hs]
      rw [hr]
      generalize u % 10 = m at ht hw hle hd hmm hl1 hdo ⊢
      have hl4 : 1 ≤ lim := by unfold lim; omega
      simp [Tryz.f9, hn, ht, hneg, hs, hs', hw, hle, hd, hmm, hl1, hdo, hl4]
    · have hs' : ¬ (u : Int) < 10 := by omega
      have hq : ((u : Int).tdiv 10) = ((u / 10 : Nat) : Int) := tdiv_nat u
      have hwq : IntKind.i64.wrap (((u / 10 : Nat) : Int)) = ((u / 10 : Nat) : Int) := wrap_i64 (by omega) (by omega)
      have hr : Lib.itoa (u : Int) = Lib.itoa ((u / 10 : Nat) : Int) ++ [UInt8.ofNat (48 + u % 10)] := by
        unfold Lib.itoa
        rw [if_neg (by omega), if_neg (by omega), Int.toNat_natCast, Int.toNat_natCast, dec_big u hs]
      have hF : FF k [.v (.int .i64 ((u / 10 : Nat) : Int))] = some [.s (Lib.itoa ((u / 10 : Nat) : Int))] := by
        simp only [FF]
        rw [if_pos ⟨by rw [Nat.pow_succ] at hk; simp; omega, by omega, by omega⟩]
      have hlen : (Lib.itoa ((u / 10 : Nat) : Int)).length + 1 ≤ lim := by
        have := dec_len (u / 10) (by omega)
        unfold Lib.itoa lim
        rw [if_neg (by omega), Int.toNat_natCast]
        omega
      have hl3 := hl2 _ hlen
      rw [hr]
      generalize u % 10 = m at ht hw hle hd hmm hl1 hdo hl3 ⊢
      generalize Lib.itoa ((u / 10 : Nat) : Int) = L at *
      generalize u / 10 = q at *
      simp [Tryz.f9, hn, ht, hneg, hs, hs', hw, hle, hd, hq, hwq, hF, hlen, hmm, hdo, hl3]
  · obtain ⟨u, hu⟩ : ∃ u : Nat, n = -(u : Int) := ⟨n.natAbs, by omega⟩
    subst hu
    simp only [Int.natAbs_neg, Int.natAbs_natCast] at *
    have hn' : ¬ (u : Int) ≤ 0 := by omega
    have hn0 : ¬ u = 0 := by omega
    have ht : ((-(u : Int)).tmod 10) = -((u % 10 : Nat) : Int) := by rw [Int.neg_tmod, tmod_nat]
    have hwm : IntKind.i64.wrap (((u % 10 : Nat) : Int)) = ((u % 10 : Nat) : Int) := wrap_i64 (by omega) (by omega)
    have hneg : -(u : Int) < 10 := by omega
    by_cases hs : u < 10
    · have hs' : (-10 : Int) < -(u : Int) := by omega
      have hs2 : (u : Int) < 10 := by omega
      have hr : Lib.itoa (-(u : Int)) = [45, UInt8.ofNat (48 + u % 10)] := by
        unfold Lib.itoa
        rw [if_pos (by omega), Int.natAbs_neg, Int.natAbs_natCast, dec_small u hs, Nat.mod_eq_of_lt hs]
      have hlen : 1 + 1 ≤ lim := by unfold lim; omega
      have hl3 : 1 + (min (u % 10) 9 + 1 - u % 10) ≤ lim := by unfold lim; omega
      rw [hr]
      generalize u % 10 = m at ht hwm hw hle hd hmm hl1 hdo hl3 ⊢
      simp [Tryz.f9, hn, hn0, hn', ht, hneg, hs, hs', hs2, hw, hwm, hle, hd, hlen, hmm, hl1, hdo, hn0, hl3]
    · have hs' : ¬ (-10 : Int) < -(u : Int) := by omega
      have hs2 : ¬ (u : Int) < 10 := by omega
      have hq : ((-(u : Int)).tdiv 10) = -((u / 10 : Nat) : Int) := by rw [Int.neg_tdiv, tdiv_nat]
      have hwq : IntKind.i64.wrap (-((u / 10 : Nat) : Int)) = -((u / 10 : Nat) : Int) := wrap_i64 (by omega) (by omega)
      have hr : Lib.itoa (-(u : Int)) = Lib.itoa (-((u / 10 : Nat) : Int)) ++ [UInt8.ofNat (48 + u % 10)] := by
        unfold Lib.itoa
        rw [if_pos (by omega), if_pos (by omega)]
        simp only [Int.natAbs_neg, Int.natAbs_natCast]
        rw [dec_big u hs]
        rfl
      have hF : FF k [.v (.int .i64 (-((u / 10 : Nat) : Int)))] = some [.s (Lib.itoa (-((u / 10 : Nat) : Int)))] := by
        simp only [FF]
        rw [if_pos ⟨by rw [Nat.pow_succ] at hk; simp; omega, by omega, by omega⟩]
      have hlen : (Lib.itoa (-((u / 10 : Nat) : Int))).length + 1 ≤ lim := by
        have := dec_len (u / 10) (by omega)
        unfold Lib.itoa lim
        rw [if_pos (by omega)]
        simp only [Int.natAbs_neg, Int.natAbs_natCast, List.length_cons]
        omega
      have hl3 := hl2 _ hlen
      rw [hr]
      generalize u % 10 = m at ht hwm hw hle hd hmm hl1 hdo hl3 ⊢
      generalize Lib.itoa (-((u / 10 : Nat) : Int)) = L at *
      generalize hq0 : u / 10 = q at *
      simp [Tryz.f9, hn, hn0, hn', ht, hneg, hs, hs', hs2, hw, hwm, hle, hd, hq, hwq, hF, hlen, hmm, hdo, hl3]
theorem FF_ok : ∀ k, Pure Tryz.prog (mkCtx tab glob) 9 (FF k)
  | 0 => by
    refine pure_of (T_ok glob) (none_ok) Tryz.func9 (by kernel_rfl) (kp := kp9) (fr := fr9) (by kernel_rfl) fun ds rs hF => ?_
    unfold FF at hF
    split at hF
    · rename_i n
      split at hF
      · rename_i h
        cases hF
        have : n = 0 := by
          have := h.1
          simp at this
          omega
        subst this
        exact ⟨0, by kernel_rfl⟩
      · simp at hF
    · simp at hF
  | k + 1 => by
    refine pure_of (T_ok glob) (ext_ok none_ok (FF_ok k)) Tryz.func9 (by kernel_rfl) (kp := kp9) (fr := fr9) (by kernel_rfl) fun ds rs hF => ?_
    unfold FF at hF
    split at hF
    · split at hF
      · rename_i h
        cases hF
        exact ⟨0, ev47 k _ h.2.1 h.2.2 h.1⟩
      · simp at hF
    · simp at hF
theorem F47_ok : Pure Tryz.prog (mkCtx tab glob) 9 F77 := by
  refine Pure.of_le (FF_ok 20) fun ds rs h => ?_
  unfold F77 at h
  unfold FF
  split at h
  · split at h
    · rename_i n hn
      rw [if_pos ⟨by omega, hn.1, hn.2⟩]
      exact h
    · simp at h
  · simp at h
end Go.Ab
