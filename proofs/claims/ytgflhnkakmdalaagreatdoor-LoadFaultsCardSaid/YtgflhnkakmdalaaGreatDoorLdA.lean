/- One text of a proof that a law of this seat says true for every input: rules that are read. It holds of the given program under the conditions that the row prints. -/
import Derived.Test.YtgflhnkakmdalaaGreatDoorErL
import Derived.Test.YtgflhnkakmdalaaGreatDoorErO
import Derived.Test.YtgflhnkakmdalaaGreatDoorErI
import Derived.Test.YtgflhnkakmdalaaGreatDoorLd5
set_option linter.unusedSimpArgs false
set_option linter.unusedVariables false
set_option linter.unusedSectionVars false
set_option maxRecDepth 100000
namespace Go.Ab
open Go.Proofs
variable {glob : Nat → Option (List D)} {p : Nat → Addr} {o : Nat → Obj}
namespace Ld
open Eo
theorem itoa_len (n : Int) (h0 : -9223372036854775808 ≤ n) (h1 : n ≤ 9223372036854775807) : (Lib.itoa n).length ≤ 21 := by
  have := dec_len n.natAbs (by omega)
  unfold Lib.itoa
  split
  · simp only [List.length_cons]; omega
  · rename_i h
    have e : n.toNat = n.natAbs := by omega
    rw [e]; omega
/-- (*load.Fault).Error -/
def FEr : List D → Option (List D)
  | [.ptr [.s f, .v (.int .i64 n), e]] => if (f.length ≤ 100 ∧ -9223372036854775808 ≤ n ∧ n ≤ 9223372036854775807) ∧ e.cell = true then some [.s (f ++ [58] ++ Lib.itoa n)] else none
  | _ => none
def EEr : Abs := ext (fun _ _ => none) 17 F77
theorem evEr (f : List UInt8) (n : Int) (e : D) (hf : f.length ≤ 100) (h0 : -9223372036854775808 ≤ n) (h1 : n ≤ 9223372036854775807) (he : e.cell = true) :
    fnK (mkCtx tab glob) EEr kp8 fr8 0 Tryz.f8 [.ptr [.s f, .v (.int .i64 n), e]] = some [.s (f ++ [58] ++ Lib.itoa n)] := by
  have hl := itoa_len n h0 h1
  have hF : F77 [.v (.int .i64 n)] = some [.s (Lib.itoa n)] := by simp only [F77]; rw [if_pos ⟨h0, h1⟩]
  generalize Lib.itoa n = t at *
  have hb0 : f.length + 1 ≤ lim := by unfold lim; omega
  have hb : f.length + 1 + t.length ≤ lim := by unfold lim; omega
  have hb1 : f.length + (1 + t.length) ≤ lim := by unfold lim; omega
  have hb2 : f.length + (t.length + 1) ≤ lim := by unfold lim; omega
  simp [Tryz.f8, fr8, EEr, hF, hb, hb0, hb1, hb2]
theorem FEr_ok {t : TypeId} {fz : Nat × Nat} (h21 : glob 19 = some [.wh (.int .u64 1) 19 (powObj t fz)]) : Pure Tryz.prog (mkCtx tab glob) 8 FEr := by
  refine pure_of (T_ok glob) (ext_ok none_ok (F77_ok h21)) Tryz.func8 (by kernel_rfl) (kp := kp8) (fr := fr8) (by kernel_rfl) fun ds rs hF => ?_
  unfold FEr at hF
  split at hF
  · split at hF
    · rename_i h
      cases hF
      exact ⟨0, evEr _ _ _ h.1.1 h.1.2.1 h.1.2.2 h.2⟩
    · simp at hF
  · simp at hF
/-- slices.Equal, at two empty lists -/
def FEq0 : List D → Option (List D)
  | [.sl 1 [], .sl 1 []] => some [.v (.bool true)]
  | _ => none
theorem FEq0_ok : Pure Tryz.prog (mkCtx tab glob) 16 FEq0 := by
  refine pure_of (T_ok glob) none_ok Tryz.func16 (by kernel_rfl) (kp := kp16) (fr := fr16) (by kernel_rfl) fun ds rs hF => ?_
  unfold FEq0 at hF
  split at hF
  · cases hF
    exact ⟨2, by kernel_rfl⟩
  · simp at hF
/-- a rule of a file's name alone -/
def encR (f : List UInt8) : D := .st [.sl 1 [], .sl 1 [], .v (.int .i64 0), .s [], .s [], .s f, .v (.int .i64 0)]
def FSm : List D → Option (List D)
  | [.st [.sl 1 [], .sl 1 [], .v (.int .i64 0), .s [], .s [], .s f, .v (.int .i64 0)], .st [.sl 1 [], .sl 1 [], .v (.int .i64 0), .s [], .s [], .s g, .v (.int .i64 0)]] => if f = g then some [.v (.bool true)] else none
  | _ => none
set_option maxHeartbeats 8000000 in
theorem evSm (f : List UInt8) : fnK (mkCtx tab glob) (ext (fun _ _ => none) 16 FEq0) kp7 fr7 0 Tryz.f7 [encR f, encR f] = some [.v (.bool true)] := by
  have hff : (f == f) = true := by simp
  simp (maxSteps := 10000000) [Tryz.f7, encR, FEq0, hff]
theorem FSm_ok : Pure Tryz.prog (mkCtx tab glob) 7 FSm := by
  refine pure_of (T_ok glob) (ext_ok none_ok FEq0_ok) Tryz.func7 (by kernel_rfl) (kp := kp7) (fr := fr7) (by kernel_rfl) fun ds rs hF => ?_
  unfold FSm at hF
  split at hF
  · split at hF
    · rename_i h
      cases hF
      subst h
      exact ⟨0, evSm _⟩
    · simp at hF
  · simp at hF
/-- alive -/
def FAl : List D → Option (List D)
  | [] => some [.v (.bool true)]
  | _ => none
noncomputable def EF (p : Nat → Addr) (o : Nat → Obj) : Abs :=
  ext (ext (ext (ext (ext (ext (ext (ext (fun _ _ => none) 4 FAl) 5 (FErr p o)) 6 (FW p o)) 7 FSm) 8 FEr) 9 F77) 11 (FUld p o)) 10 (FNum p o)
set_option maxHeartbeats 8000000 in
/-- LoadFaults says true. -/
theorem evLoadFaults (hs : Sents glob p o) (f : List UInt8) (line number : Int) (h0 : -9223372036854775808 ≤ line) (h1 : line ≤ 9223372036854775807) :
    fnK (mkCtx tab glob) (EF p o) kp3 fr3 0 Tryz.f3 [.s f, .v (.int .i64 line), .v (.int .i64 number)] = some [.v (.bool true)] := by
  by_cases hf : f.length ≤ 100
  · obtain ⟨k, hk, hkk⟩ := nineteen number
    have hg := errO_good k
    have hn := errO_num k hk
    have hE := FErr_eq (p := p) (o := o) k hk
    have c0 := encE_cell p o (errO k)
    have g1 : (Er.ld f line (errO k)).good = true := by simp [Er.good, hg]
    have g2 : (Er.ld [111, 117, 116, 101, 114] 7 (.ld f line (errO k))).good = true := by simp [Er.good, hg]
    have w1 := FW_eq hs (.ld f line (errO k)) g1 rfl
    have w2 := FW_eq hs (.ld [111, 117, 116, 101, 114] 7 (.ld f line (errO k))) g2 rfl
    have hfl : flatL (errO k) = true ∧ whereL (errO k) = ([], 0, false) := by
      cases k with
      | zero => exact ⟨rfl, rfl⟩
      | succ k =>
        simp only [errO]
        split <;> exact ⟨rfl, rfl⟩
    have w3 := FW_eq hs (errO k) hg hfl.1
    rw [hfl.2] at w3
    have n1 := FNum_eq hs (errO k) hg
    have n2 := FNum_eq hs (.ld [111, 117, 116, 101, 114] 7 (.ld f line (errO k))) g2
    have u1 := FUld_eq (p := p) (o := o) f line (errO k) hg
    have hl := itoa_len line h0 h1
    have hF : F77 [.v (.int .i64 line)] = some [.s (Lib.itoa line)] := by simp only [F77]; rw [if_pos ⟨h0, h1⟩]
    have hEr : FEr [.ptr [.s f, .v (.int .i64 line), encE p o (errO k)]] = some [.s (f ++ [58] ++ Lib.itoa line)] := by
      simp only [FEr]
      rw [if_pos ⟨⟨hf, h0, h1⟩, c0⟩]
    rw [hn] at n1
    have n3 : k ≠ 0 → numE (.ld [111, 117, 116, 101, 114] 7 (.ld f line (errO k))) = k := fun h => by
      rw [numE_ld _ _ _ (by simp), numE_ld _ _ _ (errO_none k hk h), hn]
    simp only [encE, whereL] at w1 w2 n2
    have hform := errO_form (p := p) (o := o) k hk
    have hsm : FSm [.st [.sl 1 [], .sl 1 [], .v (.int .i64 0), .s [], .s [], .s f, .v (.int .i64 0)], .st [.sl 1 [], .sl 1 [], .v (.int .i64 0), .s [], .s [], .s f, .v (.int .i64 0)]] = some [.v (.bool true)] := by simp [FSm]
    have hlen : ¬ (100 < (f.length : Int)) := by omega
    have hb0 : f.length + 1 ≤ lim := by unfold lim; omega
    generalize encE p o (errO k) = d at *
    generalize Lib.itoa line = tx at *
    generalize numE (.ld [111, 117, 116, 101, 114] 7 (.ld f line (errO k))) = nn at *
    have hb : f.length + 1 + tx.length ≤ lim := by unfold lim; omega
    have hb1 : f.length + (1 + tx.length) ≤ lim := by unfold lim; omega
    have hb2 : f.length + (tx.length + 1) ≤ lim := by unfold lim; omega
    clear hs hg hl hn g1 g2
    rcases hform with ⟨hk0, rfl⟩ | ⟨hk0, g, rfl⟩
    · subst hk0
      simp at hkk hE n1
      simp (maxSteps := 10000000) [Tryz.f3, EF, FAl, hkk, hE, w1, w2, w3, n1, u1, hF, hEr, hb, hb0, hb1, hb2, hlen, hsm]
    · have hk1 : ¬ (k : Int) = 0 := by omega
      have hk2 : ((k : Int) == 0) = false := by simpa using hk1
      have n4 := n3 hk0
      subst n4
      simp (maxSteps := 10000000) [Tryz.f3, EF, FAl, hkk, hE, w1, w2, w3, n1, n2, u1, hF, hEr, hb, hb0, hb1, hb2, hlen, hsm, hk0, hk1, hk2]
  · have hlen : 100 < (f.length : Int) := by omega
    simp (maxSteps := 10000000) [Tryz.f3, EF, FAl, hlen]
end Ld
end Go.Ab

set_option maxRecDepth 100000
namespace Go.Ab
open Go.Proofs
namespace Ld
open Eo
theorem FAl_ok (m : Int) (p : Nat → Addr) (o : Nat → Obj) (pw : Obj) : Pure Tryz.prog (mkCtx tab (erGlobP m p o pw)) 4 FAl := by
  have : Pure Tryz.prog ((mkCtx tab (erGlobP m p o pw)).on orcAG (orcLd (erGlobP m p o pw) 20).2) 4 FAl := by
    refine pure_of (on_ok (T_ok _) (orcLd_ok (m := m) rfl 20).2) (fun f => ((orcLd_ok (m := m) rfl 20).1 f : Pure Tryz.prog (mkCtx tab (erGlobP m p o pw)) f _)) Tryz.func4 (by kernel_rfl) (kp := kp4) (fr := fr4) (by kernel_rfl) fun ds rs hF => ?_
    unfold FAl at hF
    split at hF
    · cases hF
      exact ⟨_, evAliveLd m p o pw⟩
    · simp at hF
  exact this
theorem EF_ok {m : Int} {p : Nat → Addr} {o : Nat → Obj} {t : TypeId} {fz : Nat × Nat} (hs : Sents (erGlobP m p o (powObj t fz)) p o) : ∀ f, Pure Tryz.prog (mkCtx tab (erGlobP m p o (powObj t fz))) f (EF p o f) :=
  ext_ok (ext_ok (ext_ok (ext_ok (ext_ok (ext_ok (ext_ok (ext_ok none_ok (FAl_ok m p o _)) (FErr_ok hs)) (FW_ok rfl)) FSm_ok) (FEr_ok rfl)) F47_ok) (U48_ok hs 11)) (FNum_ok hs)
end Ld
end Go.Ab
