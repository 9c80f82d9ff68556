/- One text of a proof that a law of this seat says true for every input: clashes. It holds of the given program under the conditions that the row prints. -/
import Derived.Test.YtnpbeikcgagacaaGreatDoorErM
import Derived.Test.YtnpbeikcgagacaaGreatDoorErO
import Derived.Test.YtnpbeikcgagacaaGreatDoorAm5
set_option linter.unusedSimpArgs false
set_option linter.unusedVariables false
set_option linter.unusedSectionVars false
set_option maxRecDepth 100000
namespace Go.Ab
open Go.Proofs
variable {glob : Nat → Option (List D)} {p : Nat → Addr} {o : Nat → Obj}
namespace Ac
open Eo
/-- (*ambig.Clash).Error -/
def FErc : List D → Option (List D)
  | [.ptr [.s f, .v (.int .i64 i), .v (.int .i64 j)]] => some [.s f]
  | _ => none
theorem FErc_ok : Pure Tryz.prog (mkCtx tab glob) 7 FErc := by
  refine pure_of (T_ok glob) none_ok Tryz.func7 (by kernel_rfl) (kp := kp7) (fr := fr7) (by kernel_rfl) fun ds rs hF => ?_
  unfold FErc at hF
  split at hF
  · cases hF
    exact ⟨0, by simp [Tryz.f7]⟩
  · simp at hF
/-- alive -/
def FAl : List D → Option (List D)
  | [] => some [.v (.bool true)]
  | _ => none
noncomputable def EA (p : Nat → Addr) (o : Nat → Obj) : Abs :=
  ext (ext (ext (ext (ext (ext (fun _ _ => none) 4 FAl) 6 (FErr p o)) 5 (FWc p o)) 7 FErc) 9 (FUam p o)) 8 (FNum p o)
set_option maxHeartbeats 8000000 in
/-- AmbigFaults says true. -/
theorem evAmbigFaults (hs : Sents glob p o) (f : List UInt8) (i j : Int) :
    fnK (mkCtx tab glob) (EA p o) kp3 fr3 0 Tryz.f3 [.s f, .v (.int .i64 i), .v (.int .i64 j)] = some [.v (.bool true)] := by
  by_cases hf : f.length ≤ 100
  · have hlen : ¬ (100 < (f.length : Int)) := by omega
    have g0 : (Er.am f i j).good = true := by simp [Er.good]
    have g1 : (Er.ld [109] 1 (.am f i j)).good = true := by simp [Er.good]
    have g3 : (errO 3).good = true := errO_good 3
    have g2 : (Er.ld [109] 1 (errO 3)).good = true := by simp [Er.good, g3]
    have w1 := FWc_eq hs (.am f i j) g0 rfl
    have w2 := FWc_eq hs (.ld [109] 1 (.am f i j)) g1 rfl
    have w3 := FWc_eq hs (.ld [109] 1 (errO 3)) g2 rfl
    have hE := FErr_eq (p := p) (o := o) 3 (by omega)
    have n1 := FNum_eq hs (.sent 13) rfl
    have n2 := FNum_eq hs (.ld [109] 1 (.am f i j)) g1
    have e1 : numE (.sent 13) = 13 := rfl
    have e2 : numE (.ld [109] 1 (.am f i j)) = 13 := rfl
    have e3 : errO 3 = .sent 3 := rfl
    rw [e1] at n1
    rw [e2] at n2
    rw [e3] at hE w3
    simp only [encE, whereC, encC] at w1 w2 w3 n1 n2 hE
    have hff : (f == f) = true := by simp
    have hii : (i == i) = true := by simp
    have hjj : (j == j) = true := by simp
    have hE' : FErr p o [.v (.int .i64 3)] = some [.ifc 273 (.at (p 3) (o 3))] := hE
    simp (maxSteps := 10000000) [Tryz.f3, fr3, EA, FAl, FErc, FUam, hE', w1, w2, w3, n1, n2, hlen, hff, hii, hjj]
  · have hlen : 100 < (f.length : Int) := by omega
    simp (maxSteps := 10000000) [Tryz.f3, EA, FAl, hlen]
theorem FAl_ok (m : Int) (p : Nat → Addr) (o : Nat → Obj) : Pure Tryz.prog (mkCtx tab (erGlob m p o)) 4 FAl := by
  have : Pure Tryz.prog (((mkCtx tab (erGlob m p o)).arrs wrAm).on orcAG (orcAm (erGlob m p o) 20).2) 4 FAl := by
    refine pure_of (on_ok (arrs_ok (T_ok _) wrAm) (orcAm_ok 20).2) (fun f => ((orcAm_ok 20).1 f : Pure Tryz.prog (mkCtx tab (erGlob m p o)) f _)) Tryz.func4 (by kernel_rfl) (kp := kp4) (fr := fr4) (by kernel_rfl) fun ds rs hF => ?_
    unfold FAl at hF
    split at hF
    · cases hF
      exact ⟨_, evAliveAm m p o⟩
    · simp at hF
  exact this
theorem EA_ok {m : Int} {p : Nat → Addr} {o : Nat → Obj} (hs : Sents (erGlob m p o) p o) : ∀ f, Pure Tryz.prog (mkCtx tab (erGlob m p o)) f (EA p o f) :=
  ext_ok (ext_ok (ext_ok (ext_ok (ext_ok (ext_ok none_ok (FAl_ok m p o)) (FErr_ok hs)) (FWc_ok rfl)) FErc_ok) (U48_ok hs 9)) (FNum_ok hs)
end Ac
end Go.Ab
