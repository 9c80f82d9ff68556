/- One text of a proof that a law of this seat says true for every input: the lines of a text. It holds of the given program under the conditions that the row prints. -/
import Derived.Test.YticphlljahcmkaaDoorEr9
import Derived.Test.YticphlljahcmkaaDoorLnSplit
import Derived.Test.YticphlljahcmkaaDoorAbPow
set_option linter.unusedVariables false
set_option linter.unusedSimpArgs false
set_option maxRecDepth 100000
namespace Go.Proofs.YticphlljahcmkaaDoor
open Go.ChangeShapes Go.WideShapes Go.ChangeAt Go.RowKit Go.Ab

noncomputable def faultW (os : Os) : World := (splitW0 os).layVars Tryd.prog (Rows.linesFaultsRow.laid.filter fun x => x.2.handleName?.isNone)
theorem faultW_met (os : Os) (args : Array Value) : laidMetH Tryd.prog Rows.linesFaultsRow.laid ((faultW os).forCall (fun _ _ => 0) ⟨#[], args, []⟩).memory :=
  laidMetH_of_parts (laidMet_lay (w0 := splitW0 os) (by simp [faultW, World.memory, World.forCall, Input.heap]) (by kernel_rfl) (by kernel_rfl)) (by kernel_rfl)
theorem linesFaults_lifted (os : Os) (started : os.Started) (H : Type) (enc : TypeId × Value → H) :
    ReturnsInHanded {} Tryd.checked os 9 .any (fun w args => (Rows.linesFaultsSpec.pre enc Tryd.prog Tryd.f9 Rows.linesFaultsRow.domain false w args ∧ laidMetH Tryd.prog Rows.linesFaultsRow.laid w) ∧ sizedMet enc Tryd.prog Tryd.f9 (OpenSpec.ofChange Rows.linesFaultsSpec) false w args)
      (Rows.linesFaultsSpec.post enc Tryd.prog Tryd.f9 false true false false) := by
  refine lifted_of (C := Tryd.checked) own started (by kernel_rfl) Tryd.func9 laidOut
    (fun t ht => by
      have hall : ([3, 3].all fun u => Tryd.prog.readableRec u && decide (u < Tryd.prog.types.size)) = true := by kernel_rfl
      have h := List.all_eq_true.1 hall t ht
      rw [Bool.and_eq_true, decide_eq_true_eq] at h
      exact h) (tb := 4) rfl Tryd.underlying4 rfl
    (fun ds h => by
      match ds, h with
      | [a, b], _ => rfl)
    (ChangeSpec.witness_shaped (enc := enc) (C := Tryd.checked) (os := os) (X := fun w _ => laidMetH Tryd.prog Rows.linesFaultsRow.laid w) false (faultW os) #[.int .i64 0, .int .i64 0] 8 (World.layVars_os _ _ _)
      (World.shaped_of_ZipB (by kernel_rfl) (by kernel_rfl)) (by kernel_rfl) (by kernel_rfl) (by kernel_rfl)
      (faultW_met os _)) ?_
  intro W base args ds p hval hA hL hsh
  rw [Tryd.params9] at hA hval
  obtain ⟨v0, v1, d0, d1, p0, p1, rfl, rfl, rfl, h0, h1⟩ := trodAll_two hA
  obtain ⟨a, rfl, _, _, ha⟩ := open_int Tryd.underlying3 (hval 0 3 v0 rfl rfl) h0
  obtain ⟨b, rfl, _, _, hb⟩ := open_int Tryd.underlying3 (hval 1 3 v1 rfl rfl) h1
  simp only [Lit.wf, Bool.and_eq_true, decide_eq_true_eq] at ha
  obtain ⟨t, fz, h21⟩ := pow_of_laid hL (List.mem_of_getElem? (i := 2) rfl)
  obtain ⟨m, p, o, _, hS, hG⟩ := er_of_laid hsh hL (sent_mem 3 rfl) (List.mem_of_getElem? (i := 4) rfl)
  have hp : Pure Tryd.prog (mkCtx tab (erGlob m p o (some [.wh (.int .u64 1) 21 (powObj t fz)]))) 9 (fun | [.v (.int .i64 a), .v (.int .i64 b)] => if -9223372036854775808 ≤ a ∧ a ≤ 9223372036854775807 then some [.v (.bool true)] else none | _ => none) := by
    refine pure_of (T_ok _) (E12_ok (m := m) (hS _) rfl rfl rfl) Tryd.func9 (by kernel_rfl) (kp := kp9) (fr := fr9) (by kernel_rfl) fun ds rs hF => ?_
    split at hF
    · split at hF
      · rename_i h
        cases hF
        exact ⟨_, ev9 (hS _) _ _ h.1 h.2⟩
      · simp at hF
    · simp at hF
  refine run_of_pure hp (ds := [.v (.int .i64 a), .v (.int .i64 b)]) (if_pos ha) (hG _ fun cs h => by cases h; exact h21) ?_
  simp only [RdL, Rd]
  exact ⟨_, _, rfl, rfl, _, _, rfl, rfl, rfl⟩

theorem linesFaults_holds : Rows.LinesFaultsSaid :=
  OpenClaim.holds_of_wide 9 Tryd.f9 rfl rfl rfl rfl rfl rfl rfl ⟨rfl, rfl, rfl, rfl, rfl⟩ rfl rfl rfl rfl rfl (by kernel_rfl) Tryd.func9 (by kernel_rfl)
    (of_decide_eq_true (by kernel_rfl)) (by unfold Func.isWrapper; first | (rw [if_pos (by decide +kernel)]; kernel_rfl) | (rw [if_neg (by decide +kernel)]; exact ⟨rfl, rfl⟩))
    (fun os started H enc _ => linesFaults_lifted os started H enc)
theorem linesFaults_card : Rows.LinesFaultsCardSaid :=
  Claim7.holds_tied_plain_at .later [] [.data, .data, .data, .data, .handle, .sentinel, .sentinel, .sentinel, .sentinel, .sentinel, .sentinel, .sentinel, .sentinel, .sentinel, .sentinel, .sentinel, .sentinel, .sentinel, .sentinel, .sentinel, .sentinel, .sentinel, .sentinel, .pinned] true (true, "95b1e0ac3f4a5e96c11f43ebed4fbaccf9109462b3bf646be5b0c9d59810bfee") true
    linesFaults_holds (fun _ h => by cases h) (by kernel_rfl) (fun _ h => by cases h) linesFaults_row_tie rfl ⟨rfl, rfl⟩ (by kernel_rfl) rfl
    (fun f fn hf hfn => by
      obtain rfl : f = 9 := Option.some.inj ((show Tryd.prog.funcNamed "millwright/millwrightlaw12.LinesFaults" = some 9 by kernel_rfl).symm.trans hf) |>.symm
      obtain rfl : fn = Tryd.f9 := (Option.some.inj (Tryd.func9.symm.trans hfn)).symm
      exact ⟨by kernel_rfl, fun j t ht => by
        rw [Tryd.params9] at ht
        have hm : t ∈ [3, 3] := by simpa using Array.mem_of_getElem? ht
        have hall : ([3, 3].all fun u => !Tryd.prog.wantsStandIn u) = true := by kernel_rfl
        exact (show Tryd.prog.wantsStandIn t = false by simpa using List.all_eq_true.1 hall t hm)⟩)
    (by kernel_rfl)
#print axioms linesFaults_card
end Go.Proofs.YticphlljahcmkaaDoor
