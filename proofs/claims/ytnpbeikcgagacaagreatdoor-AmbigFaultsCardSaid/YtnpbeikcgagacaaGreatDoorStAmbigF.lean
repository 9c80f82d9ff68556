/- One text of a proof that a law of this seat says true for every input: statements. It holds of the given program under the conditions that the row prints. -/
import Derived.Test.YtnpbeikcgagacaaGreatDoorAm6
import Derived.Test.YtnpbeikcgagacaaGreatDoorAbSh
import Derived.Lay
import Derived.SevenTiedAt
import Derived.Test.YtnpbeikcgagacaaGreatDoorRows
import Derived.Test.YtnpbeikcgagacaaGreatDoorTie
import Derived.Test.YtnpbeikcgagacaaGreatDoorCards
set_option linter.unusedSimpArgs false
set_option linter.unusedVariables false
set_option linter.unusedSectionVars false
set_option maxRecDepth 100000
namespace Go.Proofs.YtnpbeikcgagacaaGreatDoor
open Go.ChangeShapes Go.WideShapes Go.ChangeAt Go.RowKit Go.Ab
open Go.ChangeMaps (open_string)

theorem own_ambigFaults : ownKnob Tryz.prog.godebug = none := by kernel_rfl
theorem laidOut_ambigFaults : laidOutB Tryz.prog = true := by kernel_rfl
noncomputable def W0ambigFaults (os : Os) : World :=
  let w0 := World.holding Tryz.prog os ⟨#[], #[], []⟩
  { w0 with heap := w0.heap.modify 2 fun
      | .cells _ t frozen => .cells #[errTypeV] t frozen
      | o => o }
noncomputable def WambigFaults (os : Os) : World := (W0ambigFaults os).layVars Tryz.prog (Rows.ambigFaultsRow.laid.filter fun x => x.2.handleName?.isNone)
theorem WambigFaults_met (os : Os) (args : Array Value) : laidMetH Tryz.prog Rows.ambigFaultsRow.laid ((WambigFaults os).forCall (fun _ _ => 0) ⟨#[], args, []⟩).memory :=
  laidMetH_of_parts (laidMet_lay (w0 := W0ambigFaults os) (by simp [WambigFaults, World.memory, World.forCall, Input.heap]) (by kernel_rfl) (by kernel_rfl)) (by kernel_rfl)
theorem ambigFaults_pure {m : Int} {p : Nat → Addr} {o : Nat → Obj} (hS : Sents (erGlob m p o) p o) : Pure Tryz.prog (mkCtx tab (erGlob m p o)) 3 (liftG (fun _ : (List UInt8) × (Int) × (Int) => True) (fun x => [.s x.1, .v (.int .i64 x.2.1), .v (.int .i64 x.2.2)]) fun _ => some [.v (.bool true)]) := by

  refine pure_of (T_ok _) (Ac.EA_ok (m := m) hS) Tryz.func3 (by kernel_rfl) (kp := kp3) (fr := fr3) (by kernel_rfl) fun ds rs hF => ?_
  obtain ⟨x, _, rfl, h⟩ := liftG_some hF
  cases h
  exact ⟨_, Ac.evAmbigFaults hS x.1 x.2.1 x.2.2⟩
theorem ambigFaults_readable : ([9, 3, 3].all fun u => Tryz.prog.readableRec u && decide (u < Tryz.prog.types.size)) = true := by kernel_rfl
theorem ambigFaults_lifted (os : Os) (started : os.Started) (H : Type) (enc : TypeId × Value → H) :
    ReturnsInHanded {} Tryz.checked os 3 .any (fun w args => (Rows.ambigFaultsSpec.pre enc Tryz.prog Tryz.f3 Rows.ambigFaultsRow.domain false w args ∧ laidMetH Tryz.prog Rows.ambigFaultsRow.laid w) ∧ sizedMet enc Tryz.prog Tryz.f3 (OpenSpec.ofChange Rows.ambigFaultsSpec) false w args)
      (Rows.ambigFaultsSpec.post enc Tryz.prog Tryz.f3 false true false false) := by
  refine lifted_of (C := Tryz.checked) own_ambigFaults started (by kernel_rfl) Tryz.func3 laidOut_ambigFaults
    (fun t ht => by
      have h := List.all_eq_true.1 ambigFaults_readable t ht
      rw [Bool.and_eq_true, decide_eq_true_eq] at h
      exact h) (tb := 4) rfl Tryz.underlying4 rfl
    (fun ds h => by
      match ds, h with
      | [z0, z1, z2], _ => rfl)
    (ChangeSpec.witness_shaped (enc := enc) (C := Tryz.checked) (os := os) (X := fun w _ => laidMetH Tryz.prog Rows.ambigFaultsRow.laid w) false (WambigFaults os) #[.string ⟨#[]⟩, .int .i64 0, .int .i64 0] 8 (World.layVars_os _ _ _)
      (World.shaped_of_ZipB (by kernel_rfl) (by kernel_rfl)) (by kernel_rfl) (by kernel_rfl) (by kernel_rfl)
      (WambigFaults_met os _)) ?_
  intro W base args ds p hval hA hL hsh
  rw [Tryz.params3] at hA hval
  obtain ⟨v0, v1, v2, d0, d1, d2, p0, p1, p2, rfl, rfl, rfl, h0, h1, h2⟩ := trodAll_three hA
  obtain ⟨a0, rfl, _, _, _⟩ := open_string Tryz.underlying9 (hval 0 9 v0 rfl rfl) h0
  obtain ⟨a1, rfl, _, _, hb1⟩ := open_int Tryz.underlying3 (hval 1 3 v1 rfl rfl) h1
  obtain ⟨a2, rfl, _, _, hb2⟩ := open_int Tryz.underlying3 (hval 2 3 v2 rfl rfl) h2
  obtain ⟨m, p, o, hS, hG⟩ := er_of_laid hsh hL (sent_mem [1, 2, 3, 4, 5, 6, 7, 8, 9, 10, 11, 12, 13, 14, 15, 16, 17, 18] rfl) (by simp [Rows.ambigFaultsRow, Rows.laid_errors_errorType])
  have hp := ambigFaults_pure hS
  have hF := liftG_enc (good := fun _ : (List UInt8) × (Int) × (Int) => True) (enc := fun x => [.s x.1, .v (.int .i64 x.2.1), .v (.int .i64 x.2.2)]) (f := fun _ => some [D.v (.bool true)]) (fun _ _ _ _ _ => rfl) (a0.data.toList, a1, a2) trivial
  refine run_of_pure hp (ds := [.s a0.data.toList, .v (.int .i64 a1), .v (.int .i64 a2)]) hF hG ?_
  simp only [RdL]
  exact ⟨_, _, rfl, rd_string a0, _, _, rfl, (by simp only [Rd]), _, _, rfl, (by simp only [Rd]), rfl⟩
theorem ambigFaults_holds : Rows.AmbigFaultsSaid :=
  OpenClaim.holds_of_wide 3 Tryz.f3 rfl rfl rfl rfl rfl rfl rfl ⟨rfl, rfl, rfl, rfl, rfl⟩ rfl rfl rfl rfl rfl (by kernel_rfl) Tryz.func3 (by kernel_rfl)
    (of_decide_eq_true (by kernel_rfl)) (by unfold Func.isWrapper; first | (rw [if_pos (by decide +kernel)]; kernel_rfl) | (rw [if_neg (by decide +kernel)]; exact ⟨rfl, rfl⟩))
    (fun os started H enc _ => ambigFaults_lifted os started H enc)
theorem ambigFaults_card : Rows.AmbigFaultsCardSaid :=
  Claim7.holds_tied_plain_at .later [] [.handle, .sentinel, .sentinel, .sentinel, .sentinel, .sentinel, .sentinel, .sentinel, .sentinel, .sentinel, .sentinel, .sentinel, .sentinel, .sentinel, .sentinel, .sentinel, .sentinel, .sentinel, .sentinel, .data] true (true, "8f4fb9111382fc31f98bbedd170a7a735fd1b12f263c6e80e624458d5b84373c") true
    ambigFaults_holds (fun _ h => by cases h) (by kernel_rfl) (fun _ h => by cases h) ambigFaults_row_tie rfl ⟨rfl, rfl⟩ (by kernel_rfl) rfl
    (fun f fn hf hfn => by
      obtain rfl : f = 3 := Option.some.inj ((show Tryz.prog.funcNamed "millwright/millwrightlaw26.AmbigFaults" = some 3 by kernel_rfl).symm.trans hf) |>.symm
      obtain rfl : fn = Tryz.f3 := (Option.some.inj (Tryz.func3.symm.trans hfn)).symm
      exact ⟨by kernel_rfl, fun j t ht => by
        rw [Tryz.params3] at ht
        have hm : t ∈ [9, 3, 3] := by simpa using Array.mem_of_getElem? ht
        have hall : ([9, 3, 3].all fun u => !Tryz.prog.wantsStandIn u) = true := by kernel_rfl
        exact (show Tryz.prog.wantsStandIn t = false by simpa using List.all_eq_true.1 hall t hm)⟩)
    (by kernel_rfl)
#print axioms ambigFaults_card
end Go.Proofs.YtnpbeikcgagacaaGreatDoor
