/- One text of a proof that a law of this seat says true for every input: statements. It holds of the given program under the conditions that the row prints. -/
import Derived.Test.YtgflhnkakmdalaaGreatDoorLdA
import Derived.Test.YtgflhnkakmdalaaGreatDoorAbSh
import Derived.Lay
import Derived.SevenTiedAt
import Derived.Test.YtgflhnkakmdalaaGreatDoorRows
import Derived.Test.YtgflhnkakmdalaaGreatDoorTie
import Derived.Test.YtgflhnkakmdalaaGreatDoorCards
set_option linter.unusedSimpArgs false
set_option linter.unusedVariables false
set_option linter.unusedSectionVars false
set_option maxRecDepth 100000
namespace Go.Proofs.YtgflhnkakmdalaaGreatDoor
open Go.ChangeShapes Go.WideShapes Go.ChangeAt Go.RowKit Go.Ab
open Go.ChangeMaps (open_string)

theorem own_loadFaults : ownKnob Tryz.prog.godebug = none := by kernel_rfl
theorem laidOut_loadFaults : laidOutB Tryz.prog = true := by kernel_rfl
noncomputable def W0loadFaults (os : Os) : World :=
  let w0 := World.holding Tryz.prog os ⟨#[], #[], []⟩
  { w0 with heap := w0.heap.modify 18 fun
      | .cells _ t frozen => .cells #[errTypeV] t frozen
      | o => o }
noncomputable def WloadFaults (os : Os) : World := (W0loadFaults os).layVars Tryz.prog (Rows.loadFaultsRow.laid.filter fun x => x.2.handleName?.isNone)
theorem WloadFaults_met (os : Os) (args : Array Value) : laidMetH Tryz.prog Rows.loadFaultsRow.laid ((WloadFaults os).forCall (fun _ _ => 0) ⟨#[], args, []⟩).memory :=
  laidMetH_of_parts (laidMet_lay (w0 := W0loadFaults os) (by simp [WloadFaults, World.memory, World.forCall, Input.heap]) (by kernel_rfl) (by kernel_rfl)) (by kernel_rfl)
theorem loadFaults_lifted (os : Os) (started : os.Started) (H : Type) (enc : TypeId × Value → H) :
    ReturnsInHanded {} Tryz.checked os 3 .any (fun w args => (Rows.loadFaultsSpec.pre enc Tryz.prog Tryz.f3 Rows.loadFaultsRow.domain false w args ∧ laidMetH Tryz.prog Rows.loadFaultsRow.laid w) ∧ sizedMet enc Tryz.prog Tryz.f3 (OpenSpec.ofChange Rows.loadFaultsSpec) false w args)
      (Rows.loadFaultsSpec.post enc Tryz.prog Tryz.f3 false true false false) := by
  refine lifted_of (C := Tryz.checked) own_loadFaults started (by kernel_rfl) Tryz.func3 laidOut_loadFaults
    (fun t ht => by
      have hall : ([9, 3, 3].all fun u => Tryz.prog.readableRec u && decide (u < Tryz.prog.types.size)) = true := by kernel_rfl
      have h := List.all_eq_true.1 hall t ht
      rw [Bool.and_eq_true, decide_eq_true_eq] at h
      exact h) (tb := 4) rfl Tryz.underlying4 rfl
    (fun ds h => by
      match ds, h with
      | [z0, z1, z2], _ => rfl)
    (ChangeSpec.witness_shaped (enc := enc) (C := Tryz.checked) (os := os) (X := fun w _ => laidMetH Tryz.prog Rows.loadFaultsRow.laid w) false (WloadFaults os) #[.string ⟨#[]⟩, .int .i64 0, .int .i64 0] 8 (World.layVars_os _ _ _)
      (World.shaped_of_ZipB (by kernel_rfl) (by kernel_rfl)) (by kernel_rfl) (by kernel_rfl) (by kernel_rfl)
      (WloadFaults_met os _)) ?_
  intro W base args ds p hval hA hL hsh
  rw [Tryz.params3] at hA hval
  obtain ⟨v0, v1, v2, d0, d1, d2, p0, p1, p2, rfl, rfl, rfl, h0, h1, h2⟩ := trodAll_three hA
  obtain ⟨a0, rfl, _, _, _⟩ := open_string Tryz.underlying9 (hval 0 9 v0 rfl rfl) h0
  obtain ⟨a1, rfl, _, _, hb1⟩ := open_int Tryz.underlying3 (hval 1 3 v1 rfl rfl) h1
  obtain ⟨a2, rfl, _, _, hb2⟩ := open_int Tryz.underlying3 (hval 2 3 v2 rfl rfl) h2
  obtain ⟨m, p, o, t, fz, hS, hG⟩ := erP_of_laid hsh hL (sent_mem [5, 6, 7, 8, 9, 10, 11, 12, 13, 14, 15, 16, 17, 18, 19, 20, 21, 22] rfl) (by simp [Rows.loadFaultsRow, Rows.laid_errors_errorType]) (List.mem_of_getElem? (i := 2) rfl)
  have hp : Pure Tryz.prog (mkCtx tab (erGlobP m p o (powObj t fz))) 3 (liftG (fun x : (List UInt8) × (Int) × (Int) => -9223372036854775808 ≤ x.2.1 ∧ x.2.1 ≤ 9223372036854775807) (fun x => [.s x.1, .v (.int .i64 x.2.1), .v (.int .i64 x.2.2)]) fun _ => some [.v (.bool true)]) := by
    refine pure_of (T_ok _) (Ld.EF_ok hS) Tryz.func3 (by kernel_rfl) (kp := kp3) (fr := fr3) (by kernel_rfl) fun ds rs hF => ?_
    obtain ⟨x, hx, rfl, h⟩ := liftG_some hF
    cases h
    exact ⟨_, Ld.evLoadFaults hS x.1 x.2.1 x.2.2 hx.1 hx.2⟩
  have hF := liftG_enc (good := fun x : (List UInt8) × (Int) × (Int) => -9223372036854775808 ≤ x.2.1 ∧ x.2.1 ≤ 9223372036854775807) (enc := fun x => [.s x.1, .v (.int .i64 x.2.1), .v (.int .i64 x.2.2)]) (f := fun _ => some [D.v (.bool true)]) (fun _ _ _ _ _ => rfl) (a0.data.toList, a1, a2) (by have h := hb1; simp only [Lit.wf, Bool.and_eq_true, decide_eq_true_eq] at h; exact h)
  refine run_of_pure hp (ds := [.s a0.data.toList, .v (.int .i64 a1), .v (.int .i64 a2)]) hF hG ?_
  simp only [RdL]
  exact ⟨_, _, rfl, rd_string a0, _, _, rfl, (by simp only [Rd]), _, _, rfl, (by simp only [Rd]), rfl⟩
theorem loadFaults_holds : Rows.LoadFaultsSaid :=
  OpenClaim.holds_of_wide 3 Tryz.f3 rfl rfl rfl rfl rfl rfl rfl ⟨rfl, rfl, rfl, rfl, rfl⟩ rfl rfl rfl rfl rfl (by kernel_rfl) Tryz.func3 (by kernel_rfl)
    (of_decide_eq_true (by kernel_rfl)) (by unfold Func.isWrapper; first | (rw [if_pos (by decide +kernel)]; kernel_rfl) | (rw [if_neg (by decide +kernel)]; exact ⟨rfl, rfl⟩))
    (fun os started H enc _ => loadFaults_lifted os started H enc)
theorem loadFaults_card : Rows.LoadFaultsCardSaid :=
  Claim7.holds_tied_plain_at .later [] [.data, .data, .data, .data, .handle, .sentinel, .sentinel, .sentinel, .sentinel, .sentinel, .sentinel, .sentinel, .sentinel, .sentinel, .sentinel, .sentinel, .sentinel, .sentinel, .sentinel, .sentinel, .sentinel, .sentinel, .sentinel, .pinned] true (true, "8177ea637335da23c8e763c9d1f207b25a624cdd32f76a39b22a4a2513fbca6b") true
    loadFaults_holds (fun _ h => by cases h) (by kernel_rfl) (fun _ h => by cases h) loadFaults_row_tie rfl ⟨rfl, rfl⟩ (by kernel_rfl) rfl
    (fun f fn hf hfn => by
      obtain rfl : f = 3 := Option.some.inj ((show Tryz.prog.funcNamed "millwright/millwrightlaw20.LoadFaults" = some 3 by kernel_rfl).symm.trans hf) |>.symm
      obtain rfl : fn = Tryz.f3 := (Option.some.inj (Tryz.func3.symm.trans hfn)).symm
      exact ⟨by kernel_rfl, fun j t ht => by
        rw [Tryz.params3] at ht
        have hm : t ∈ [9, 3, 3] := by simpa using Array.mem_of_getElem? ht
        have hall : ([9, 3, 3].all fun u => !Tryz.prog.wantsStandIn u) = true := by kernel_rfl
        exact (show Tryz.prog.wantsStandIn t = false by simpa using List.all_eq_true.1 hall t hm)⟩)
    (by kernel_rfl)
#print axioms loadFaults_card
end Go.Proofs.YtgflhnkakmdalaaGreatDoor
