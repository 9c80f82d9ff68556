/- One text of a proof that a law of this seat says true for every input: statements. It holds of the given program under the conditions that the row prints. -/
import Derived.Test.YtaiklcijiajkaaaDoorLx28
import Derived.Test.YtaiklcijiajkaaaDoorAbHand0
import Derived.Lay
import Derived.SevenTiedAt
import Derived.Test.YtaiklcijiajkaaaDoorRows
import Derived.Test.YtaiklcijiajkaaaDoorTie
import Derived.Test.YtaiklcijiajkaaaDoorCards
set_option linter.unusedVariables false
set_option linter.unusedSimpArgs false
set_option maxRecDepth 100000
namespace Go.Proofs.YtaiklcijiajkaaaDoor
open Go.ChangeShapes Go.WideShapes Go.ChangeAt Go.RowKit Go.Ab
open Go.ChangeMaps (open_string)

theorem own_stmtAlone : ownKnob Tryd.prog.godebug = none := by kernel_rfl
theorem laidOut_stmtAlone : laidOutB Tryd.prog = true := by kernel_rfl
noncomputable def W0stmtAlone (os : Os) : World :=
  World.holding Tryd.prog os ⟨#[], #[], []⟩
noncomputable def WstmtAlone (os : Os) : World := (W0stmtAlone os).layVars Tryd.prog (Rows.stmtAloneRow.laid.filter fun x => x.2.handleName?.isNone)
theorem WstmtAlone_met (os : Os) (args : Array Value) : laidMetH Tryd.prog Rows.stmtAloneRow.laid ((WstmtAlone os).forCall (fun _ _ => 0) ⟨#[], args, []⟩).memory :=
  laidMetH_of_parts (laidMet_lay (w0 := W0stmtAlone os) (by simp [WstmtAlone, World.memory, World.forCall, Input.heap]) (by kernel_rfl) (by kernel_rfl)) (by kernel_rfl)
theorem stmtAlone_lifted (os : Os) (started : os.Started) (H : Type) (enc : TypeId × Value → H) :
    ReturnsInHanded {} Tryd.checked os 3 .any (fun w args => (Rows.stmtAloneSpec.pre enc Tryd.prog Tryd.f3 Rows.stmtAloneRow.domain false w args ∧ laidMetH Tryd.prog Rows.stmtAloneRow.laid w) ∧ sizedMet enc Tryd.prog Tryd.f3 (OpenSpec.ofChange Rows.stmtAloneSpec) false w args)
      (Rows.stmtAloneSpec.post enc Tryd.prog Tryd.f3 false true false false) := by
  refine lifted_of (C := Tryd.checked) own_stmtAlone started (by kernel_rfl) Tryd.func3 laidOut_stmtAlone
    (fun t ht => by
      have hall : ([9, 9].all fun u => Tryd.prog.readableRec u && decide (u < Tryd.prog.types.size)) = true := by kernel_rfl
      have h := List.all_eq_true.1 hall t ht
      rw [Bool.and_eq_true, decide_eq_true_eq] at h
      exact h) (tb := 4) rfl Tryd.underlying4 rfl
    (fun ds h => by
      match ds, h with
      | [z0, z1], _ => rfl)
    (ChangeSpec.witness_shaped (enc := enc) (C := Tryd.checked) (os := os) (X := fun w _ => laidMetH Tryd.prog Rows.stmtAloneRow.laid w) false (WstmtAlone os) #[.string ⟨#[]⟩, .string ⟨#[]⟩] 8 (World.layVars_os _ _ _)
      (World.shaped_of_ZipB (by kernel_rfl) (by kernel_rfl)) (by kernel_rfl) (by kernel_rfl) (by kernel_rfl)
      (WstmtAlone_met os _)) ?_
  intro W base args ds p hval hA hL hsh
  rw [Tryd.params3] at hA hval
  obtain ⟨v0, v1, d0, d1, p0, p1, rfl, rfl, rfl, h0, h1⟩ := trodAll_two hA
  obtain ⟨a0, rfl, _, _, _⟩ := open_string Tryd.underlying9 (hval 0 9 v0 rfl rfl) h0
  obtain ⟨a1, rfl, _, _, _⟩ := open_string Tryd.underlying9 (hval 1 9 v1 rfl rfl) h1
  obtain ⟨m, p, o, hS, hG⟩ := er0_of_laid hsh hL (sent_mem [1, 2, 3, 4, 5] rfl)
  have hp : Pure Tryd.prog (mkCtx tab (erGlob0 m p o)) 3 (liftG (fun _ : (List UInt8) × (List UInt8) => True) (fun x => [.s x.1, .s x.2]) fun _ => some [.v (.bool true)]) := by
    refine pure_of (T_ok _) (EAl_ok (m := m) hS rfl) Tryd.func3 (by kernel_rfl) (kp := kp3) (fr := fr3) (by kernel_rfl) fun ds rs hF => ?_
    obtain ⟨x, _, rfl, h⟩ := liftG_some hF
    cases h
    exact ⟨_, evAlone 4294967011 (by decide) x.1 x.2⟩
  have hF := liftG_enc (good := fun _ : (List UInt8) × (List UInt8) => True) (enc := fun x => [.s x.1, .s x.2]) (f := fun _ => some [D.v (.bool true)]) (fun _ _ _ _ _ => rfl) (a0.data.toList, a1.data.toList) trivial
  refine run_of_pure hp (ds := [.s a0.data.toList, .s a1.data.toList]) hF hG ?_
  simp only [RdL]
  exact ⟨_, _, rfl, rd_string a0, _, _, rfl, rd_string a1, rfl⟩
theorem stmtAlone_holds : Rows.StmtAloneSaid :=
  OpenClaim.holds_of_wide 3 Tryd.f3 rfl rfl rfl rfl rfl rfl rfl ⟨rfl, rfl, rfl, rfl, rfl⟩ rfl rfl rfl rfl rfl (by kernel_rfl) Tryd.func3 (by kernel_rfl)
    (of_decide_eq_true (by kernel_rfl)) (by unfold Func.isWrapper; first | (rw [if_pos (by decide +kernel)]; kernel_rfl) | (rw [if_neg (by decide +kernel)]; exact ⟨rfl, rfl⟩))
    (fun os started H enc _ => stmtAlone_lifted os started H enc)
theorem stmtAlone_card : Rows.StmtAloneCardSaid :=
  Claim7.holds_tied_plain_at .later [] [.data, .sentinel, .sentinel, .sentinel, .sentinel, .sentinel, .pinned] true (true, "c302ca6ff6856cfc9990c0cf59926a749df23ac3ddf34865361324c88082c6b5") false
    stmtAlone_holds (fun _ h => by cases h) (by kernel_rfl) (fun _ h => by cases h) stmtAlone_row_tie rfl ⟨rfl, rfl⟩ (by kernel_rfl) rfl
    (fun f fn hf hfn => by
      obtain rfl : f = 3 := Option.some.inj ((show Tryd.prog.funcNamed "millwright/millwrightlaw19.StmtAlone" = some 3 by kernel_rfl).symm.trans hf) |>.symm
      obtain rfl : fn = Tryd.f3 := (Option.some.inj (Tryd.func3.symm.trans hfn)).symm
      exact ⟨by kernel_rfl, fun j t ht => by
        rw [Tryd.params3] at ht
        have hm : t ∈ [9, 9] := by simpa using Array.mem_of_getElem? ht
        have hall : ([9, 9].all fun u => !Tryd.prog.wantsStandIn u) = true := by kernel_rfl
        exact (show Tryd.prog.wantsStandIn t = false by simpa using List.all_eq_true.1 hall t hm)⟩)
    (by kernel_rfl)
#print axioms stmtAlone_card
end Go.Proofs.YtaiklcijiajkaaaDoor
