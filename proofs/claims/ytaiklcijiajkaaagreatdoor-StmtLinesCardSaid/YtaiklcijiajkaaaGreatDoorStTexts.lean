/- One text of a proof that a law of this seat says true for every input: statements. It holds of the given program under the conditions that the row prints. -/
import Derived.Test.YtaiklcijiajkaaaGreatDoorLxG
import Derived.Test.YtaiklcijiajkaaaGreatDoorAbD
import Derived.Lay
import Derived.SevenTiedAt
import Derived.Test.YtaiklcijiajkaaaGreatDoorRows
import Derived.Test.YtaiklcijiajkaaaGreatDoorTie
import Derived.Test.YtaiklcijiajkaaaGreatDoorCards
set_option linter.unusedVariables false
set_option linter.unusedSimpArgs false
set_option maxRecDepth 100000
namespace Go.Proofs.YtaiklcijiajkaaaGreatDoor
open Go.ChangeShapes Go.WideShapes Go.ChangeAt Go.RowKit Go.Ab
open Go.ChangeMaps (open_string)

theorem own : ownKnob Tryz.prog.godebug = none := by kernel_rfl
theorem laidOut : laidOutB Tryz.prog = true := by kernel_rfl
noncomputable def stmtW0 (os : Os) : World :=
  let w0 := World.holding Tryz.prog os ⟨#[], #[], []⟩
  { w0 with heap := w0.heap.modify 3 fun
      | .cells _ t frozen => .cells #[errTypeV] t frozen
      | o => o }
noncomputable def stmtW (os : Os) : World := (stmtW0 os).layVars Tryz.prog (Rows.stmtTextsRow.laid.filter fun x => x.2.handleName?.isNone)
theorem stmtW_met (os : Os) (args : Array Value) : laidMetH Tryz.prog Rows.stmtTextsRow.laid ((stmtW os).forCall (fun _ _ => 0) ⟨#[], args, []⟩).memory :=
  laidMetH_of_parts (laidMet_lay (w0 := stmtW0 os) (by simp [stmtW, World.memory, World.forCall, Input.heap]) (by kernel_rfl) (by kernel_rfl)) (by kernel_rfl)
theorem stmtTexts_lifted (os : Os) (started : os.Started) (H : Type) (enc : TypeId × Value → H) :
    ReturnsInHanded {} Tryz.checked os 3 .any (fun w args => (Rows.stmtTextsSpec.pre enc Tryz.prog Tryz.f3 Rows.stmtTextsRow.domain false w args ∧ laidMetH Tryz.prog Rows.stmtTextsRow.laid w) ∧ sizedMet enc Tryz.prog Tryz.f3 (OpenSpec.ofChange Rows.stmtTextsSpec) false w args)
      (Rows.stmtTextsSpec.post enc Tryz.prog Tryz.f3 false true false false) := by
  refine lifted_of (C := Tryz.checked) own started (by kernel_rfl) Tryz.func3 laidOut
    (fun t ht => by
      have hall : ([9].all fun u => Tryz.prog.readableRec u && decide (u < Tryz.prog.types.size)) = true := by kernel_rfl
      have h := List.all_eq_true.1 hall t ht
      rw [Bool.and_eq_true, decide_eq_true_eq] at h
      exact h) (tb := 4) rfl Tryz.underlying4 rfl
    (fun ds h => by
      match ds, h with
      | [a], _ => rfl)
    (ChangeSpec.witness_shaped (enc := enc) (C := Tryz.checked) (os := os) (X := fun w _ => laidMetH Tryz.prog Rows.stmtTextsRow.laid w) false (stmtW os) #[.string ⟨#[]⟩] 8 (World.layVars_os _ _ _)
      (World.shaped_of_ZipB (by kernel_rfl) (by kernel_rfl)) (by kernel_rfl) (by kernel_rfl) (by kernel_rfl)
      (stmtW_met os _)) ?_
  intro W base args ds p hval hA hL hsh
  rw [Tryz.params3] at hA hval
  obtain ⟨v0, d0, rfl, rfl, h0⟩ := trodAll_one hA
  obtain ⟨a, rfl, _, _, _⟩ := open_string Tryz.underlying9 (hval 0 9 v0 rfl rfl) h0
  obtain ⟨m, p, o, hS, hG⟩ := er_of_laid hsh hL (sent_mem 2 rfl) (by simp [Rows.stmtTextsRow, Rows.laid_errors_errorType])
  have hp : Pure Tryz.prog (mkCtx tab (erGlob m p o)) 3 (fun | [.s a] => some [.v (.bool true)] | _ => none) := by
    refine pure_of (T_ok _) (ET_ok (m := m) hS rfl rfl) Tryz.func3 (by kernel_rfl) (kp := kp3) (fr := fr3) (by kernel_rfl) fun ds rs hF => ?_
    split at hF
    · cases hF
      exact ⟨_, evTexts _⟩
    · simp at hF
  refine run_of_pure hp (ds := [.s a.data.toList]) rfl hG ?_
  simp only [RdL]
  exact ⟨_, _, rfl, rd_string a, rfl⟩

theorem stmtTexts_holds : Rows.StmtTextsSaid :=
  OpenClaim.holds_of_wide 3 Tryz.f3 rfl rfl rfl rfl rfl rfl rfl ⟨rfl, rfl, rfl, rfl, rfl⟩ rfl rfl rfl rfl rfl (by kernel_rfl) Tryz.func3 (by kernel_rfl)
    (of_decide_eq_true (by kernel_rfl)) (by unfold Func.isWrapper; first | (rw [if_pos (by decide +kernel)]; kernel_rfl) | (rw [if_neg (by decide +kernel)]; exact ⟨rfl, rfl⟩))
    (fun os started H enc _ => stmtTexts_lifted os started H enc)
theorem stmtTexts_card : Rows.StmtTextsCardSaid :=
  Claim7.holds_tied_plain_at .later [] [.data, .handle, .sentinel, .sentinel, .sentinel, .sentinel, .sentinel, .sentinel, .sentinel, .sentinel, .sentinel, .sentinel, .sentinel, .sentinel, .sentinel, .sentinel, .sentinel, .sentinel, .sentinel, .sentinel, .pinned] true (true, "e62fa124af10d46579833ec7856ab45fa6445fcd756cf03227258783d3a037ff") true
    stmtTexts_holds (fun _ h => by cases h) (by kernel_rfl) (fun _ h => by cases h) stmtTexts_row_tie rfl ⟨rfl, rfl⟩ (by kernel_rfl) rfl
    (fun f fn hf hfn => by
      obtain rfl : f = 3 := Option.some.inj ((show Tryz.prog.funcNamed "millwright/millwrightlaw19.StmtTexts" = some 3 by kernel_rfl).symm.trans hf) |>.symm
      obtain rfl : fn = Tryz.f3 := (Option.some.inj (Tryz.func3.symm.trans hfn)).symm
      exact ⟨by kernel_rfl, fun j t ht => by
        rw [Tryz.params3] at ht
        have hm : t ∈ [9] := by simpa using Array.mem_of_getElem? ht
        have hall : ([9].all fun u => !Tryz.prog.wantsStandIn u) = true := by kernel_rfl
        exact (show Tryz.prog.wantsStandIn t = false by simpa using List.all_eq_true.1 hall t hm)⟩)
    (by kernel_rfl)
#print axioms stmtTexts_card
end Go.Proofs.YtaiklcijiajkaaaGreatDoor
