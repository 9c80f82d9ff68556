/- One text of a proof that a law of this seat says true for every input: the lines of a text. It holds of the given program under the conditions that the row prints. -/
import Derived.Test.YticphlljahcmkaaDoorLn18
import Derived.Test.YticphlljahcmkaaDoorLnJoin
import Derived.Test.YticphlljahcmkaaDoorAbD
set_option linter.unusedVariables false
set_option linter.unusedSimpArgs false
set_option maxRecDepth 100000
namespace Go.Proofs.YticphlljahcmkaaDoor
open Go.ChangeShapes Go.WideShapes Go.ChangeAt Go.RowKit Go.Ab
open Go.ChangeMaps (open_string)

noncomputable def splitW0 (os : Os) : World :=
  let w0 := World.holding Tryd.prog os ⟨#[], #[], []⟩
  { w0 with heap := w0.heap.modify 19 fun
      | .cells _ t frozen => .cells #[errTypeV] t frozen
      | o => o }
noncomputable def splitW (os : Os) : World := (splitW0 os).layVars Tryd.prog (Rows.linesSplitRow.laid.filter fun x => x.2.handleName?.isNone)
theorem splitW_met (os : Os) (args : Array Value) : laidMetH Tryd.prog Rows.linesSplitRow.laid ((splitW os).forCall (fun _ _ => 0) ⟨#[], args, []⟩).memory :=
  laidMetH_of_parts (laidMet_lay (w0 := splitW0 os) (by simp [splitW, World.memory, World.forCall, Input.heap]) (by kernel_rfl) (by kernel_rfl)) (by kernel_rfl)
theorem linesSplit_lifted (os : Os) (started : os.Started) (H : Type) (enc : TypeId × Value → H) :
    ReturnsInHanded {} Tryd.checked os 8 .any (fun w args => (Rows.linesSplitSpec.pre enc Tryd.prog Tryd.f8 Rows.linesSplitRow.domain false w args ∧ laidMetH Tryd.prog Rows.linesSplitRow.laid w) ∧ sizedMet enc Tryd.prog Tryd.f8 (OpenSpec.ofChange Rows.linesSplitSpec) false w args)
      (Rows.linesSplitSpec.post enc Tryd.prog Tryd.f8 false true false false) := by
  refine lifted_of (C := Tryd.checked) own started (by kernel_rfl) Tryd.func8 laidOut
    (fun t ht => by
      have hall : ([9].all fun u => Tryd.prog.readableRec u && decide (u < Tryd.prog.types.size)) = true := by kernel_rfl
      have h := List.all_eq_true.1 hall t ht
      rw [Bool.and_eq_true, decide_eq_true_eq] at h
      exact h) (tb := 4) rfl Tryd.underlying4 rfl
    (fun ds h => by
      match ds, h with
      | [a], _ => rfl)
    (ChangeSpec.witness_shaped (enc := enc) (C := Tryd.checked) (os := os) (X := fun w _ => laidMetH Tryd.prog Rows.linesSplitRow.laid w) false (splitW os) #[.string ⟨#[]⟩] 8 (World.layVars_os _ _ _)
      (World.shaped_of_ZipB (by kernel_rfl) (by kernel_rfl)) (by kernel_rfl) (by kernel_rfl) (by kernel_rfl)
      (splitW_met os _)) ?_
  intro W base args ds p hval hA hL hsh
  rw [Tryd.params8] at hA hval
  obtain ⟨v0, d0, rfl, rfl, h0⟩ := trodAll_one hA
  obtain ⟨a, rfl, _, _, _⟩ := open_string Tryd.underlying9 (hval 0 9 v0 rfl rfl) h0
  obtain ⟨m, p, o, hS, _, hG⟩ := er_of_laid hsh hL (sent_mem 0 rfl) (by simp [Rows.linesSplitRow, Rows.laid_errors_errorType])
  have hp : Pure Tryd.prog (mkCtx tab (erGlob m p o none)) 8 (fun | [.s a] => some [.v (.bool true)] | _ => none) := by
    refine pure_of (T_ok _) (E11_ok (m := m) hS rfl rfl) Tryd.func8 (by kernel_rfl) (kp := kp8) (fr := fr8) (by kernel_rfl) fun ds rs hF => ?_
    split at hF
    · cases hF
      exact ⟨_, ev8 hS _⟩
    · simp at hF
  refine run_of_pure hp (ds := [.s a.data.toList]) rfl (hG none fun cs h => by cases h) ?_
  simp only [RdL]
  exact ⟨_, _, rfl, rd_string a, rfl⟩

theorem linesSplit_holds : Rows.LinesSplitSaid :=
  OpenClaim.holds_of_wide 8 Tryd.f8 rfl rfl rfl rfl rfl rfl rfl ⟨rfl, rfl, rfl, rfl, rfl⟩ rfl rfl rfl rfl rfl (by kernel_rfl) Tryd.func8 (by kernel_rfl)
    (of_decide_eq_true (by kernel_rfl)) (by unfold Func.isWrapper; first | (rw [if_pos (by decide +kernel)]; kernel_rfl) | (rw [if_neg (by decide +kernel)]; exact ⟨rfl, rfl⟩))
    (fun os started H enc _ => linesSplit_lifted os started H enc)
theorem linesSplit_card : Rows.LinesSplitCardSaid :=
  Claim7.holds_tied_plain_at .later [] [.data, .handle, .sentinel, .sentinel, .sentinel, .sentinel, .sentinel, .sentinel, .sentinel, .sentinel, .sentinel, .sentinel, .sentinel, .sentinel, .sentinel, .sentinel, .sentinel, .sentinel, .sentinel, .sentinel, .pinned] true (true, "95b1e0ac3f4a5e96c11f43ebed4fbaccf9109462b3bf646be5b0c9d59810bfee") true
    linesSplit_holds (fun _ h => by cases h) (by kernel_rfl) (fun _ h => by cases h) linesSplit_row_tie rfl ⟨rfl, rfl⟩ (by kernel_rfl) rfl
    (fun f fn hf hfn => by
      obtain rfl : f = 8 := Option.some.inj ((show Tryd.prog.funcNamed "millwright/millwrightlaw12.LinesSplit" = some 8 by kernel_rfl).symm.trans hf) |>.symm
      obtain rfl : fn = Tryd.f8 := (Option.some.inj (Tryd.func8.symm.trans hfn)).symm
      exact ⟨by kernel_rfl, fun j t ht => by
        rw [Tryd.params8] at ht
        have hm : t ∈ [9] := by simpa using Array.mem_of_getElem? ht
        have hall : ([9].all fun u => !Tryd.prog.wantsStandIn u) = true := by kernel_rfl
        exact (show Tryd.prog.wantsStandIn t = false by simpa using List.all_eq_true.1 hall t hm)⟩)
    (by kernel_rfl)
#print axioms linesSplit_card
end Go.Proofs.YticphlljahcmkaaDoor
