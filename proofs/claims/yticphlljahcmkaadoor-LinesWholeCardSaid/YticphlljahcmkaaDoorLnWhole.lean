/- One text of a proof that a law of this seat says true for every input: the lines of a text. It holds of the given program under the conditions that the row prints. -/
import Derived.Test.YticphlljahcmkaaDoorLn12
import Derived.Test.YticphlljahcmkaaDoorLnJoin
set_option linter.unusedVariables false
set_option linter.unusedSimpArgs false
set_option maxRecDepth 100000
namespace Go.Proofs.YticphlljahcmkaaDoor
open Go.ChangeShapes Go.WideShapes Go.ChangeAt Go.RowKit Go.Ab
open Go.ChangeMaps (open_string)

theorem linesWhole_lifted (os : Os) (started : os.Started) (H : Type) (enc : TypeId × Value → H) :
    ReturnsInHanded {} Tryd.checked os 7 .any (fun w args => (Rows.linesWholeSpec.pre enc Tryd.prog Tryd.f7 Rows.linesWholeRow.domain false w args ∧ laidMetH Tryd.prog Rows.linesWholeRow.laid w) ∧ sizedMet enc Tryd.prog Tryd.f7 (OpenSpec.ofChange Rows.linesWholeSpec) false w args)
      (Rows.linesWholeSpec.post enc Tryd.prog Tryd.f7 false true false false) := by
  refine lifted_of (C := Tryd.checked) own started (by kernel_rfl) Tryd.func7 laidOut
    (fun t ht => by
      have hall : ([9].all fun u => Tryd.prog.readableRec u && decide (u < Tryd.prog.types.size)) = true := by kernel_rfl
      have h := List.all_eq_true.1 hall t ht
      rw [Bool.and_eq_true, decide_eq_true_eq] at h
      exact h) (tb := 4) rfl Tryd.underlying4 rfl
    (fun ds h => by
      match ds, h with
      | [a], _ => rfl)
    (ChangeSpec.witness_shaped (enc := enc) (C := Tryd.checked) (os := os) (X := fun w _ => laidMetH Tryd.prog Rows.linesWholeRow.laid w) false (World.laidAll Tryd.prog os Rows.linesWholeRow.laid) #[.string ⟨#[]⟩] 8 (World.laidAll_os _ _ _)
      (World.shaped_of_ZipB (by kernel_rfl) (by kernel_rfl)) (by kernel_rfl) (by kernel_rfl) (by kernel_rfl)
      (by rw [MakeChecks.laidMetH_plain _ _ _ (by kernel_rfl)]; exact laidMet_laidAll _ (by kernel_rfl) (by kernel_rfl))) ?_
  intro W base args ds p hval hA hL hsh
  rw [MakeChecks.laidMetH_plain _ _ _ (by kernel_rfl)] at hL
  rw [Tryd.params7] at hA hval
  obtain ⟨v0, d0, rfl, rfl, h0⟩ := trodAll_one hA
  obtain ⟨a, rfl, _, _, _⟩ := open_string Tryd.underlying9 (hval 0 9 v0 rfl rfl) h0
  obtain ⟨m, t6, t2, x6, x2, hG⟩ := lnGlob_ok hsh hL (by simp [Rows.linesWholeRow]) (by simp [Rows.linesWholeRow])
  have hp : Pure Tryd.prog (mkCtx tab (lnGlob m t6 t2 x6 x2)) 7 (fun | [.s a] => some [.v (.bool true)] | _ => none) := by
    refine pure_of (T_ok _) (E8_ok (m := m) (t6 := t6) (t2 := t2) (x6 := x6) (x2 := x2) rfl rfl rfl) Tryd.func7 (by kernel_rfl) (kp := kp7) (fr := fr7) (by kernel_rfl) fun ds rs hF => ?_
    split at hF
    · cases hF
      exact ⟨_, ev7 _ _ _⟩
    · simp at hF
  refine run_of_pure hp (ds := [.s a.data.toList]) rfl hG ?_
  simp only [RdL]
  exact ⟨_, _, rfl, rd_string a, rfl⟩

theorem linesWhole_holds : Rows.LinesWholeSaid :=
  OpenClaim.holds_of_wide 7 Tryd.f7 rfl rfl rfl rfl rfl rfl rfl ⟨rfl, rfl, rfl, rfl, rfl⟩ rfl rfl rfl rfl rfl (by kernel_rfl) Tryd.func7 (by kernel_rfl)
    (of_decide_eq_true (by kernel_rfl)) (by unfold Func.isWrapper; first | (rw [if_pos (by decide +kernel)]; kernel_rfl) | (rw [if_neg (by decide +kernel)]; exact ⟨rfl, rfl⟩))
    (fun os started H enc _ => linesWhole_lifted os started H enc)
theorem linesWhole_card : Rows.LinesWholeCardSaid :=
  Claim7.holds_tied_plain_at .later [] [.data, .sentinel, .sentinel, .pinned] true (true, "95b1e0ac3f4a5e96c11f43ebed4fbaccf9109462b3bf646be5b0c9d59810bfee") true
    linesWhole_holds (fun _ h => by cases h) (by kernel_rfl) (fun _ h => by cases h) linesWhole_row_tie rfl ⟨rfl, rfl⟩ (by kernel_rfl) rfl
    (fun f fn hf hfn => by
      obtain rfl : f = 7 := Option.some.inj ((show Tryd.prog.funcNamed "millwright/millwrightlaw12.LinesWhole" = some 7 by kernel_rfl).symm.trans hf) |>.symm
      obtain rfl : fn = Tryd.f7 := (Option.some.inj (Tryd.func7.symm.trans hfn)).symm
      exact ⟨by kernel_rfl, fun j t ht => by
        rw [Tryd.params7] at ht
        have hm : t ∈ [9] := by simpa using Array.mem_of_getElem? ht
        have hall : ([9].all fun u => !Tryd.prog.wantsStandIn u) = true := by kernel_rfl
        exact (show Tryd.prog.wantsStandIn t = false by simpa using List.all_eq_true.1 hall t hm)⟩)
    (by kernel_rfl)
#print axioms linesWhole_card
end Go.Proofs.YticphlljahcmkaaDoor
