/- One text of a proof that a law of this seat says true for every input: statements. It holds of the given program under the conditions that the row prints. -/
import Derived.Test.YtaiklcijiajkaaaGreatDoorLx25
import Derived.Test.YtaiklcijiajkaaaGreatDoorAbSh
import Derived.Test.YtaiklcijiajkaaaGreatDoorStTexts
import Derived.Lay
import Derived.SevenTiedAt
import Derived.Test.YtaiklcijiajkaaaGreatDoorRows
import Derived.Test.YtaiklcijiajkaaaGreatDoorTie
import Derived.Test.YtaiklcijiajkaaaGreatDoorCards
set_option linter.unusedVariables false
set_option linter.unusedSimpArgs false
set_option maxRecDepth 100000
namespace Go.Proofs.YtaiklcijiajkaaaGreatDoor
open Go.ChangeShapes Go.WideShapes Go.ChangeAt Go.RowKit Go.Ab
open Go.ChangeMaps (open_string)

/-- The shape of a line. -/
def shL : Sh := .st (.cons .str (.cons (.int .i64) (.cons .bool .nil)))
def toLi (x : shL.Val) : Li := ⟨x.1, x.2.1, x.2.2.1⟩
theorem li_enc (a : (Sh.sl shL).Val) : (Sh.sl shL).enc a = .sl 3 ((a.map toLi).map encLi) := by
  show D.sl 3 (a.map fun x => shL.wrap (shL.cells x)) = _
  rw [List.map_map]
  rfl
theorem stmtL_met (os : Os) (args : Array Value) : laidMetH Tryz.prog Rows.stmtLinesRow.laid ((stmtW os).forCall (fun _ _ => 0) ⟨#[], args, []⟩).memory := stmtW_met os args
theorem stmtLines_lifted (os : Os) (started : os.Started) (H : Type) (enc : TypeId × Value → H) :
    ReturnsInHanded {} Tryz.checked os 4 .any (fun w args => (Rows.stmtLinesSpec.pre enc Tryz.prog Tryz.f4 Rows.stmtLinesRow.domain false w args ∧ laidMetH Tryz.prog Rows.stmtLinesRow.laid w) ∧ sizedMet enc Tryz.prog Tryz.f4 (OpenSpec.ofChange Rows.stmtLinesSpec) false w args)
      (Rows.stmtLinesSpec.post enc Tryz.prog Tryz.f4 false true false false) := by
  refine lifted_of (C := Tryz.checked) own started (by kernel_rfl) Tryz.func4 laidOut
    (fun t ht => by
      have hall : ([33, 3].all fun u => Tryz.prog.readableRec u && decide (u < Tryz.prog.types.size)) = true := by kernel_rfl
      have h := List.all_eq_true.1 hall t ht
      rw [Bool.and_eq_true, decide_eq_true_eq] at h
      exact h) (tb := 4) rfl Tryz.underlying4 rfl
    (fun ds h => by
      match ds, h with
      | [a, b], _ => rfl)
    (ChangeSpec.witness_shaped (enc := enc) (C := Tryz.checked) (os := os) (X := fun w _ => laidMetH Tryz.prog Rows.stmtLinesRow.laid w) false (stmtW os) #[.slice none 0 0, .int .i64 0] 8 (World.layVars_os _ _ _)
      (World.shaped_of_ZipB (by kernel_rfl) (by kernel_rfl)) (by kernel_rfl) (by kernel_rfl) (by kernel_rfl)
      (stmtL_met os _)) ?_
  intro W base args ds p hval hA hL hsh
  rw [Tryz.params4] at hA hval
  obtain ⟨v0, v1, d0, d1, p0, p1, rfl, rfl, rfl, h0, h1⟩ := trodAll_two hA
  obtain ⟨a, ha, hga⟩ := open_arg (.sl shL) (t := 33) (by kernel_rfl) (.inr rfl) (hval 0 33 v0 rfl rfl) h0
  rw [li_enc] at ha
  generalize a.map toLi = ls at ha
  obtain ⟨b, rfl, _, _, hb⟩ := open_int Tryz.underlying3 (hval 1 3 v1 rfl rfl) h1
  obtain ⟨m, p, o, hS, hG⟩ := er_of_laid hsh hL (sent_mem 2 rfl) (by simp [Rows.stmtLinesRow, Rows.laid_errors_errorType])
  have hp : Pure Tryz.prog (mkCtx tab (erGlob m p o)) 4 (liftG (fun _ : List Li × Int => True) (fun x => [.sl 3 (x.1.map encLi), .v (.int .i64 x.2)]) fun _ => some [.v (.bool true)]) := by
    refine pure_of (T_ok _) (ELn_ok (m := m) hS rfl rfl) Tryz.func4 (by kernel_rfl) (kp := kp4) (fr := fr4) (by kernel_rfl) fun ds rs hF => ?_
    obtain ⟨x, _, rfl, h⟩ := liftG_some hF
    cases h
    exact ⟨_, evLines x.1 x.2⟩
  have hF := liftG_enc (good := fun _ : List Li × Int => True) (enc := fun x => [.sl 3 (x.1.map encLi), .v (.int .i64 x.2)]) (f := fun _ => some [D.v (.bool true)]) (fun _ _ _ _ _ => rfl) (ls, b) trivial
  refine run_of_pure hp (ds := [.sl 3 (ls.map encLi), .v (.int .i64 b)]) hF hG ?_
  simp only [RdL, Rd]
  simp only [Rd] at ha
  exact ⟨_, _, rfl, ha, _, _, rfl, rfl, rfl⟩

theorem stmtLines_holds : Rows.StmtLinesSaid :=
  OpenClaim.holds_of_wide 4 Tryz.f4 rfl rfl rfl rfl rfl rfl rfl ⟨rfl, rfl, rfl, rfl, rfl⟩ rfl rfl rfl rfl rfl (by kernel_rfl) Tryz.func4 (by kernel_rfl)
    (of_decide_eq_true (by kernel_rfl)) (by unfold Func.isWrapper; first | (rw [if_pos (by decide +kernel)]; kernel_rfl) | (rw [if_neg (by decide +kernel)]; exact ⟨rfl, rfl⟩))
    (fun os started H enc _ => stmtLines_lifted os started H enc)
theorem stmtLines_card : Rows.StmtLinesCardSaid :=
  Claim7.holds_tied_plain_at .later [] [.data, .handle, .sentinel, .sentinel, .sentinel, .sentinel, .sentinel, .sentinel, .sentinel, .sentinel, .sentinel, .sentinel, .sentinel, .sentinel, .sentinel, .sentinel, .sentinel, .sentinel, .sentinel, .sentinel, .pinned] true (true, "e62fa124af10d46579833ec7856ab45fa6445fcd756cf03227258783d3a037ff") true
    stmtLines_holds (fun _ h => by cases h) (by kernel_rfl) (fun _ h => by cases h) stmtLines_row_tie rfl ⟨rfl, rfl⟩ (by kernel_rfl) rfl
    (fun f fn hf hfn => by
      obtain rfl : f = 4 := Option.some.inj ((show Tryz.prog.funcNamed "millwright/millwrightlaw19.StmtLines" = some 4 by kernel_rfl).symm.trans hf) |>.symm
      obtain rfl : fn = Tryz.f4 := (Option.some.inj (Tryz.func4.symm.trans hfn)).symm
      exact ⟨by kernel_rfl, fun j t ht => by
        rw [Tryz.params4] at ht
        have hm : t ∈ [33, 3] := by simpa using Array.mem_of_getElem? ht
        have hall : ([33, 3].all fun u => !Tryz.prog.wantsStandIn u) = true := by kernel_rfl
        exact (show Tryz.prog.wantsStandIn t = false by simpa using List.all_eq_true.1 hall t hm)⟩)
    (by kernel_rfl)
#print axioms stmtLines_card
end Go.Proofs.YtaiklcijiajkaaaGreatDoor
