/- One text of a proof that a law of this seat says true for every input: statements. It holds of the given program under the conditions that the row prints. -/
import Derived.Test.YtmnidmkahpfaaaaGreatDoorAu6
import Derived.Test.YtmnidmkahpfaaaaGreatDoorAbSize
import Derived.Test.YtmnidmkahpfaaaaGreatDoorAbSh
import Derived.Lay
import Derived.SevenTiedAt
import Derived.Test.YtmnidmkahpfaaaaGreatDoorRows
import Derived.Test.YtmnidmkahpfaaaaGreatDoorTie
import Derived.Test.YtmnidmkahpfaaaaGreatDoorCards
set_option linter.unusedSimpArgs false
set_option linter.unusedVariables false
set_option linter.unusedSectionVars false
set_option maxRecDepth 100000
namespace Go.Proofs.YtmnidmkahpfaaaaGreatDoor
open Go.ChangeShapes Go.WideShapes Go.ChangeAt Go.RowKit Go.Ab
open Go.ChangeMaps (open_string)

abbrev sh31 : Sh := .st (.cons .bool (.cons .bool (.cons .bool (.cons .bool (.cons .bool (.cons .bool (.cons (.sl .str) (.cons (.sl .str) (.cons .str (.cons (.int .i64) (.cons (.sl (.st (.cons .str (.cons (.sl .str) (.cons (.int .i64) (.cons .bool .nil)))))) .nil)))))))))))
def toVa (b : List UInt8 × List (List UInt8) × Int × Bool × Unit) : Va := (b.1, b.2.1, b.2.2.1, b.2.2.2.1)
def to31 (b : sh31.Val) : Op31 := ⟨b.1, b.2.1, b.2.2.1, b.2.2.2.1, b.2.2.2.2.1, b.2.2.2.2.2.1, b.2.2.2.2.2.2.1, b.2.2.2.2.2.2.2.1, b.2.2.2.2.2.2.2.2.1, b.2.2.2.2.2.2.2.2.2.1, b.2.2.2.2.2.2.2.2.2.2.1.map toVa⟩
theorem to31_enc (b : sh31.Val) : sh31.enc b = enc31 (to31 b) := by
  simp [Sh.enc, Sh.wrap, Sh.cells, Sh.agg, Sh.size, enc31, to31, toVa, encV, Function.comp_def]
theorem to31_good (b : sh31.Val) (h : sh31.good b) (hv : (to31 b).vars.length ≤ 2600000000000) : good31 (to31 b) := by
  simp only [Sh.good] at h
  have hm : maxLen = 9223372036854775807 := rfl
  refine ⟨by have := h.2.2.2.2.2.2.1.1; simp only [to31]; omega, by have := h.2.2.2.2.2.2.2.1.1; simp only [to31]; omega, hv, fun v hv => ?_⟩
  obtain ⟨x, hx, rfl⟩ := List.mem_map.1 hv
  have := (h.2.2.2.2.2.2.2.2.2.2.1.2 x hx).2.1.1
  simp only [goodV, toVa]
  omega
theorem own_auditSet : ownKnob Tryz.prog.godebug = none := by kernel_rfl
theorem laidOut_auditSet : laidOutB Tryz.prog = true := by kernel_rfl
noncomputable def W0auditSet (os : Os) : World :=
  World.holding Tryz.prog os ⟨#[], #[], []⟩
noncomputable def WauditSet (os : Os) : World := (W0auditSet os).layVars Tryz.prog (Rows.auditSetRow.laid.filter fun x => x.2.handleName?.isNone)
theorem WauditSet_met (os : Os) (args : Array Value) : laidMetH Tryz.prog Rows.auditSetRow.laid ((WauditSet os).forCall (fun _ _ => 0) ⟨#[], args, []⟩).memory :=
  laidMetH_of_parts (laidMet_lay (w0 := W0auditSet os) (by simp [WauditSet, World.memory, World.forCall, Input.heap]) (by kernel_rfl) (by kernel_rfl)) (by kernel_rfl)
theorem auditSet_lifted (os : Os) (started : os.Started) (H : Type) (enc : TypeId × Value → H) :
    ReturnsInHanded {} Tryz.checked os 3 .any (fun w args => (Rows.auditSetSpec.pre enc Tryz.prog Tryz.f3 Rows.auditSetRow.domain false w args ∧ laidMetH Tryz.prog Rows.auditSetRow.laid w) ∧ sizedMet enc Tryz.prog Tryz.f3 (OpenSpec.ofChange Rows.auditSetSpec) false w args)
      (Rows.auditSetSpec.post enc Tryz.prog Tryz.f3 false true false false) := by
  refine lifted_sized (C := Tryz.checked) own_auditSet started (by kernel_rfl) Tryz.func3 laidOut_auditSet
    (fun t ht => by
      have hall : ([25].all fun u => Tryz.prog.readableRec u && decide (u < Tryz.prog.types.size)) = true := by kernel_rfl
      have h := List.all_eq_true.1 hall t ht
      rw [Bool.and_eq_true, decide_eq_true_eq] at h
      exact h) (tb := 4) rfl Tryz.underlying4 rfl
    (fun ds h => by
      match ds, h with
      | [z0], _ => rfl)
    (ChangeSpec.witness_shaped (enc := enc) (C := Tryz.checked) (os := os) (X := fun w _ => laidMetH Tryz.prog Rows.auditSetRow.laid w) false (WauditSet os) #[.agg #[.bool false, .bool false, .bool false, .bool false, .bool false, .bool false, .slice none 0 0, .slice none 0 0, .string ⟨#[]⟩, .int .i64 0, .slice none 0 0]] 8 (World.layVars_os _ _ _)
      (World.shaped_of_ZipB (by kernel_rfl) (by kernel_rfl)) (by kernel_rfl) (by kernel_rfl) (by kernel_rfl)
      (WauditSet_met os _)) ?_
  intro W base args ds p hval hA hL hsh hwt
  rw [Tryz.params3] at hA hval
  obtain ⟨v0, d0, rfl, rfl, h0⟩ := trodAll_one hA
  obtain ⟨b0, hr0, hga0⟩ := open_arg sh31 (t := 25) (by kernel_rfl) (.inl rfl) (hval 0 25 v0 rfl rfl) h0
  rw [to31_enc] at hr0
  have hg31 : good31 (to31 b0) := by
    refine to31_good b0 hga0 ?_
    have hr1 := hr0
    simp only [enc31, Rd, RdL] at hr1
    obtain ⟨us, hus, u0, t0, rfl, _, u1, t1, rfl, _, u2, t2, rfl, _, u3, t3, rfl, _, u4, t4, rfl, _, u5, t5, rfl, _, u6, t6, rfl, _, u7, t7, rfl, _, u8, t8, rfl, _, u9, t9, rfl, _, u10, t10, rfl, hs, rfl⟩ := hr1
    obtain ⟨a, len, cap, rfl, hl, _⟩ := hs
    have hw0 := weights_get _ _ 0 25 d0 rfl rfl hwt
    have := field_len (i := 10) (e := 60) Tryz.underlying25 rfl Tryz.underlying23 (by kernel_rfl) h0 hw0 (a := a) (len := len) (cap := cap) (by rw [hus]; rfl)
    rw [show Tryz.prog.bytesOf 60 = 56 by kernel_rfl] at this
    unfold reachBytes at this
    simp only [List.length_map] at hl
    omega
  generalize (to31) b0 = a0 at hr0 hg31
  obtain ⟨m, p, o, hS, hG⟩ := er0_of_laid hsh hL (sent_mem [0, 1, 2, 3, 4, 5, 6, 7, 8] rfl)
  have hp : Pure Tryz.prog (mkCtx tab (erGlob0 m p o)) 3 (liftG good31 (fun x => [enc31 x]) fun _ => some [.v (.bool true)]) := by
    refine pure_of (T_ok _) (EAu_ok m p o) Tryz.func3 (by kernel_rfl) (kp := kp3) (fr := fr3) (by kernel_rfl) fun ds rs hF => ?_
    obtain ⟨x, hgx, rfl, h⟩ := liftG_some hF
    cases h
    exact ⟨_, evAudit x hgx⟩
  have hF := liftG_enc (good := good31) (enc := fun x => [enc31 x]) (f := fun _ => some [D.v (.bool true)]) (fun _ _ _ _ _ => rfl) a0 hg31
  refine run_of_pure hp (ds := [enc31 a0]) hF hG ?_
  simp only [RdL]
  exact ⟨_, _, rfl, hr0, rfl⟩
theorem auditSet_holds : Rows.AuditSetSaid :=
  OpenClaim.holds_of_wide 3 Tryz.f3 rfl rfl rfl rfl rfl rfl rfl ⟨rfl, rfl, rfl, rfl, rfl⟩ rfl rfl rfl rfl rfl (by kernel_rfl) Tryz.func3 (by kernel_rfl)
    (of_decide_eq_true (by kernel_rfl)) (by unfold Func.isWrapper; first | (rw [if_pos (by decide +kernel)]; kernel_rfl) | (rw [if_neg (by decide +kernel)]; exact ⟨rfl, rfl⟩))
    (fun os started H enc _ => auditSet_lifted os started H enc)
theorem auditSet_card : Rows.AuditSetCardSaid :=
  Claim7.holds_tied_plain_at .later [] [.sentinel, .sentinel, .sentinel, .sentinel, .sentinel, .sentinel, .sentinel, .sentinel, .sentinel] true (true, "36eae5eba2fa5e493e1330aa73538984b82c3b33171356e54c6a04913563ec9d") false
    auditSet_holds (fun _ h => by cases h) (by kernel_rfl) (fun _ h => by cases h) auditSet_row_tie rfl ⟨rfl, rfl⟩ (by kernel_rfl) rfl
    (fun f fn hf hfn => by
      obtain rfl : f = 3 := Option.some.inj ((show Tryz.prog.funcNamed "millwright/millwrightlaw37.AuditSet" = some 3 by kernel_rfl).symm.trans hf) |>.symm
      obtain rfl : fn = Tryz.f3 := (Option.some.inj (Tryz.func3.symm.trans hfn)).symm
      exact ⟨by kernel_rfl, fun j t ht => by
        rw [Tryz.params3] at ht
        have hm : t ∈ [25] := by simpa using Array.mem_of_getElem? ht
        have hall : ([25].all fun u => !Tryz.prog.wantsStandIn u) = true := by kernel_rfl
        exact (show Tryz.prog.wantsStandIn t = false by simpa using List.all_eq_true.1 hall t hm)⟩)
    (by kernel_rfl)
#print axioms auditSet_card
end Go.Proofs.YtmnidmkahpfaaaaGreatDoor
