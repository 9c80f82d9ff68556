/- One text of a proof that a law of this seat says true for every input: printed rules. It holds of the given program under the conditions that the row prints. -/
import Derived.Test.YticphlljahcmkaaDoorPr16
import Derived.Test.YticphlljahcmkaaDoorLnJoin
import Derived.Test.YticphlljahcmkaaDoorAbSh
import Derived.Test.YticphlljahcmkaaDoorAbD
set_option linter.unusedVariables false
set_option linter.unusedSimpArgs false
set_option maxRecDepth 100000
namespace Go.Proofs.YticphlljahcmkaaDoor
open Go.ChangeShapes Go.WideShapes Go.ChangeAt Go.RowKit Go.Ab

/-- The shape of a rule. -/
def shR : Sh := .st (.cons (.sl .str) (.cons (.sl .str) (.cons (.st (.cons (.int .i64) (.cons .str .nil))) (.cons .str (.cons .str (.cons (.int .i64) .nil))))))
def toRl (x : shR.Val) : Rl := ⟨x.1, x.2.1, x.2.2.1.1, x.2.2.1.2.1, x.2.2.2.1, x.2.2.2.2.1, x.2.2.2.2.2.1⟩
theorem rl_enc (a : (Sh.sl shR).Val) : (Sh.sl shR).enc a = .sl 7 ((a.map toRl).map Rl.enc) := by
  show D.sl 7 (a.map fun x => shR.wrap (shR.cells x)) = _
  rw [List.map_map]
  rfl
theorem rl_big (a : (Sh.sl shR).Val) (h : (Sh.sl shR).good a) : bigs (a.map toRl) := by
  have hm : maxLen = 9223372036854775807 := rfl
  obtain ⟨h1, h2⟩ := h
  refine ⟨fun r hr => ?_, by rw [List.length_map]; omega⟩
  obtain ⟨x, hx, rfl⟩ := List.mem_map.1 hr
  have h3 := h2 x hx
  have h4 : x.1.length ≤ maxLen := h3.1.1
  have h5 : x.2.1.length ≤ maxLen := h3.2.1.1
  exact ⟨by show x.1.length ≤ _; omega, by show x.2.1.length ≤ _; omega⟩
/-- The variables that the printed rules' functions read. -/
def prGlob (m : Int) (p : Nat → Addr) (o : Nat → Obj) (g : Nat) : Option (List D) :=
  if 1 ≤ g ∧ g ≤ 18 then some [.ifc 228 (.at (p g) (o g))] else if g = 20 then some [.v (.int .i64 m)] else none
theorem sentRow (u : TypeId) (hu : Tryd.prog.typeName? 3 u = some "*errors.errorString") : u = 228 :=
  typeName_ptr_named (nm := "errors.errorString") (by kernel_rfl) (by kernel_rfl) (by decide) u (by rw [hu]; rfl)
theorem sentMem {laid : List (String × DataW Unit)} (k : Nat) (h : [10, 2, 3, 1, 4, 5, 6, 7, 8, 9, 11, 12, 13, 14, 15, 16, 17, 18].map (fun i => laid[k + i]?) = sentL.map fun x => some (sentD0 x)) : ∀ x ∈ sentL, sentD0 x ∈ laid := by
  intro x hx
  have h1 : some (sentD0 x) ∈ sentL.map fun x => some (sentD0 x) := List.mem_map.2 ⟨x, hx, rfl⟩
  rw [← h] at h1
  obtain ⟨i, _, hi⟩ := List.mem_map.1 h1
  exact List.mem_of_getElem? hi
theorem pr_of_laid {W : World} (hsh : W.ShapedOpen Tryd.prog) {laid : List (String × DataW Unit)} (hL : laidMet Tryd.prog laid W) (hall : ∀ x ∈ sentL, sentD0 x ∈ laid) :
    ∃ (m : Int) (p : Nat → Addr) (o : Nat → Obj), Sents (prGlob m p o) p o ∧ GlobOk (mkCtx tab (prGlob m p o)) (fun _ _ => False) W := by
  obtain ⟨m, hm⟩ := Tryd.laysM144.s1_3 W hsh
  obtain ⟨p, o, hc, hi⟩ := sents_of_laid hL hall sentRow
  refine ⟨m, p, o, ⟨fun g a b => by unfold prGlob; rw [if_pos ⟨a, b⟩], fun g a b => (hc g a b).2.2, hi⟩, fun g cs hg => ?_⟩
  have hg' : prGlob m p o g = some cs := hg
  have add0 : ∀ g, (⟨g, 0, none⟩ : Addr).add 0 = ⟨g, 0, none⟩ := fun g => by simp [Addr.add]
  unfold prGlob at hg'
  split at hg'
  · rename_i h
    cases hg'
    obtain ⟨h1, h2, h3⟩ := hc g h.1 h.2
    simp only [RdC, Rd, add0, and_true, not_false_eq_true]
    exact ⟨rfl, _, h1, trivial, _, rfl, rfl, h2, fun _ => trivial⟩
  · split at hg'
    · rename_i e
      subst e
      cases hg'
      simp only [RdC, Rd, add0, and_true, not_false_eq_true]
      exact ⟨rfl, _, hm, trivial, rfl⟩
    · simp at hg'
theorem printTexts_lifted (os : Os) (started : os.Started) (H : Type) (enc : TypeId × Value → H) :
    ReturnsInHanded {} Tryd.checked os 5 .any (fun w args => (Rows.printTextsSpec.pre enc Tryd.prog Tryd.f5 Rows.printTextsRow.domain false w args ∧ laidMetH Tryd.prog Rows.printTextsRow.laid w) ∧ sizedMet enc Tryd.prog Tryd.f5 (OpenSpec.ofChange Rows.printTextsSpec) false w args)
      (Rows.printTextsSpec.post enc Tryd.prog Tryd.f5 false true false false) := by
  refine lifted_of (C := Tryd.checked) own started (by kernel_rfl) Tryd.func5 laidOut
    (fun t ht => by
      have hall : ([36].all fun u => Tryd.prog.readableRec u && decide (u < Tryd.prog.types.size)) = true := by kernel_rfl
      have h := List.all_eq_true.1 hall t ht
      rw [Bool.and_eq_true, decide_eq_true_eq] at h
      exact h) (tb := 4) rfl Tryd.underlying4 rfl
    (fun ds h => by
      match ds, h with
      | [a], _ => rfl)
    (ChangeSpec.witness_shaped (enc := enc) (C := Tryd.checked) (os := os) (X := fun w _ => laidMetH Tryd.prog Rows.printTextsRow.laid w) false (World.laidAll Tryd.prog os Rows.printTextsRow.laid) #[.slice none 0 0] 8 (World.laidAll_os _ _ _)
      (World.shaped_of_ZipB (by kernel_rfl) (by kernel_rfl)) (by kernel_rfl) (by kernel_rfl) (by kernel_rfl)
      (by rw [MakeChecks.laidMetH_plain _ _ _ (by kernel_rfl)]; exact laidMet_laidAll _ (by kernel_rfl) (by kernel_rfl))) ?_
  intro W base args ds p hval hA hL hsh
  rw [MakeChecks.laidMetH_plain _ _ _ (by kernel_rfl)] at hL
  rw [Tryd.params5] at hA hval
  obtain ⟨v0, d0, rfl, rfl, h0⟩ := trodAll_one hA
  obtain ⟨a, ha, hga⟩ := open_arg (.sl shR) (t := 36) (by kernel_rfl) (.inr rfl) (hval 0 36 v0 rfl rfl) h0
  rw [rl_enc] at ha
  have hbig := rl_big a hga
  generalize a.map toRl = rs at ha hbig
  obtain ⟨m, p, o, hS, hG⟩ := pr_of_laid hsh hL (sentMem 0 rfl)
  have hp : Pure Tryd.prog (mkCtx tab (prGlob m p o)) 5 (liftRs bigs fun _ => some [.v (.bool true)]) := by
    refine pure_of (T_ok _) (EZ_ok (m := m) hS rfl) Tryd.func5 (by kernel_rfl) (kp := kp5) (fr := fr5) (by kernel_rfl) fun ds rs hF => ?_
    obtain ⟨l, hl, rfl, h⟩ := liftRs_some hF
    cases h
    exact ⟨_, ev5 hS l hl⟩
  refine run_of_pure hp (ds := [.sl 7 (rs.map Rl.enc)]) (liftRs_enc rs hbig) hG ?_
  simp only [RdL]
  exact ⟨_, _, rfl, ha, rfl⟩

theorem printTexts_holds : Rows.PrintTextsSaid :=
  OpenClaim.holds_of_wide 5 Tryd.f5 rfl rfl rfl rfl rfl rfl rfl ⟨rfl, rfl, rfl, rfl, rfl⟩ rfl rfl rfl rfl rfl (by kernel_rfl) Tryd.func5 (by kernel_rfl)
    (of_decide_eq_true (by kernel_rfl)) (by unfold Func.isWrapper; first | (rw [if_pos (by decide +kernel)]; kernel_rfl) | (rw [if_neg (by decide +kernel)]; exact ⟨rfl, rfl⟩))
    (fun os started H enc _ => printTexts_lifted os started H enc)
theorem printTexts_card : Rows.PrintTextsCardSaid :=
  Claim7.holds_tied_plain_at .later [] [.data, .sentinel, .sentinel, .sentinel, .sentinel, .sentinel, .sentinel, .sentinel, .sentinel, .sentinel, .sentinel, .sentinel, .sentinel, .sentinel, .sentinel, .sentinel, .sentinel, .sentinel, .sentinel, .pinned] true (true, "95b1e0ac3f4a5e96c11f43ebed4fbaccf9109462b3bf646be5b0c9d59810bfee") true
    printTexts_holds (fun _ h => by cases h) (by kernel_rfl) (fun _ h => by cases h) printTexts_row_tie rfl ⟨rfl, rfl⟩ (by kernel_rfl) rfl
    (fun f fn hf hfn => by
      obtain rfl : f = 5 := Option.some.inj ((show Tryd.prog.funcNamed "millwright/millwrightlaw40.PrintTexts" = some 5 by kernel_rfl).symm.trans hf) |>.symm
      obtain rfl : fn = Tryd.f5 := (Option.some.inj (Tryd.func5.symm.trans hfn)).symm
      exact ⟨by kernel_rfl, fun j t ht => by
        rw [Tryd.params5] at ht
        have hm : t ∈ [36] := by simpa using Array.mem_of_getElem? ht
        have hall : ([36].all fun u => !Tryd.prog.wantsStandIn u) = true := by kernel_rfl
        exact (show Tryd.prog.wantsStandIn t = false by simpa using List.all_eq_true.1 hall t hm)⟩)
    (by kernel_rfl)
#print axioms printTexts_card
end Go.Proofs.YticphlljahcmkaaDoor
