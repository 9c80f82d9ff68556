/- One text of a proof that a law of this seat says true for every input: the lines of a text. It holds of the given program under the conditions that the row prints. -/
import Derived.Test.YticphlljahcmkaaDoorLn10
import Derived.Test.YticphlljahcmkaaDoorAbRow
import Derived.Lay
import Derived.SevenTiedAt
import Derived.Test.YticphlljahcmkaaDoorRows
import Derived.Test.YticphlljahcmkaaDoorTie
import Derived.Test.YticphlljahcmkaaDoorCards
set_option linter.unusedVariables false
set_option maxRecDepth 100000
namespace Go.Proofs.YticphlljahcmkaaDoor
open Go.ChangeShapes Go.WideShapes Go.ChangeAt Go.RowKit Go.Ab
open Go.ChangeMaps (open_string)

/-- The variables that the lines' functions read. -/
def lnGlob (m : Int) (t6 t2 : TypeId) (x6 x2 : D) (g : Nat) : Option (List D) := if g = 20 then some [.v (.int .i64 m)] else if g = 6 then some [.ifc t6 x6] else if g = 2 then some [.ifc t2 x2] else none
theorem lnGlob_ok {W : World} (hsh : W.ShapedOpen Tryd.prog) {laid : List (String × DataW Unit)} (hL : laidMet Tryd.prog laid W) (h6 : ("millwright/api.ErrQuote", Rows.laid_millwright_api_ErrQuote) ∈ laid) (h2 : ("millwright/api.ErrLong", Rows.laid_millwright_api_ErrLong) ∈ laid) :
    ∃ m t6 t2 x6 x2, GlobOk (mkCtx tab (lnGlob m t6 t2 x6 x2)) (fun _ _ => False) W := by
  obtain ⟨m, hm⟩ := Tryd.laysM144.s1_3 W hsh
  obtain ⟨ps, hl, _⟩ := hL
  obtain ⟨t6, v6, c6⟩ := iface_of_laid (g := 6) (by kernel_rfl) hl h6
  obtain ⟨t2, v2, c2⟩ := iface_of_laid (g := 2) (by kernel_rfl) hl h2
  refine ⟨m, t6, t2, .v v6, .v v2, fun g cs hg => ?_⟩
  have hg' : lnGlob m t6 t2 (.v v6) (.v v2) g = some cs := hg
  unfold lnGlob at hg'
  have add0 : ∀ g, (⟨g, 0, none⟩ : Addr).add 0 = ⟨g, 0, none⟩ := fun g => by simp [Addr.add]
  split at hg'
  · rename_i e
    subst e
    cases hg'
    simp only [RdC, Rd, add0, and_true, not_false_eq_true]
    exact ⟨rfl, _, hm, trivial, rfl⟩
  · split at hg'
    · rename_i e
      subst e
      cases hg'
      simp only [RdC, Rd, add0, and_true, not_false_eq_true]
      exact ⟨rfl, _, c6, trivial, _, rfl, rfl⟩
    · split at hg'
      · rename_i e
        subst e
        cases hg'
        simp only [RdC, Rd, add0, and_true, not_false_eq_true]
        exact ⟨rfl, _, c2, trivial, _, rfl, rfl⟩
      · simp at hg'

theorem own : ownKnob Tryd.prog.godebug = none := by kernel_rfl
theorem laidOut : laidOutB Tryd.prog = true := by kernel_rfl
theorem linesJoin_lifted (os : Os) (started : os.Started) (H : Type) (enc : TypeId × Value → H) :
    ReturnsInHanded {} Tryd.checked os 6 .any (fun w args => (Rows.linesJoinSpec.pre enc Tryd.prog Tryd.f6 Rows.linesJoinRow.domain false w args ∧ laidMetH Tryd.prog Rows.linesJoinRow.laid w) ∧ sizedMet enc Tryd.prog Tryd.f6 (OpenSpec.ofChange Rows.linesJoinSpec) false w args)
      (Rows.linesJoinSpec.post enc Tryd.prog Tryd.f6 false true false false) := by
  refine lifted_of (C := Tryd.checked) own started (by kernel_rfl) Tryd.func6 laidOut
    (fun t ht => by
      have hall : ([9, 9].all fun u => Tryd.prog.readableRec u && decide (u < Tryd.prog.types.size)) = true := by kernel_rfl
      have h := List.all_eq_true.1 hall t ht
      rw [Bool.and_eq_true, decide_eq_true_eq] at h
      exact h) (tb := 4) rfl Tryd.underlying4 rfl
    (fun ds h => by
      match ds, h with
      | [a, b], _ => rfl)
    (ChangeSpec.witness_shaped (enc := enc) (C := Tryd.checked) (os := os) (X := fun w _ => laidMetH Tryd.prog Rows.linesJoinRow.laid w) false (World.laidAll Tryd.prog os Rows.linesJoinRow.laid) #[.string ⟨#[]⟩, .string ⟨#[]⟩] 8 (World.laidAll_os _ _ _)
      (World.shaped_of_ZipB (by kernel_rfl) (by kernel_rfl)) (by kernel_rfl) (by kernel_rfl) (by kernel_rfl)
      (by rw [MakeChecks.laidMetH_plain _ _ _ (by kernel_rfl)]; exact laidMet_laidAll _ (by kernel_rfl) (by kernel_rfl))) ?_
  intro W base args ds p hval hA hL hsh
  rw [MakeChecks.laidMetH_plain _ _ _ (by kernel_rfl)] at hL
  rw [Tryd.params6] at hA hval
  obtain ⟨v0, v1, d0, d1, p0, p1, rfl, rfl, rfl, h0, h1⟩ := trodAll_two hA
  obtain ⟨a, rfl, _, _, _⟩ := open_string Tryd.underlying9 (hval 0 9 v0 rfl rfl) h0
  obtain ⟨b, rfl, _, _, _⟩ := open_string Tryd.underlying9 (hval 1 9 v1 rfl rfl) h1
  obtain ⟨m, t6, t2, x6, x2, hG⟩ := lnGlob_ok hsh hL (by simp [Rows.linesJoinRow]) (by simp [Rows.linesJoinRow])
  have hp : Pure Tryd.prog (mkCtx tab (lnGlob m t6 t2 x6 x2)) 6 (fun | [.s a, .s b] => some [.v (.bool true)] | _ => none) := by
    refine pure_of (T_ok _) (E7_ok (m := m) (t6 := t6) (t2 := t2) (x6 := x6) (x2 := x2) rfl rfl rfl) Tryd.func6 (by kernel_rfl) (kp := kp6) (fr := fr6) (by kernel_rfl) fun ds rs hF => ?_
    split at hF
    · cases hF
      exact ⟨0, ev6 _ _ _ _⟩
    · simp at hF
  refine run_of_pure hp (ds := [.s a.data.toList, .s b.data.toList]) rfl hG ?_
  simp only [RdL]
  exact ⟨_, _, rfl, rd_string a, _, _, rfl, rd_string b, rfl⟩

theorem linesJoin_holds : Rows.LinesJoinSaid :=
  OpenClaim.holds_of_wide 6 Tryd.f6 rfl rfl rfl rfl rfl rfl rfl ⟨rfl, rfl, rfl, rfl, rfl⟩ rfl rfl rfl rfl rfl (by kernel_rfl) Tryd.func6 (by kernel_rfl)
    (of_decide_eq_true (by kernel_rfl)) (by unfold Func.isWrapper; first | (rw [if_pos (by decide +kernel)]; kernel_rfl) | (rw [if_neg (by decide +kernel)]; exact ⟨rfl, rfl⟩))
    (fun os started H enc _ => linesJoin_lifted os started H enc)
theorem linesJoin_card : Rows.LinesJoinCardSaid :=
  Claim7.holds_tied_plain_at .later [] [.data, .sentinel, .sentinel, .pinned] true (true, "95b1e0ac3f4a5e96c11f43ebed4fbaccf9109462b3bf646be5b0c9d59810bfee") true
    linesJoin_holds (fun _ h => by cases h) (by kernel_rfl) (fun _ h => by cases h) linesJoin_row_tie rfl ⟨rfl, rfl⟩ (by kernel_rfl) rfl
    (fun f fn hf hfn => by
      obtain rfl : f = 6 := Option.some.inj ((show Tryd.prog.funcNamed "millwright/millwrightlaw12.LinesJoin" = some 6 by kernel_rfl).symm.trans hf) |>.symm
      obtain rfl : fn = Tryd.f6 := (Option.some.inj (Tryd.func6.symm.trans hfn)).symm
      exact ⟨by kernel_rfl, fun j t ht => by
        rw [Tryd.params6] at ht
        have hm : t ∈ [9, 9] := by simpa using Array.mem_of_getElem? ht
        have hall : ([9, 9].all fun u => !Tryd.prog.wantsStandIn u) = true := by kernel_rfl
        exact (show Tryd.prog.wantsStandIn t = false by simpa using List.all_eq_true.1 hall t hm)⟩)
    (by kernel_rfl)
#print axioms linesJoin_card
end Go.Proofs.YticphlljahcmkaaDoor
