/- One text of a proof that a law of this seat says true for every input: an evaluator of code over data, and that it tells the truth. It holds of the given program under the conditions that the row prints. -/
import Derived.Test.YtgflhnkakmdalaaGreatDoorAbPow
set_option linter.unusedSimpArgs false
set_option linter.unusedVariables false
set_option linter.unusedSectionVars false
set_option maxRecDepth 100000
namespace Go.Ab
open Go.Proofs
/-- The variables that errors and figures need. -/
def erGlobP (m : Int) (p : Nat → Addr) (o : Nat → Obj) (pw : Obj) (g : Nat) : Option (List D) := if g = 19 then some [.wh (.int .u64 1) 19 pw] else erGlob m p o g
theorem gE_pow : ∀ g, g < 19 → gE g ≠ 19 := by decide
/-- What a row with all errors and strconv's table lays. -/
theorem erP_of_laid {W : World} (hsh : W.ShapedOpen Tryz.prog) {laid : List (String × DataW Unit)} (hL : laidMetH Tryz.prog laid W) (hall : ∀ x ∈ sentL, gE x.1 < 9000 → sentD0 x ∈ laid)
    (hh : ("errors.errorType", (.iface "internal/reflectlite.rtype" (.agg [.ptr (.lit (.string [101, 114, 114, 111, 114]))]) : DataW Unit)) ∈ laid) (hm : ("internal/strconv.uint64pow10", (.agg (Lib.pow10Tab.map fun z => .lit (.int .u64 z)) : DataW Unit)) ∈ laid) :
    ∃ (m : Int) (p : Nat → Addr) (o : Nat → Obj) (t : TypeId) (fz : Nat × Nat), Sents (erGlobP m p o (powObj t fz)) p o ∧ GlobOk (mkCtx tab (erGlobP m p o (powObj t fz))) (fun _ _ => False) W := by
  obtain ⟨m, p, o, hS, hG⟩ := er_of_laid hsh hL hall hh
  obtain ⟨t, fz, hpw⟩ := pow_of_laid hL hm
  refine ⟨m, p, o, t, fz, ⟨fun g a b c => ?_, hS.plain, hS.inj⟩, fun g cs hg => ?_⟩
  · unfold erGlobP
    rw [if_neg (gE_pow g (by omega))]
    exact hS.glob g a b c
  · have hg' : erGlobP m p o (powObj t fz) g = some cs := hg
    unfold erGlobP at hg'
    split at hg'
    · rename_i e
      subst e
      cases hg'
      exact hpw
    · exact hG g cs hg'
end Go.Ab
