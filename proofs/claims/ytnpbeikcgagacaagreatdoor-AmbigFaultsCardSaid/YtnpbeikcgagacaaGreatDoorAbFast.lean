/- One text of a proof that a law of this seat says true for every input: an evaluator of code over data, and that it tells the truth. It holds of the given program under the conditions that the row prints. -/
import Derived.Test.YtnpbeikcgagacaaGreatDoorAbSimp
set_option linter.unusedSimpArgs false
set_option linter.unusedVariables false
set_option linter.unusedSectionVars false
namespace Go.Ab
section
variable {R : Type} {T : Ctx} {E : Abs}
/-- A call of a named function that only reads. -/
@[simp ↓ high] theorem opK_callF (dst : Option Tmp) (g : FuncId) (args : List Operand) (tys : List TypeId) (ty : TypeId) (pos : String) (after : Array Edge) (gd : Option (Nat × Bool)) (s : St) (κ : St → Option R) (hg : T.gf g = false) (hl : args.length = tys.length) :
    opK T E ⟨dst, .call { callee := .value (.func g), args := args.toArray, argTypes := tys.toArray }, ty, pos, after, gd⟩ s κ =
      match datas s.o ((args.zip tys).map fun p => nilfix T p.2 (s.get T p.1)) with
      | some ds => (match E g ds with | some rs => κ (s.put dst (packD rs)) | none => none)
      | none => none := by
  have e1 : ∀ s : St, gfOf T (s.get T (.func g)) = none := fun s => by simp only [St.get, gfOf, hg, Bool.false_eq_true, if_false]
  have e2 : (s.get T (.func g)).data s.o = some (.fn (.func g) [] []) := rfl
  simp only [opK]
  rw [e1, e2]
  cases h : datas s.o ((args.zip tys).map fun p => nilfix T p.2 (s.get T p.1)) with
  | none => rfl
  | some ds =>
    simp only [List.nil_append, List.append_nil]
    rw [if_pos (by simpa using hl)]
    cases E g ds <;> rfl
theorem ite_condK (c : Bool) (a : Option R) : (if c = true then a else none) = condK c (hold a .mk) (hold none .mk) := by cases c <;> rfl
@[simp ↓ high] theorem dopsK_cons2 (fr : List Nat) (ops : List Oper) (dst : Option Tmp) (op : Op) (ty : TypeId) (pos : String) (after : Array Edge) (g : Option (Nat × Bool)) (r : List Oper) (s : St) (κ : St → Option R) : dopsK T E fr ops (⟨dst, op, ty, pos, after, g⟩ :: r) s κ =
    (match op, dst with
    | .assign x, dst => opG T E ops ⟨dst, .move x, ty, pos, after, g⟩ s (hold (fun s' => condK (clear fr s' dst) (hold (dopsK T E fr ops r s' κ) .mk) (hold none .mk)) .mk)
    | .box t x, some d => opG T E ops ⟨some d, .box t x, if fr.contains d = true then iceMark else ty, pos, after, g⟩ s (hold (fun s' => condK (clear fr s' (some d)) (hold (dopsK T E fr ops r s' κ) .mk) (hold none .mk)) .mk)
    | .alloc t, some d => condK (preA fr d g s) (hold (opG T E ops ⟨some d, .alloc t, ty, pos, after, g⟩ s (hold (fun s' => condK (clear fr s' (some d)) (hold (dopsK T E fr ops r s' κ) .mk) (hold none .mk)) .mk)) .mk) (hold none .mk)
    | .buildSlice t n ps, dst => opG T E ops ⟨dst, .buildSlice t n ps, iceMark, pos, after, g⟩ s (hold (fun s' => condK (clear fr s' dst) (hold (dopsK T E fr ops r s' κ) .mk) (hold none .mk)) .mk)
    | .slice t x lo hi mx, dst => opG T E ops ⟨dst, .slice t x lo hi mx, iceMark, pos, after, g⟩ s (hold (fun s' => condK (clear fr s' dst) (hold (dopsK T E fr ops r s' κ) .mk) (hold none .mk)) .mk)
    | .call c, some d => condK (preC T fr d c g s) (hold (opG T E ops ⟨some d, .call c, ty, pos, after, g⟩ s (hold (fun s' => condK (clear fr s' (some d)) (hold (dopsK T E fr ops r s' κ) .mk) (hold none .mk)) .mk)) .mk) (hold none .mk)
    | op, dst => opG T E ops ⟨dst, op, ty, pos, after, g⟩ s (hold (fun s' => condK (clear fr s' dst) (hold (dopsK T E fr ops r s' κ) .mk) (hold none .mk)) .mk)) := by
  have e : ∀ s' d, condK (clear fr s' d) (dopsK T E fr ops r s' κ) none = if clear fr s' d = true then dopsK T E fr ops r s' κ else none := fun s' d => by cases clear fr s' d <;> rfl
  rw [dopsK_cons]
  have e2 : ∀ (c : Bool) (x : Option R), condK c x none = if c = true then x else none := fun c x => by cases c <;> rfl
  simp only [hold, e]
  cases op
  case alloc t =>
    cases dst with
    | none => rfl
    | some d => exact (e2 _ _).symm
  case call c =>
    cases dst with
    | none => rfl
    | some d => exact (e2 _ _).symm
  all_goals cases dst <;> rfl
end
end Go.Ab
