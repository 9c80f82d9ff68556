/- One text of a proof that a law of this seat says true for every input: an evaluator of code over data, and that it tells the truth. It holds of the given program under the conditions that the row prints. -/
import Derived.Test.YtnpbeikcgagacaaGreatDoorAbCa
import Derived.Test.YtnpbeikcgagacaaGreatDoorAbT
import Derived.Test.YtnpbeikcgagacaaGreatDoorAbShelf
import Derived.Shelf.Strings.SlTrimAscii
set_option linter.unusedSimpArgs false
set_option linter.unusedVariables false
set_option linter.unusedSectionVars false
namespace Go.Ab
open Go.Proofs

/-! # The library's functions as functions of data -/
section
variable {P : Program} {T : Ctx} {f : FuncId}

theorem Pure.mk' {fn : Func} (hf : P.funcs[f]? = some fn) (hname : (fn.name == "runtime.NumGoroutine") = false) (hb : fn.body.isNone = false) {F : List D → Option (List D)}
    (h : ∀ ds rs, F ds = some rs → ∀ (N : Mut) (w : World) (vs : List Value), (∀ b i, N b i → b < w.heap.size) → GlobOk T N w → RdL N w ds vs →
      Calls P f vs.toArray w fun e w' => ∃ us, RdL N w' rs us ∧ e = .returned (pack us) ∧ Chg (fun _ _ => False) w w') : Pure P T f F :=
  fun ds rs hF => ⟨⟨fn, hf, hname, hb⟩, h ds rs hF⟩

theorem rd1 {N : Mut} {w : World} {d : D} {vs : List Value} (h : RdL N w [d] vs) : ∃ u, vs = [u] ∧ Rd N w d u := by
  simp only [RdL] at h
  obtain ⟨u, us, rfl, h, rfl⟩ := h
  exact ⟨u, rfl, h⟩
theorem rd2 {N : Mut} {w : World} {d e : D} {vs : List Value} (h : RdL N w [d, e] vs) : ∃ u v, vs = [u, v] ∧ Rd N w d u ∧ Rd N w e v := by
  simp only [RdL] at h
  obtain ⟨u, us, rfl, h1, v, us', rfl, h2, rfl⟩ := h
  exact ⟨u, v, rfl, h1, h2⟩
theorem one_us {N : Mut} {w : World} {d : D} {u : Value} (h : Rd N w d u) : RdL N w [d] [u] := by
  simp only [RdL]
  exact ⟨u, [], rfl, h, rfl⟩
/-- A new block of strings reads as a list of texts. -/
theorem rd_strs {N : Mut} {w : World} (hN : ∀ b i, N b i → b < w.heap.size) (xs : List ByteArray) (t : TypeId) :
    Rd N (w.alloc (.cells (xs.map Value.string).toArray t)) (.sl 1 (xs.map fun x => .s x.data.toList)) (.slice (some ⟨w.heap.size, 0, none⟩) xs.length xs.length) := by
  simp only [Rd]
  refine ⟨_, _, _, rfl, by simp, Nat.le_refl _, by simp, fun p hp => ?_⟩
  cases hp
  have hnew := heap_alloc w (.cells (xs.map Value.string).toArray t)
  have key : ∀ (l : List ByteArray) (i : Nat), (∀ j x, l[j]? = some x → xs[i + j]? = some x) → RdE N (w.alloc (.cells (xs.map Value.string).toArray t)) 1 (l.map fun x => .s x.data.toList) ⟨w.heap.size, 0, none⟩ i := by
    intro l
    induction l with
    | nil => intro i _; simp [RdE]
    | cons x l ih =>
      intro i h
      rw [List.map_cons, RdE_cons]
      refine ⟨⟨rfl, ?_⟩, ih (i + 1) fun j y hj => by have := h (j + 1) y (by simpa using hj); rwa [Nat.add_assoc, Nat.add_comm 1 j]⟩
      simp only [D.cells, RdC, and_true]
      refine ⟨rfl, .string x, ?_, ?_, ?_⟩
      · rw [add_plain]
        simp only [World.cell?, hnew]
        have := h 0 x (by simp)
        simp at this
        simp [this]
      · rw [add_plain]
        intro hm
        exact absurd (hN _ _ hm) (by simp)
      · simp only [Rd]
  exact key xs 0 fun j x hj => by simpa using hj
end

variable {glob : Nat → Option (List D)}

/-- strings.IndexByte -/
def F93 : List D → Option (List D)
  | [.s l, .v (.int .u8 c)] => some [.v (.int .i64 (Lib.indexByte l c.toNat.toUInt8))]
  | _ => none
theorem F93_ok : Pure Tryz.prog (mkCtx tab glob) 105 F93 := by
  refine Pure.mk' Tryz.func105 (by kernel_rfl) (by kernel_rfl) fun ds rs hF N w vs hN hG hv => ?_
  unfold F93 at hF
  split at hF
  · rename_i l c
    simp only [Option.some.injEq] at hF
    subst hF
    obtain ⟨u, v, rfl, hu, hv2⟩ := rd2 hv
    simp only [Rd] at hu hv2
    subst hu hv2
    refine (Tryz.strings_IndexByte _ _ _).mono ?_
    rintro e w' ⟨rfl, rfl⟩
    exact ⟨[_], one_us (by simp only [Rd]), rfl, Chg.refl _ _⟩
  · simp at hF

/-- strings.TrimSuffix -/
def F86 : List D → Option (List D)
  | [.s l, .s p] => if l.length < 4294967281 then some [.s (Lib.trimSuffix l p)] else none
  | _ => none
/-- strings.Split -/
def F85 : List D → Option (List D)
  | [.s l, .s p] => if l.length < 4294967281 ∧ p ≠ [] then some [.sl 1 ((Lib.split l p).map .s)] else none
  | _ => none
/-- strings.Trim -/
def F98 : List D → Option (List D)
  | [.s l, .s p] => if l.length < 4294967281 ∧ p.length < 4294967281 ∧ p.all (fun b => decide (b.toNat < 128)) = true then some [.s (Lib.trimS l p)] else none
  | _ => none
end Go.Ab
