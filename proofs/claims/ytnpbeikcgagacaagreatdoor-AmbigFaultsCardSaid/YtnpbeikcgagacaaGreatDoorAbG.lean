/- One text of a proof that a law of this seat says true for every input: an evaluator of code over data, and that it tells the truth. It holds of the given program under the conditions that the row prints. -/
import Derived.Test.YtnpbeikcgagacaaGreatDoorAbFast
import Derived.Test.YtnpbeikcgagacaaGreatDoorAbAuto
set_option linter.unusedSimpArgs false
set_option linter.unusedVariables false
set_option linter.unusedSectionVars false
namespace Go.Ab

/-! # Functions that turn what they are handed: an oracle, its growth, and how a call of one is reckoned -/
abbrev MAbs := FuncId → List AV → Obs → Option (List AV × Obs)
def gext (M : MAbs) (f : FuncId) (G : List AV → Obs → Option (List AV × Obs)) : MAbs := fun g xs o => if g = f then G xs o else M g xs o
section
variable {P : Program} {T : Ctx}
theorem gnone_ok : ∀ f, Turns P T f ((fun _ _ _ => none : MAbs) f) := fun f xs o rs o' h => by simp at h
theorem gext_ok {M : MAbs} {f : FuncId} {G : List AV → Obs → Option (List AV × Obs)} (h : ∀ g, Turns P T g (M g)) (hf : Turns P T f G) : ∀ g, Turns P T g (gext M f G g) := by
  intro g xs o rs o' hG
  unfold gext at hG
  split at hG
  · rename_i e
    subst e
    exact hf xs o rs o' hG
  · exact h g xs o rs o' hG
theorem turns_of (hT : TOk P T) {E : Abs} (hE : ∀ f, Pure P T f (E f)) {f : FuncId} {fn : Func} {kp fr : Nat → List Nat} (hf : P.funcs[f]? = some fn) (hname : (fn.name == "runtime.NumGoroutine") = false) (hdr : (match fn.body with | some c => drawsOk T.gf fr c | none => true) = true)
    {G : List AV → Obs → Option (List AV × Obs)} (h : ∀ xs o r, G xs o = some r → ∃ n, gnK T E kp fr n fn xs o = some r) : Turns P T f G := by
  intro xs o rs o' hG
  obtain ⟨n, hn⟩ := h xs o (rs, o') hG
  exact gn_sound hT hE kp fr n hf hname (fun c hc => by rw [hc] at hdr; exact hdr) xs o rs o' hn
end
section
variable {T : Ctx} {gf : FuncId → Bool} {mf : MAbs}
@[simp] theorem on_td (t : TypeId) : (T.on gf mf).td t = T.td t := nr rfl
@[simp] theorem on_sz (t : TypeId) : (T.on gf mf).sz t = T.sz t := nr rfl
@[simp] theorem on_zero (t : TypeId) : (T.on gf mf).zero t = T.zero t := nr rfl
@[simp] theorem on_glob (t : Nat) : (T.on gf mf).glob t = T.glob t := nr rfl
@[simp] theorem on_eqt (t : TypeId) : (T.on gf mf).eqt t = T.eqt t := nr rfl
@[simp] theorem on_cmp (t : TypeId) : (T.on gf mf).cmp t = T.cmp t := nr rfl
@[simp] theorem on_has (t u : TypeId) : (T.on gf mf).has t u = T.has t u := nr rfl
@[simp] theorem on_meth (t : TypeId) (n : String) : (T.on gf mf).meth t n = T.meth t n := nr rfl
@[simp] theorem on_small (t : TypeId) : (T.on gf mf).small t = T.small t := nr rfl
@[simp] theorem on_wr (t : Nat) : (T.on gf mf).wr t = T.wr t := nr rfl
@[simp] theorem on_gf (f : FuncId) : (T.on gf mf).gf f = gf f := nr rfl
@[simp] theorem on_mf (f : FuncId) (xs : List AV) (o : Obs) : (T.on gf mf).mf f xs o = mf f xs o := nr rfl
variable {wr : Nat → Bool}
@[simp] theorem ar_td (t : TypeId) : (T.arrs wr).td t = T.td t := nr rfl
@[simp] theorem ar_sz (t : TypeId) : (T.arrs wr).sz t = T.sz t := nr rfl
@[simp] theorem ar_zero (t : TypeId) : (T.arrs wr).zero t = T.zero t := nr rfl
@[simp] theorem ar_glob (t : Nat) : (T.arrs wr).glob t = T.glob t := nr rfl
@[simp] theorem ar_eqt (t : TypeId) : (T.arrs wr).eqt t = T.eqt t := nr rfl
@[simp] theorem ar_cmp (t : TypeId) : (T.arrs wr).cmp t = T.cmp t := nr rfl
@[simp] theorem ar_has (t u : TypeId) : (T.arrs wr).has t u = T.has t u := nr rfl
@[simp] theorem ar_meth (t : TypeId) (n : String) : (T.arrs wr).meth t n = T.meth t n := nr rfl
@[simp] theorem ar_small (t : TypeId) : (T.arrs wr).small t = T.small t := nr rfl
@[simp] theorem ar_wr (t : Nat) : (T.arrs wr).wr t = wr t := nr rfl
@[simp] theorem ar_gf (f : FuncId) : (T.arrs wr).gf f = T.gf f := nr rfl
@[simp] theorem ar_mf (f : FuncId) (xs : List AV) (o : Obs) : (T.arrs wr).mf f xs o = T.mf f xs o := nr rfl
variable {sm : TypeId → Bool}
@[simp] theorem few_td (t : TypeId) : (T.few sm).td t = T.td t := nr rfl
@[simp] theorem few_sz (t : TypeId) : (T.few sm).sz t = T.sz t := nr rfl
@[simp] theorem few_zero (t : TypeId) : (T.few sm).zero t = T.zero t := nr rfl
@[simp] theorem few_glob (t : Nat) : (T.few sm).glob t = T.glob t := nr rfl
@[simp] theorem few_eqt (t : TypeId) : (T.few sm).eqt t = T.eqt t := nr rfl
@[simp] theorem few_cmp (t : TypeId) : (T.few sm).cmp t = T.cmp t := nr rfl
@[simp] theorem few_has (t u : TypeId) : (T.few sm).has t u = T.has t u := nr rfl
@[simp] theorem few_meth (t : TypeId) (n : String) : (T.few sm).meth t n = T.meth t n := nr rfl
@[simp] theorem few_small (t : TypeId) : (T.few sm).small t = sm t := nr rfl
@[simp] theorem few_wr (t : Nat) : (T.few sm).wr t = T.wr t := nr rfl
@[simp] theorem few_gf (f : FuncId) : (T.few sm).gf f = T.gf f := nr rfl
@[simp] theorem few_mf (f : FuncId) (xs : List AV) (o : Obs) : (T.few sm).mf f xs o = T.mf f xs o := nr rfl
end
section
variable {R : Type} {T : Ctx} {E : Abs}
/-- A call of a named function that turns objects. -/
@[simp ↓ high] theorem opK_callG (dst : Option Tmp) (g : FuncId) (args : List Operand) (tys : List TypeId) (ty : TypeId) (pos : String) (after : Array Edge) (gd : Option (Nat × Bool)) (s : St) (κ : St → Option R) (hg : T.gf g = true) (hl : args.length = tys.length) (hw : T.wr (2000000 + dst.getD 0) = false) (hw2 : T.wr (3000000 + dst.getD 0) = false) (hw3 : T.wr (4000000 + dst.getD 0) = false) :
    opK T E ⟨dst, .call { callee := .value (.func g), args := args.toArray, argTypes := tys.toArray }, ty, pos, after, gd⟩ s κ =
      gcallK T s dst g ((args.zip tys).map fun p => nilfix T p.2 (s.get T p.1)) κ := by
  have e1 : gfOf T (s.get T (.func g)) = some (g, [], []) := by simp only [St.get, gfOf, hg, if_true, List.map_nil]
  have e2 : ∀ c, s.chill T dst c = s := fun c => by unfold St.chill; rw [hw]; rfl
  have e3 : ∀ t o x, argA T dst t o x = nilfix T t x := fun t o x => by unfold argA lendA; rw [hw2, hw3]; rfl
  simp only [opK, e2, e3]
  rw [e1]
  simp only [List.nil_append, List.append_nil]
  rw [if_pos (by simpa using hl)]
end
attribute [simp] gcallK gcallL St.cool St.chill lendA argA reachL nubI idsO packO Ob.sub fwO fwR idxI bkO bkR bkId baseN backO newId shO shR mergeO newO keysN packA gAfter gnK outK leave zeroIds gext
end Go.Ab

namespace Go.Ab

/-! # An interpreter over a table of functions: what the kernel can reckon to the end needs no walk -/
/-- A function and its annotations. -/
structure Fd where
  fn : Func
  kp : Nat → List Nat
  fr : Nat → List Nat
  wr : Nat → Bool
section
variable (T : Ctx) (tbl : FuncId → Option Fd) (gf : FuncId → Bool) (E0 : Abs) (M0 : MAbs) (n : Nat)
def orc : Nat → Abs × MAbs
  | 0 => (E0, M0)
  | k + 1 => (fun f ds => match E0 f ds with
      | some rs => some rs
      | none => match tbl f with
        | some d => fnK ((T.arrs d.wr).on gf (orc k).2) (orc k).1 d.kp d.fr n d.fn ds
        | none => none,
    fun f xs o => match M0 f xs o with
      | some r => some r
      | none => match tbl f with
        | some d => gnK ((T.arrs d.wr).on gf (orc k).2) (orc k).1 d.kp d.fr n d.fn xs o
        | none => none)
end
def FdOk (P : Program) (gf : FuncId → Bool) (f : FuncId) (d : Fd) : Prop :=
  P.funcs[f]? = some d.fn ∧ (d.fn.name == "runtime.NumGoroutine") = false ∧ (match d.fn.body with | some c => drawsOk gf d.fr c | none => true) = true
theorem orc_ok {P : Program} {T : Ctx} {tbl : FuncId → Option Fd} {gf : FuncId → Bool} {E0 : Abs} {M0 : MAbs} {n : Nat} (hT : TOk P T) (hE0 : ∀ f, Pure P T f (E0 f)) (hM0 : ∀ f, Turns P T f (M0 f)) (htbl : ∀ f d, tbl f = some d → FdOk P gf f d) :
    ∀ k, (∀ f, Pure P T f ((orc T tbl gf E0 M0 n k).1 f)) ∧ (∀ f, Turns P T f ((orc T tbl gf E0 M0 n k).2 f))
  | 0 => ⟨hE0, hM0⟩
  | k + 1 => by
    obtain ⟨h1, h2⟩ := orc_ok hT hE0 hM0 htbl k
    constructor
    · intro f ds rs h
      simp only [orc] at h
      split at h
      · rename_i rs' h'
        cases h
        exact hE0 f ds _ h'
      · split at h
        · rename_i d hd
          obtain ⟨h3, h4, h5⟩ := htbl f d hd
          have hT2 : TOk P ((T.arrs d.wr).on gf (orc T tbl gf E0 M0 n k).2) := on_ok (arrs_ok hT d.wr) h2
          exact fn_sound hT2 (E := (orc T tbl gf E0 M0 n k).1) h1 d.kp d.fr n h3 h4 (fun c hc => by rw [hc] at h5; exact h5) ds rs h
        · simp at h
    · intro f xs o rs o' h
      simp only [orc] at h
      split at h
      · rename_i r' h'
        cases h
        exact hM0 f xs o rs o' h'
      · split at h
        · rename_i d hd
          obtain ⟨h3, h4, h5⟩ := htbl f d hd
          have hT2 : TOk P ((T.arrs d.wr).on gf (orc T tbl gf E0 M0 n k).2) := on_ok (arrs_ok hT d.wr) h2
          exact gn_sound hT2 (E := (orc T tbl gf E0 M0 n k).1) h1 d.kp d.fr n h3 h4 (fun c hc => by rw [hc] at h5; exact h5) xs o rs o' h
        · simp at h
end Go.Ab
namespace Go.Ab
def fdLook (f : FuncId) : List (FuncId × Fd) → Option Fd
  | [] => none
  | (k, d) :: r => bif Nat.beq k f then some d else fdLook f r
theorem fdLook_mem {f : FuncId} {d : Fd} : ∀ {l : List (FuncId × Fd)}, fdLook f l = some d → (f, d) ∈ l
  | [], h => by simp [fdLook] at h
  | (k, e) :: r, h => by
    simp only [fdLook] at h
    cases hk : Nat.beq k f with
    | true =>
      rw [hk] at h
      simp only [cond_true, Option.some.injEq] at h
      subst h
      have := Nat.eq_of_beq_eq_true hk
      subst this
      simp
    | false =>
      rw [hk] at h
      simp only [cond_false] at h
      exact List.mem_cons_of_mem _ (fdLook_mem h)
theorem all_nil' {α : Type} {p : α → Prop} : ∀ x ∈ ([] : List α), p x := fun x h => by cases h
theorem all_cons' {α : Type} {p : α → Prop} {a : α} {l : List α} (h1 : p a) (h2 : ∀ x ∈ l, p x) : ∀ x ∈ a :: l, p x := fun x h => by
  rcases List.mem_cons.1 h with rfl | h
  · exact h1
  · exact h2 x h
/-- A list of functions, looked over at once. -/
def fdsB (gf : FuncId → Bool) (l : List (FuncId × Fd)) : Bool := l.all fun x => !(x.2.fn.name == "runtime.NumGoroutine") && (match x.2.fn.body with | some c => drawsOk gf x.2.fr c | none => true)
theorem fds_ok {P : Program} {gf : FuncId → Bool} {l : List (FuncId × Fd)} (hf : ∀ x ∈ l, P.funcs[x.1]? = some x.2.fn) (hb : fdsB gf l = true) : ∀ f d, fdLook f l = some d → FdOk P gf f d := by
  intro f d h
  have hm := fdLook_mem h
  have := List.all_eq_true.1 hb _ hm
  simp only [Bool.and_eq_true, Bool.not_eq_true'] at this
  exact ⟨hf _ hm, this.1, this.2⟩
end Go.Ab
