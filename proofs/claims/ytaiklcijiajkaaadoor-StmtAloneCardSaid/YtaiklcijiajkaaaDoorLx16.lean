/- One text of a proof that a law of this seat says true for every input: words, pieces and statements. It holds of the given program under the conditions that the row prints. -/
import Derived.Test.YtaiklcijiajkaaaDoorLx15
set_option linter.unusedVariables false
set_option linter.unusedSimpArgs false
set_option maxRecDepth 100000
namespace Go.Ab
open Go.Proofs
variable {glob : Nat → Option (List D)} {p : Nat → Addr} {o : Nat → Obj}

def encLi (l : Li) : D := .st [.s l.text, .v (.int .i64 l.num), .v (.bool l.cell)]
def parseD (p : Nat → Addr) (o : Nat → Obj) : List Sm ⊕ (Nat × Int) → List D
  | .inl out => [.sl 10 (out.map encS), .v .nilIface]
  | .inr (e, n) => [.sl 10 [], .ifc 40 (.ptr [.v (.int .i64 n), erD p o e])]
abbrev TP (glob : Nat → Option (List D)) : Ctx := (mkCtx tab glob).arrs fun d => d == 4
/-- The bytes of lines, and an end for each. -/
def bulk (ls : List Li) : Nat := (ls.map fun l => l.text.length + 1).sum
theorem pOneS_fresh (t : List UInt8) (s : Sm) (h : pOneS t = .inl s) : s.recipe = [] ∧ s.line = 0 := by
  unfold pOneS pInc pAsg pRul pTail at h
  simp only at h
  repeat' split at h
  all_goals (try (simp at h; done))
  all_goals (injection h with h; subst h; exact ⟨rfl, rfl⟩)
theorem pOneS_err (t : List UInt8) (e : Nat) (h : pOneS t = .inr e) : e ≠ 0 := by
  unfold pOneS pInc pAsg pRul pTail at h
  simp only at h
  repeat' split at h
  all_goals (try (simp at h; done))
  all_goals (try (injection h with h; subst h; first | decide | (rename_i h1; exact pWords_err _ _ h1) | (rename_i h1; exact pAttr_err _ _ _ _ _ (Nat.le_refl _) h1)))
section
variable (hs : Sents glob p o)
include hs
set_option maxHeartbeats 16000000 in
theorem evParse (ls : List Li) (hlen : ls.length ≤ 4294967000) (hsum : bulk ls ≤ 4294967000) :
    fnK (TP glob) (ES4 p o) kp8 fr8 (ls.length + 1) Tryd.f8 [.sl 3 (ls.map encLi)] = some (parseD p o (pParse ls [] false)) := by
  have h3 := gl3 hs
  have hET : ES4 p o 13 = FTrimG := rfl
  have hEO : ES4 p o 14 = FOne p o := rfl
  have hL : ∀ i (h : i < ls.length), (ls.map encLi)[i]? = some (encLi ls[i]) := fun i h => by simp [h]
  have hLl : (ls.map encLi).length = ls.length := by simp
  generalize ls.map encLi = L at *
  simp [Tryd.f8, hLl]
  refine loop_rule (R := List D) (σ := Nat × List Sm × Bool) (fun x => ⟨slots 84 [(4, .own (1, 4)), (5, .d (.v (.bool x.2.2))), (10, .d (.sl 3 L)), (11, .d (.v (.int .i64 ls.length))), (12, .d (.v (.int .i64 x.1)))], [((1, 4), .arr true 10 (x.2.1.map cellsA))]⟩)
    (fun x => ls.length - x.1) (fun x => x.1 ≤ ls.length ∧ x.2.1.length ≤ x.1 ∧ (x.2.2 = true → ∃ pre s, x.2.1 = pre ++ [s] ∧ s.recipe.length + bulk (ls.drop x.1) ≤ 4294967000)) (fun x => some (parseD p o (pParse (ls.drop x.1) x.2.1 x.2.2))) (0, [], false) [4, 5, 10, 11, 12] (by simp [kp8]) ⟨by simp, by simp, by simp⟩ (by simp) (by simp) ?_
  rintro ⟨i, out, op⟩ κ' ⟨hi, ho, hop⟩ hn he hr
  simp only at hi ho hop
  have hw : IntKind.i64.wrap ((i : Int) + 1) = (i : Int) + 1 := wrap_i64 (by omega) (by omega)
  have hlim : out.length + 1 ≤ lim := by unfold lim; omega
  by_cases hil : i < ls.length
  · have hil' : (i : Int) < ls.length := by omega
    have hg := hL i hil
    have hd : ls.drop i = ls[i] :: ls.drop (i + 1) := List.drop_eq_getElem_cons hil
    have hbk : bulk (ls.drop i) = ls[i].text.length + 1 + bulk (ls.drop (i + 1)) := by rw [hd]; simp only [bulk, List.map_cons, List.sum_cons]
    have hbi : bulk (ls.drop i) ≤ 4294967000 := by
      have : bulk ls = bulk (ls.take i) + bulk (ls.drop i) := by
        conv => lhs; rw [← List.take_append_drop i ls]
        simp only [bulk, List.map_append, List.sum_append]
      omega
    rw [hd]
    rw [hbk] at hbi
    rw [hbk] at hop
    generalize ls[i] = l at *
    obtain ⟨tx, nm, cl⟩ := l
    simp only [encLi] at hg hop hbi
    have hT := FTrimG_at tx (by omega)
    have hO := FOne_at (p := p) (o := o) tx (by omega)
    unfold pParse
    simp only
    by_cases c1 : cl = true ∧ op = true
    · obtain ⟨rfl, rfl⟩ := c1
      obtain ⟨pre, s, rfl, hrec⟩ := hop rfl
      rw [if_pos ⟨rfl, rfl⟩]
      have hE1 : ((pre ++ [s]).map cellsA).length = pre.length + 1 := by simp
      have hE2 : ((pre ++ [s]).map cellsA)[pre.length]? = some (cellsA s) := by simp
      have hE3 : ∀ x, ((pre ++ [s]).map cellsA).set pre.length x = pre.map cellsA ++ [x] := fun x => by
        rw [List.map_append]
        simp [List.set_append]
      have hE4 : ∀ fo fr, subE fo fr ((pre ++ [s]).map cellsA) = (pre ++ [s]).map cellsA := fun fo fr => subE_cells fo fr _
      have hE5 := idsL_cells (pre ++ [s])
      have hpl : pre.length < 9223372036854775807 := by simp at ho; omega
      generalize (pre ++ [s]).map cellsA = E at *
      have hw2 : IntKind.i64.wrap (pre.length : Int) = (pre.length : Int) := wrap_i64 (by omega) (by omega)
      have l1 : tx.length + 1 ≤ lim := by unfold lim; omega
      have l2 : s.recipe.length + (tx.length + 1) ≤ lim := by unfold lim; omega
      simp only [cellsA, smC, List.map_cons, List.map_nil] at hE2
      have hE6 := (List.getElem?_eq_some_iff.1 hE2).2
      simp [hil, hil', hg, hE1, hE2, hE6, hE3, hE4, hE5, hw2, l1, l2, hw, fr8]
      refine (hn (i + 1, pre ++ [{ s with recipe := s.recipe ++ tx ++ [10] }], true) _ ⟨by simp only; omega, by simp only [List.length_append, List.length_cons, List.length_nil] at ho ⊢; omega, fun _ => ⟨pre, _, rfl, ?_⟩⟩ (by simp only; omega) ?_).trans ?_
      · simp only [List.length_append, List.length_cons, List.length_nil]
        omega
      · simp [idsL_app, idsL_cells, cellsA, smC]
      · rw [addRec_app]
    · rw [if_neg c1]
      have hnext : ∀ st : St, st.keep [4, 5, 10, 11, 12] some = some ⟨slots 84 [(4, .own (1, 4)), (5, .d (.v (.bool false))), (10, .d (.sl 3 L)), (11, .d (.v (.int .i64 ls.length))), (12, .d (.v (.int .i64 (i + 1 : Nat))))], [((1, 4), .arr true 10 (out.map cellsA))]⟩ → κ' .normal st = some (parseD p o (pParse (ls.drop (i + 1)) out false)) :=
        fun st hst => hn (i + 1, out, false) st ⟨by simp only; omega, by simp only; omega, fun h => by simp at h⟩ (by simp only; omega) hst
      cases cl with
      | true =>
        have hop2 : op = false := by
          cases op with
          | true => exact absurd ⟨rfl, rfl⟩ c1
          | false => rfl
        subst hop2
        simp only [true_and, true_or, if_true]
        generalize trimG tx = t at *
        cases t with
        | nil =>
          simp only [ne_eq, not_true_eq_false, if_false]
          simp [hil, hil', hg, hET, hT, hw, subE_cells]
          exact hnext _ (by simp [idsL_cells])
        | cons b t =>
          simp only [ne_eq, reduceCtorEq, not_false_eq_true, if_true]
          simp [hil, hil', hg, hET, hT, hw, subE_cells, fr8, h3, hr, parseD, erD, sentD]
      | false =>
        simp only [Bool.false_eq_true, false_and, if_false, false_or]
        cases tx with
        | nil =>
          simp only [if_true]
          simp [hil, hil', hg, hw, subE_cells]
          exact hnext _ (by simp [idsL_cells])
        | cons b tx =>
          simp only [reduceCtorEq, if_false]
          cases hx : pOneS (b :: tx) with
          | inr e =>
            have he0 := pOneS_err _ _ hx
            rw [hx] at hO
            simp only [smD, encS, smC, Sm.z, erD, if_neg he0, sentD] at hO
            simp [hil, hil', hg, hw, subE_cells, hEO, hO, fr8, hr, parseD, erD, he0, sentD]
          | inl s =>
            obtain ⟨hr0, hl0⟩ := pOneS_fresh _ _ hx
            rw [hx] at hO
            simp only [smD, encS, smC] at hO
            have hk2 : ((s.kind : Int) == 2) = decide (s.kind = 2) := by
              rw [Bool.eq_iff_iff]
              simp
              omega
            simp [hil, hil', hg, hw, subE_cells, hEO, hO, hlim, subE_app, hk2]
            refine hn (i + 1, out ++ [{ s with line := nm }], decide (s.kind = 2)) _ ⟨by simp only; omega, by simp only [List.length_append, List.length_cons, List.length_nil]; omega, fun _ => ⟨out, _, rfl, ?_⟩⟩ (by simp only; omega) ?_
            · rw [hr0]
              simp only [List.length_nil]
              omega
            · simp [idsL_app, idsL_cells, cellsA, smC]
  · have hil' : ¬ (i : Int) < ls.length := by omega
    have : i = ls.length := by omega
    subst this
    simp [he, pParse, parseD, datasE_cells]
end
end Go.Ab
