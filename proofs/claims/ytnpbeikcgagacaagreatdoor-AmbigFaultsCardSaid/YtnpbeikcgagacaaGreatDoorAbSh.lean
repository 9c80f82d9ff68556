/- One text of a proof that a law of this seat says true for every input: an evaluator of code over data, and that it tells the truth. It holds of the given program under the conditions that the row prints. -/
import Derived.Test.YtnpbeikcgagacaaGreatDoorAbD
import Derived.ChangeArms
set_option linter.unusedSimpArgs false
set_option linter.unusedVariables false
set_option linter.unusedSectionVars false
set_option maxRecDepth 100000
namespace Go.Ab
open Go.WideShapes

/-- The shape of plain data. -/
inductive Sh where
  | int (k : IntKind) | bool | str
  | sl (e : Sh) | st (r : Sh)
  | nil | cons (a b : Sh)
abbrev Sh.Val : Sh → Type
  | .int _ => Int
  | .bool => Bool
  | .str => List UInt8
  | .sl e => List e.Val
  | .st r => r.Val
  | .nil => Unit
  | .cons a b => a.Val × b.Val
def Sh.agg : Sh → Bool
  | .st _ => true
  | _ => false
def Sh.size : Sh → Nat
  | .st r => r.size
  | .nil => 0
  | .cons a b => a.size + b.size
  | _ => 1
def Sh.wrap (s : Sh) (cs : List D) : D := if s.agg = true then .st cs else cs.headD (.v .nilFunc)
def Sh.cells : (s : Sh) → s.Val → List D
  | .int k, n => [.v (.int k n)]
  | .bool, b => [.v (.bool b)]
  | .str, l => [.s l]
  | .sl e, xs => [.sl e.size (xs.map fun x => e.wrap (e.cells x))]
  | .st r, x => r.cells x
  | .nil, _ => []
  | .cons a b, x => a.cells x.1 ++ b.cells x.2
def Sh.enc (s : Sh) (x : s.Val) : D := s.wrap (s.cells x)
/-- Within Go's bounds. -/
def Sh.good : (s : Sh) → s.Val → Prop
  | .int k, n => k.min ≤ n ∧ n ≤ k.max
  | .bool, _ => True
  | .str, l => l.length ≤ maxLen
  | .sl e, xs => xs.length ≤ maxLen ∧ ∀ x ∈ xs, e.good x
  | .st r, x => r.good x
  | .nil, _ => True
  | .cons a b, x => a.good x.1 ∧ b.good x.2
mutual
def fitsB (P : Program) : Sh → TypeId → Bool
  | .int k, t => (match P.underlying t with | some (.int k') => k == k' | _ => false)
  | .bool, t => (match P.underlying t with | some .bool => true | _ => false)
  | .str, t => (match P.underlying t with | some .string => true | _ => false)
  | .sl e, t => (match P.underlying t with | some (.slice e') => fitsB P e e' && P.cellsOf e' == e.size && (e.agg || e.size == 1) | _ => false)
  | .st r, t => (match P.underlying t with | some (.struct fs) => rowB P r fs.toList 0 && P.cellsOf t == r.size | _ => false)
  | _, _ => false
def rowB (P : Program) : Sh → List Field → Nat → Bool
  | .nil, [], _ => true
  | .cons a b, f :: fs, off => fitsB P a f.type && P.cellsOf f.type == a.size && f.offset == off && rowB P b fs (off + a.size)
  | _, _, _ => false
end

theorem Sh.cells_len : ∀ (s : Sh) (x : s.Val), (s.cells x).length = s.size
  | .int _, _ | .bool, _ | .str, _ | .sl _, _ | .nil, _ => rfl
  | .st r, x => Sh.cells_len r x
  | .cons a b, x => by simp only [Sh.cells, List.length_append, Sh.cells_len a, Sh.cells_len b, Sh.size]
theorem Sh.cells_cell : ∀ (s : Sh) (x : s.Val), ∀ d ∈ s.cells x, d.cell = true
  | .int _, _, d, h | .bool, _, d, h | .str, _, d, h | .sl _, _, d, h => by
    simp only [Sh.cells, List.mem_singleton] at h
    subst h
    rfl
  | .nil, _, d, h => by simp [Sh.cells] at h
  | .st r, x, d, h => Sh.cells_cell r x d h
  | .cons a b, x, d, h => by
    simp only [Sh.cells, List.mem_append] at h
    exact h.elim (Sh.cells_cell a x.1 d) (Sh.cells_cell b x.2 d)
theorem cells_of_cell {d : D} (h : d.cell = true) : d.cells = [d] := by
  cases d <;> first | rfl | (simp [D.cell] at h)
theorem Sh.enc_cells (s : Sh) (h : s.agg = true ∨ s.size = 1) (x : s.Val) : (s.enc x).cells = s.cells x := by
  unfold Sh.enc Sh.wrap
  by_cases ha : s.agg = true
  · rw [if_pos ha]
    rfl
  · rw [if_neg ha]
    have hl := (Sh.cells_len s x).trans (h.resolve_left ha)
    have hc := Sh.cells_cell s x
    match hcs : s.cells x, hl with
    | [d], _ =>
      rw [hcs] at hc
      exact cells_of_cell (hc d (by simp))

abbrev MZ : Mut := fun _ _ => False
theorem rdC_of {w : World} : ∀ {ds : List D} {cs : List Value} {p : Addr} {i : Nat}, RdL MZ w ds cs → (∀ (j : Nat) u, cs[j]? = some u → w.cell? (p.add (i + j)) = some u) → (∀ d ∈ ds, d.cell = true) → RdC MZ w ds p i
  | [], cs, p, i, _, _, _ => by simp only [RdC]
  | d :: ds, cs, p, i, h, hc, hd => by
    simp only [RdL] at h
    obtain ⟨u, us, rfl, h1, h2⟩ := h
    simp only [RdC]
    refine ⟨⟨hd d (by simp), u, by simpa using hc 0 u (by simp), id, h1⟩, rdC_of h2 (fun j v hv => ?_) fun e he => hd e (by simp [he])⟩
    rw [Nat.add_assoc, Nat.add_comm 1 j]
    exact hc (j + 1) v (by simpa using hv)
theorem RdE_of_get {M : Mut} {w : World} {n : Nat} : ∀ {xs : List D} {p : Addr} {i : Nat}, (∀ (j : Nat) d, xs[j]? = some d → RdX M w n d p (i + j * n)) → RdE M w n xs p i
  | [], p, i, _ => by simp only [RdE]
  | x :: xs, p, i, h => by
    rw [RdE_cons]
    refine ⟨by simpa using h 0 x (by simp), RdE_of_get fun j d hj => ?_⟩
    have := h (j + 1) d (by simpa using hj)
    rwa [show i + (j + 1) * n = i + n + j * n from by rw [Nat.add_mul]; omega] at this
theorem cells_get {w : World} {base : Nat} {a : Addr} {n : Nat} {cs : List Value} (h : w.cells? base a n = some cs) : ∀ (j : Nat) u, cs[j]? = some u → w.cell? (a.add j) = some u := by
  intro j u hj
  unfold World.cells? at h
  split at h
  · have hl := mapM_some_length h
    have hjl : j < cs.length := (List.getElem?_eq_some_iff.1 hj).1
    have := mapM_some_get h j j (by rw [List.getElem?_range]; simp at hl; omega)
    rw [this, hj]
  · simp at h

section
variable {H : Type} {enc : TypeId × Value → H} {P : Program} {w : World} {base : Nat} {sp : Nat → Bool} {held : Bool}
mutual
theorem open_sh : ∀ (s : Sh) (t : TypeId) (fuel : Nat) (cs : List Value) (x : DataW H × List MemPlace), fitsB P s t = true → DataW.trod enc P w base sp held fuel t cs = some x → ∃ a : s.Val, RdL MZ w (s.cells a) cs ∧ s.good a
  | .int k, t, fuel, cs, x, hf, h => by
    simp only [fitsB] at hf
    split at hf
    · rename_i k' ht
      simp only [beq_iff_eq] at hf
      subst hf
      obtain ⟨n, rfl, _, hw⟩ := DataW.trod_int ht h
      simp only [Lit.wf, Bool.and_eq_true, decide_eq_true_eq] at hw
      exact ⟨n, by simp [Sh.cells, RdL, Rd], hw⟩
    · simp at hf
  | .bool, t, fuel, cs, x, hf, h => by
    simp only [fitsB] at hf
    split at hf
    · rename_i ht
      obtain ⟨b, rfl, _⟩ := DataW.trod_bool ht h
      exact ⟨b, by simp [Sh.cells, RdL, Rd], trivial⟩
    · simp at hf
  | .str, t, fuel, cs, x, hf, h => by
    simp only [fitsB] at hf
    split at hf
    · rename_i ht
      obtain ⟨b, rfl, _, hl⟩ := DataW.trod_string ht h
      exact ⟨b.data.toList, by simp [Sh.cells, RdL, Rd], by show b.data.toList.length ≤ maxLen; rw [Array.length_toList]; exact hl⟩
    · simp at hf
  | .nil, t, fuel, cs, x, hf, h => by simp [fitsB] at hf
  | .cons _ _, t, fuel, cs, x, hf, h => by simp [fitsB] at hf
  | .st r, t, fuel, cs, x, hf, h => by
    simp only [fitsB] at hf
    split at hf
    · rename_i fs ht
      simp only [Bool.and_eq_true, beq_iff_eq] at hf
      obtain ⟨xs, n, _, _, hl, hxs, hfs⟩ := DataW.trod_struct ht h
      obtain ⟨a, h1, h2⟩ := open_row r fs.toList 0 n cs hf.1 (fun i f hif => by
        have := hfs i f (by simpa using hif)
        rw [this]
        have hlt : i < fs.size := by simpa using (List.getElem?_eq_some_iff.1 hif).1
        exact ⟨xs[i]'(by omega), by simp [hxs, hlt]⟩) (by omega)
      exact ⟨a, by simpa [Sh.cells] using h1, h2⟩
    · simp at hf
  | .sl e, t, fuel, cs, x, hf, h => by
    simp only [fitsB] at hf
    split at hf
    · rename_i e' ht
      simp only [Bool.and_eq_true, beq_iff_eq, Bool.or_eq_true] at hf
      obtain ⟨⟨hf, hsz⟩, hag⟩ := hf
      rcases DataW.trod_slice ht h with ⟨rfl, _⟩ | ⟨a, len, cap, elems, rest, n, _, rfl, _, hb, hl, hm, hlen, hel, _, _⟩
      · refine ⟨[], ?_, by simp [Sh.good, Sh.Val]⟩
        simp only [Sh.cells, RdL, Rd, List.map_nil]
        exact ⟨_, _, rfl, ⟨none, 0, 0, rfl, rfl, Nat.le_refl _, fun _ => rfl, fun p hp => by simp at hp⟩, rfl⟩
      · have key : ∀ i : Fin len, ∃ y : e.Val, e.good y ∧ ∃ cs', w.cells? base (a.add (i * e.size)) e.size = some cs' ∧ RdL MZ w (e.cells y) cs' := by
          intro i
          have hi := hel i i.2
          rw [hsz] at hi
          have hel' : elems[i.1]? = some (elems[i.1]'(by omega)) := List.getElem?_eq_getElem (by have := i.2; omega)
          rw [hel', Option.bind_eq_some_iff] at hi
          obtain ⟨cs', h1, h2⟩ := hi
          obtain ⟨y, h3, h4⟩ := open_sh e e' n cs' _ hf h2
          exact ⟨y, h4, cs', h1, h3⟩
        let f : Fin len → e.Val := fun i => (key i).choose
        have hlf : (List.ofFn f).length = len := by simp
        refine ⟨List.ofFn f, ?_, by simp only [Sh.good, List.length_ofFn]; omega, ?_⟩
        · simp only [Sh.cells, RdL, Rd]
          refine ⟨_, _, rfl, ⟨some a, len, cap, rfl, by simp, hl, fun hn => by simp at hn, fun p hp => ?_⟩, rfl⟩
          cases hp
          refine RdE_of_get fun j d hj => ?_
          rw [List.getElem?_map, Option.map_eq_some_iff] at hj
          obtain ⟨y, hy, rfl⟩ := hj
          have hjl : j < len := by
            have := (List.getElem?_eq_some_iff.1 hy).1
            rwa [List.length_ofFn] at this
          rw [List.getElem?_eq_getElem (by rw [List.length_ofFn]; exact hjl)] at hy
          simp only [List.getElem_ofFn, Option.some.injEq] at hy
          obtain ⟨_, cs', h1, h2⟩ := (key ⟨j, hjl⟩).choose_spec
          have hy' : (key ⟨j, hjl⟩).choose = y := hy
          rw [hy'] at h2
          have hc := Sh.enc_cells e hag y
          rw [RdX_iff]
          show (e.enc y).cells.length = _ ∧ RdC MZ w (e.enc y).cells a _
          rw [hc]
          refine ⟨Sh.cells_len e y, rdC_of h2 (fun q u hq => ?_) (Sh.cells_cell e y)⟩
          have := cells_get h1 q u hq
          rw [Addr.add_add] at this
          rw [Nat.zero_add]
          exact this
        · intro y hy
          obtain ⟨i, rfl⟩ := (List.mem_ofFn).1 hy
          exact (key i).choose_spec.1
    · simp at hf
theorem open_row : ∀ (r : Sh) (fs : List Field) (off n : Nat) (cs : List Value), rowB P r fs off = true → (∀ (i : Nat) (f : Field), fs[i]? = some f → ∃ x, DataW.trod enc P w base sp held n f.type ((cs.drop f.offset).take (P.cellsOf f.type)) = some x) →
    cs.length = off + r.size → ∃ a : r.Val, RdL MZ w (r.cells a) (cs.drop off) ∧ r.good a
  | .nil, [], off, n, cs, hr, h, hl => ⟨(), by
      simp only [Sh.size] at hl
      simp only [Sh.cells, RdL]
      rw [List.drop_eq_nil_iff]
      omega, trivial⟩
  | .cons a b, f :: fs, off, n, cs, hr, h, hl => by
    simp only [rowB, Bool.and_eq_true, beq_iff_eq] at hr
    obtain ⟨⟨⟨h1, h2⟩, h3⟩, h4⟩ := hr
    obtain ⟨x, hx⟩ := h 0 f (by simp)
    obtain ⟨y, hy, gy⟩ := open_sh a f.type n _ x h1 hx
    simp only [Sh.size] at hl
    obtain ⟨z, hz, gz⟩ := open_row b fs (off + a.size) n cs h4 (fun i g hg => h (i + 1) g (by simpa using hg)) (by omega)
    refine ⟨(y, z), ?_, gy, gz⟩
    rw [h2, h3] at hy
    have := RdL_append hy hz
    rw [← List.drop_drop, List.take_append_drop] at this
    exact this
  | .nil, _ :: _, off, n, cs, hr, h, hl => by simp [rowB] at hr
  | .cons _ _, [], off, n, cs, hr, h, hl => by simp [rowB] at hr
  | .int _, [], off, n, cs, hr, h, hl | .int _, _ :: _, off, n, cs, hr, h, hl => by simp [rowB] at hr
  | .bool, [], off, n, cs, hr, h, hl | .bool, _ :: _, off, n, cs, hr, h, hl => by simp [rowB] at hr
  | .str, [], off, n, cs, hr, h, hl | .str, _ :: _, off, n, cs, hr, h, hl => by simp [rowB] at hr
  | .sl _, [], off, n, cs, hr, h, hl | .sl _, _ :: _, off, n, cs, hr, h, hl => by simp [rowB] at hr
  | .st _, [], off, n, cs, hr, h, hl | .st _, _ :: _, off, n, cs, hr, h, hl => by simp [rowB] at hr
end
/-- An argument of a row, opened. -/
theorem open_arg (s : Sh) {r : Reach} {b0 : Nat} {t : TypeId} {v : Value} {d : DataW H} {ps : List MemPlace} (hs : fitsB P s t = true) (hag : s.agg = true ∨ s.size = 1) (hval : Value.okWide P w r b0 t v) (hd : DataW.Trod enc P w base sp held t v d ps) :
    ∃ a : s.Val, Rd MZ w (s.enc a) v ∧ s.good a := by
  obtain ⟨fuel, hf⟩ := hd
  obtain ⟨a, h1, h2⟩ := open_sh s t fuel _ _ hs hf
  refine ⟨a, ?_, h2⟩
  unfold Sh.enc Sh.wrap
  by_cases ha : s.agg = true
  · rw [if_pos ha]
    cases s <;> simp [Sh.agg] at ha
    rename_i r
    simp only [fitsB] at hs
    split at hs
    · rename_i fs ht
      simp only [Value.okWide, ht] at hval
      obtain ⟨cs, rfl, _⟩ := hval
      simp only [Rd]
      exact ⟨cs.toList, by simp, by simpa [Value.cells, Sh.cells] using h1⟩
    · simp at hs
  · rw [if_neg ha]
    have hl := (Sh.cells_len s a).trans (hag.resolve_left ha)
    match hcs : s.cells a, hl with
    | [d], _ =>
      rw [hcs] at h1
      simp only [RdL] at h1
      obtain ⟨u, us, hv, h3, rfl⟩ := h1
      have : v = u := by
        have hnot : (∀ fs, P.underlying t ≠ some (.struct fs)) ∧ ∀ n e, P.underlying t ≠ some (.array n e) := by
          constructor <;> intros <;> intro hu <;> cases s <;> simp [fitsB, hu] at hs <;> simp [Sh.agg] at ha
        simp only [Value.okWide] at hval
        split at hval
        · rename_i fs hu
          exact absurd hu (hnot.1 _)
        · rename_i n e hu
          exact absurd hu (hnot.2 _ _)
        · cases v <;> first
            | (simp [Value.cells] at hv; exact hv)
            | (exfalso; revert hval; unfold Cell.okWide; cases s <;> simp only [fitsB] at hs <;> (try (split at hs <;> rename_i hu <;> simp [hu, Cell.ok])) <;> simp at hs)
      simpa [this] using h3
end
end Go.Ab
