/- One text of a proof that a law of this seat says true for every input: the lines of a text. It holds of the given program under the conditions that the row prints. -/
import Derived.Test.YticphlljahcmkaaDoorLn3
set_option linter.unusedVariables false
set_option linter.unusedSimpArgs false
set_option maxRecDepth 100000
namespace Go.Ab
open Go.Proofs
variable {glob : Nat → Option (List D)}

/-- A function of data out of a typed one. -/
noncomputable def lift {α : Type} (enc : α → List D) (f : α → Option (List D)) : List D → Option (List D) := fun ds => open Classical in if h : ∃ a, enc a = ds then f h.choose else none
theorem lift_enc {α : Type} {enc : α → List D} {f : α → Option (List D)} (hi : ∀ a b, enc a = enc b → a = b) (a : α) : lift enc f (enc a) = f a := by
  unfold lift
  rw [dif_pos ⟨a, rfl⟩]
  congr 1
  exact hi _ _ (Classical.choose_spec (p := fun b => enc b = enc a) ⟨a, rfl⟩)
theorem lift_some {α : Type} {enc : α → List D} {f : α → Option (List D)} {ds rs : List D} (h : lift enc f ds = some rs) : ∃ a, enc a = ds ∧ f a = some rs := by
  unfold lift at h
  split at h
  · rename_i hx
    exact ⟨_, Classical.choose_spec hx, h⟩
  · simp at h
theorem map_inj {α β : Type} {f : α → β} (hf : ∀ a b, f a = f b → a = b) : ∀ xs ys : List α, xs.map f = ys.map f → xs = ys
  | [], [], _ => rfl
  | [], y :: ys, h => by simp at h
  | x :: xs, [], h => by simp at h
  | x :: xs, y :: ys, h => by
    simp only [List.map_cons, List.cons.injEq] at h
    rw [hf x y h.1, map_inj hf xs ys h.2]
theorem s_inj : ∀ a b, D.s a = D.s b → a = b := fun a b h => by injection h

noncomputable def F72' (eq : D) : List D → Option (List D) := lift (fun p : List (List UInt8) × Nat => [.sl 1 (p.1.map .s), .v (.int .i64 p.2)])
  fun p => if p.2 < p.1.length ∧ p.1.length < 4294967000 ∧ (p.1.map List.length).sum < 4294967000 then some (lgD eq p.2 (lgm p.1 [] p.2)) else none
theorem F72_eq (eq : D) (xs : List (List UInt8)) (i : Nat) (h1 : i < xs.length) (h2 : xs.length < 4294967000) (h3 : (xs.map List.length).sum < 4294967000) : F72' eq [.sl 1 (xs.map .s), .v (.int .i64 i)] = some (lgD eq i (lgm xs [] i)) := by
  have := lift_enc (enc := fun p : List (List UInt8) × Nat => [.sl 1 (p.1.map .s), .v (.int .i64 p.2)]) (f := fun p => if p.2 < p.1.length ∧ p.1.length < 4294967000 ∧ (p.1.map List.length).sum < 4294967000 then some (lgD eq p.2 (lgm p.1 [] p.2)) else none)
    (fun a b h => by
      simp only [List.cons.injEq, D.sl.injEq, D.v.injEq, Value.int.injEq, true_and, and_true] at h
      exact Prod.ext (map_inj s_inj _ _ h.1) (by omega)) (xs, i)
  simp only [h1, h2, h3, and_self, if_true] at this
  exact this
theorem sum_drop (xs : List (List UInt8)) (i : Nat) : ((xs.drop i).map List.length).sum ≤ (xs.map List.length).sum := by
  have : (xs.map List.length).sum = ((xs.take i).map List.length).sum + ((xs.drop i).map List.length).sum := by
    rw [← List.sum_append, ← List.map_append, List.take_append_drop]
  omega
noncomputable def E4 (eq : D) : Abs := ext E3 72 (F72' eq)
theorem E4_ok {m : Int} (h20 : glob 20 = some [.v (.int .i64 m)]) {t6 : TypeId} {x6 : D} (h6 : glob 6 = some [.ifc t6 x6]) : ∀ f, Pure Tryd.prog (mkCtx tab glob) f (E4 (.ifc t6 x6) f) := by
  refine ext_ok (E3_ok h20) ?_
  refine pure_of (T_ok glob) (E3_ok h20) Tryd.func72 (by kernel_rfl) (kp := kp72) (fr := fr72) (by kernel_rfl) fun ds rs hF => ?_
  obtain ⟨⟨xs, i⟩, rfl, hf⟩ := lift_some hF
  simp only at hf
  split at hf
  · rename_i h
    cases hf
    exact ⟨_, ev72 h6 xs i h.1 h.2.1 (Nat.lt_of_le_of_lt (sum_drop xs i) h.2.2)⟩
  · simp at hf

/-- A line. -/
structure Ln where
  text : List UInt8
  num : Nat
  cell : Bool
def encLn (l : Ln) : D := .st [.s l.text, .v (.int .i64 l.num), .v (.bool l.cell)]
theorem lgm_next (xs : List (List UInt8)) (acc : List UInt8) (i : Nat) (t : List UInt8) (n : Nat) (h : lgm xs acc i = .inl (t, n)) : i < n ∧ n ≤ xs.length := by
  induction acc, i using lgm.induct (xs := xs) with
  | case1 acc i hi h1 =>
    unfold lgm at h
    rw [dif_pos hi, if_pos h1] at h
    simp at h
  | case2 acc i hi h1 h2 ih =>
    unfold lgm at h
    rw [dif_pos hi, if_neg h1, if_pos h2] at h
    have := ih h
    omega
  | case3 acc i hi h1 h2 =>
    unfold lgm at h
    rw [dif_pos hi, if_neg h1, if_neg h2] at h
    simp at h
    omega
  | case4 acc i hi =>
    unfold lgm at h
    rw [dif_neg hi] at h
    simp at h
/-- lines.Split behind its first test: the lines, or the number of a bad one and whether a quote is open. -/
def spm (xs : List (List UInt8)) (acc : List Ln) (i : Nat) : List Ln ⊕ (Nat × Bool) :=
  if h : i < xs.length then
    if recp xs[i] = true then
      if 400 < xs[i].length - 1 then .inr (i + 1, false) else spm xs (acc ++ [⟨xs[i].drop 1, i + 1, true⟩]) (i + 1)
    else match hm : lgm xs [] i with
      | .inr n => .inr (n, true)
      | .inl (t, n) => if 400 < (Lib.trimS t [32, 9]).length then .inr (i + 1, false) else spm xs (acc ++ [⟨Lib.trimS t [32, 9], i + 1, false⟩]) n
  else .inl acc
termination_by xs.length - i
decreasing_by
  · omega
  · have := lgm_next xs [] i t n hm
    omega
def spD (el eq : D) : List Ln ⊕ (Nat × Bool) → List D
  | .inl ls => [.sl 3 (ls.map encLn), .v .nilIface]
  | .inr (n, q) => [.sl 3 [], .ifc 75 (.ptr [.v (.int .i64 n), if q then eq else el])]
end Go.Ab
