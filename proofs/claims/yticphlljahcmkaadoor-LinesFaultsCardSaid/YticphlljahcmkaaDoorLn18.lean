/- One text of a proof that a law of this seat says true for every input: the lines of a text. It holds of the given program under the conditions that the row prints. -/
import Derived.Test.YticphlljahcmkaaDoorLn17
set_option linter.unusedVariables false
set_option linter.unusedSimpArgs false
set_option maxRecDepth 100000
namespace Go.Ab
open Go.Proofs
variable {glob : Nat → Option (List D)} {p : Nat → Addr} {o : Nat → Obj}

noncomputable def F40 (p : Nat → Addr) (o : Nat → Obj) : List D → Option (List D) := liftG (fun a : Er × Int × Int => a.1.good = true) (fun a => [encE p o a.1, .v (.int .i64 a.2.1), .v (.int .i64 a.2.2)])
  fun a => some [.v (.bool (numE a.1 == a.2.1 && ((whereE a.1).2 == (a.2.1 != 0)) && (whereE a.1).1 == a.2.2))]
theorem F40_eq (hs : Sents glob p o) (e : Er) (he : e.good = true) (b l : Int) : F40 p o [encE p o e, .v (.int .i64 b), .v (.int .i64 l)] = some [.v (.bool (numE e == b && ((whereE e).2 == (b != 0)) && (whereE e).1 == l))] :=
  liftG_enc (good := fun a : Er × Int × Int => a.1.good = true) (enc := fun a => [encE p o a.1, .v (.int .i64 a.2.1), .v (.int .i64 a.2.2)]) (f := fun a => some [.v (.bool (numE a.1 == a.2.1 && ((whereE a.1).2 == (a.2.1 != 0)) && (whereE a.1).1 == a.2.2))]) (fun a b ha hb h => by
    simp only [List.cons.injEq, D.v.injEq, Value.int.injEq, true_and, and_true] at h
    rw [encE_inj hs.inj _ _ ha hb h.1, h.2.1, h.2.2]) (e, b, l) he
noncomputable def E11 (p : Nat → Addr) (o : Nat → Obj) : Abs := ext (E10 p o) 40 (F40 p o)
theorem E11_ok {m : Int} (hs : Sents glob p o) (h20 : glob 20 = some [.v (.int .i64 m)]) (h19 : glob 19 = some [.ifc 158 (.st [.v (.pointer (some ⟨26, 47, none⟩))])]) : ∀ f, Pure Tryd.prog (mkCtx tab glob) f (E11 p o f) := by
  refine ext_ok (E10_ok hs h20 h19) ?_
  refine pure_of (T_ok glob) (E10_ok hs h20 h19) Tryd.func40 (by kernel_rfl) (kp := kp40) (fr := fr40) (by kernel_rfl) fun ds rs hF => ?_
  obtain ⟨⟨e, b, l⟩, he, rfl, h⟩ := liftG_some hF
  cases h
  exact ⟨0, ev40 hs e he b l⟩
set_option maxHeartbeats 8000000 in
/-- LinesSplit says true. -/
theorem ev8 (hs : Sents glob p o) (text : List UInt8) : fnK (mkCtx tab glob) (E11 p o) kp8 fr8 5005 Tryd.f8 [.s text] = some [.v (.bool true)] := by
  by_cases h1 : 5000 < text.length
  · have h1' : (5000 : Int) < text.length := by omega
    simp [Tryd.f8, E11, E10, E9, E8, E7, h1, h1']
  have h1' : ¬ (5000 : Int) < text.length := by omega
  have hl : text.length < 4294967281 := by omega
  have hl2 : text.length < 4294966000 := by omega
  have hb := phys_bounds text
  have hF := F37_at (sentD p o 2) (sentD p o 6) text (by omega)
  have hG : F39 [.s text] = some (r12D (spConv (if 4000 < text.length then .inr (0, false) else spm (phys text) [] 0))) := by
    simp only [F39, if_pos hl2]
    split
    · rfl
    · rw [r12sp_eq _ _ _ _ (Nat.zero_le _)]
  have hC : FC [.s text] = some [.v (.int .i64 (cmm text 0))] := by simp [FC, hl]
  have hL := FL_at text hl
  unfold spF at hF
  cases hr : (if 4000 < text.length then .inr (0, false) else spm (phys text) [] 0 : List Ln ⊕ (Nat × Bool)) with
  | inr nq =>
    obtain ⟨n, q⟩ := nq
    simp only [hr, spConv, r12D, spD] at hF hG
    cases q with
    | true =>
      have hS : F40 p o [.ifc 75 (.ptr [.v (.int .i64 n), sentD p o 6]), .v (.int .i64 5), .v (.int .i64 n)] = some [.v (.bool true)] := by
        have h := F40_eq hs (.fault n (.sent 6)) rfl 5 n
        rw [show numE (.fault n (.sent 6)) = 5 from rfl] at h
        simpa [whereE, encE, sentD] using h
      simp only [if_true, if_false, Bool.false_eq_true, reduceIte] at hF hG
      simp [Tryd.f8, E11, E10, E9, E8, E7, E6, E5, h1, h1', hF, hG, hS, hL, hC, hl]
      refine loop_rule (R := List D) (σ := Unit) (fun _ => ⟨slots 65 [(0, .d (.s text)), (5, .d (.sl 3 [])), (38, .d (.sl 3 [])), (39, .d (.v (.int .i64 0))), (40, .d (.v (.int .i64 0)))], []⟩) (fun _ => 0) (fun _ => True) (fun _ => some [.v (.bool true)]) () [0, 5, 38, 39, 40] (by simp [kp8]) trivial (by omega) (by simp) ?_
      intro j κ' hj hn he hr'
      simp [he, hL, hC, hl]
    | false =>
      have hS : F40 p o [.ifc 75 (.ptr [.v (.int .i64 n), sentD p o 2]), .v (.int .i64 2), .v (.int .i64 n)] = some [.v (.bool true)] := by
        have h := F40_eq hs (.fault n (.sent 2)) rfl 2 n
        rw [show numE (.fault n (.sent 2)) = 2 from rfl] at h
        simpa [whereE, encE, sentD] using h
      simp only [if_true, if_false, Bool.false_eq_true, reduceIte] at hF hG
      simp [Tryd.f8, E11, E10, E9, E8, E7, E6, E5, h1, h1', hF, hG, hS, hL, hC, hl]
      refine loop_rule (R := List D) (σ := Unit) (fun _ => ⟨slots 65 [(0, .d (.s text)), (5, .d (.sl 3 [])), (38, .d (.sl 3 [])), (39, .d (.v (.int .i64 0))), (40, .d (.v (.int .i64 0)))], []⟩) (fun _ => 0) (fun _ => True) (fun _ => some [.v (.bool true)]) () [0, 5, 38, 39, 40] (by simp [kp8]) trivial (by omega) (by simp) ?_
      intro j κ' hj hn he hr'
      simp [he, hL, hC, hl]
  | inl ls =>
    simp only [hr, spConv, r12D, spD] at hF hG
    have hS := F40_eq hs .none rfl 0 0
    simp [encE, whereE, numE] at hS
    have hlen : ls.length ≤ (phys text).length := by
      split at hr
      · simp at hr
      · obtain ⟨r, e1, e2, e3, e4⟩ := whole_law (phys text) [] 0 ls (Nat.zero_le _) hr
        simp only [List.nil_append] at e1
        subst e1
        omega
    simp [Tryd.f8, E11, E10, E9, E8, E7, E6, E5, h1, h1', hF, hG, hS, hL, hC, hl]
    refine loop_rule (R := List D) (σ := Nat) (fun j => ⟨slots 65 [(0, .d (.s text)), (5, .d (.sl 3 (ls.map encLn))), (38, .d (.sl 3 (ls.map encLn))), (39, .d (.v (.int .i64 ls.length))), (40, .d (.v (.int .i64 j)))], []⟩) (fun j => ls.length - j) (fun j => j ≤ ls.length) (fun _ => some [.v (.bool true)]) 0 [0, 5, 38, 39, 40] (by simp [kp8]) (by omega) (by omega) (by simp) ?_
    intro j κ' hj hn he hr'
    have hw : IntKind.i64.wrap (↑j + 1) = ↑j + 1 := wrap_i64 (by omega) (by omega)
    by_cases hjl : j < ls.length
    · simp [hjl, hw, encLn, fr8]
      exact hn (j + 1) _ (by omega) (by omega) (by simp [encLn])
    · simp [hjl, he, hL, hC, hl]
end Go.Ab
