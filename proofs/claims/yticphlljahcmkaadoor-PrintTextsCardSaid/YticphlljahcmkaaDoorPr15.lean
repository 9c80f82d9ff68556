/- One text of a proof that a law of this seat says true for every input: printed rules. It holds of the given program under the conditions that the row prints. -/
import Derived.Test.YticphlljahcmkaaDoorPr14
import Derived.Test.YticphlljahcmkaaDoorLn17
set_option linter.unusedVariables false
set_option linter.unusedSimpArgs false
set_option maxRecDepth 100000
namespace Go.Ab
open Go.Proofs
variable {glob : Nat → Option (List D)} {p : Nat → Addr} {o : Nat → Obj}

noncomputable def F29 : List D → Option (List D) := liftR fun r => some (if checkS r = 0 then [.s (ruleS r), .v (.int .i64 0)] else [.s [], .v (.int .i64 (numC (checkS r)))])
noncomputable def ER3 : Abs := ext (fun _ _ => none) 29 F29
theorem ER3_ok : ∀ f, Pure Tryd.prog (mkCtx tab glob) f (ER3 f) := by
  refine ext_ok none_ok ?_
  refine pure_of (T_ok glob) ER2_ok Tryd.func29 (by kernel_rfl) (kp := kp29) (fr := fr29) (by kernel_rfl) fun ds rs hF => ?_
  obtain ⟨r, hr, rfl, h⟩ := liftR_some hF
  cases h
  exact ⟨_, ev29 r hr⟩
theorem check_le (r : Rl) : checkS r ≤ 3 := by
  unfold checkS
  repeat' split
  all_goals omega
theorem textS_le : ∀ (rs : List Rl) (out : List UInt8), (textS rs out).2 ≤ 3
  | [], out => by
    simp only [textS]
    split <;> simp
  | r :: rs, out => by
    simp only [textS]
    split
    · exact textS_le rs _
    · exact check_le r
theorem numC_ne : ∀ c, c ≤ 3 → c ≠ 0 → numC c ≠ 0 := by decide
set_option maxHeartbeats 8000000 in
/-- ref40.Text -/
theorem ev34 (rs : List Rl) (h : ∀ r ∈ rs, r.good) (hn : rs.length ≤ 30) : fnK (mkCtx tab glob) ER3 kp34 fr34 (rs.length + 2) Tryd.f34 [.sl 7 (rs.map Rl.enc)] =
    some (if 24 < rs.length then [.s [], .v (.int .i64 10)] else [.s (textS rs []).1, .v (.int .i64 (numC (textS rs []).2))]) := by
  by_cases hl : 24 < rs.length
  · have hl' : (24 : Int) < rs.length := by omega
    simp [Tryd.f34, ER3, hl, hl']
  · have hl' : ¬ (24 : Int) < rs.length := by omega
    simp [Tryd.f34, ER3, hl, hl']
    refine loop_rule (R := List D) (σ := Nat × List UInt8) (fun x => ⟨slots 35 [(4, .d (.s x.2)), (12, .d (.sl 7 (rs.map Rl.enc))), (13, .d (.v (.int .i64 rs.length))), (14, .d (.v (.int .i64 x.1)))], []⟩) (fun x => rs.length - x.1) (fun x => x.1 ≤ rs.length ∧ x.2.length ≤ x.1 * 40001)
      (fun x => some [.s (textS (rs.drop x.1) x.2).1, .v (.int .i64 (numC (textS (rs.drop x.1) x.2).2))]) (0, []) [4, 12, 13, 14] (by simp [kp34]) (by simp) (by simp) (by simp) ?_
    rintro ⟨j, out⟩ κ' ⟨hjl, hol⟩ hnx he hr
    simp only at hjl hol hnx he hr ⊢
    have hw : IntKind.i64.wrap (↑j + 1) = ↑j + 1 := wrap_i64 (by omega) (by omega)
    by_cases hj : j < rs.length
    · have hd : rs.drop j = rs[j] :: rs.drop (j + 1) := List.drop_eq_getElem_cons hj
      have hg := h rs[j] (List.getElem_mem hj)
      have a1 : F29 [rs[j].enc] = some (if checkS rs[j] = 0 then [.s (ruleS rs[j]), .v (.int .i64 0)] else [.s [], .v (.int .i64 (numC (checkS rs[j])))]) := liftR_enc _ hg
      have hrl := ruleS_le rs[j] hg
      have hck := check_le rs[j]
      rw [hd]
      simp only [textS]
      generalize hr0 : rs[j] = r at *
      generalize ruleS r = tx at *
      generalize hcc : checkS r = c at *
      have e1 : tx.length + 1 ≤ lim := by unfold lim; omega
      have e2 : out.length + (tx.length + 1) ≤ lim := by unfold lim; omega
      obtain ⟨tg, pr, fl, pg, rc, fi, ln⟩ := r
      simp only [Rl.enc] at a1
      by_cases hc0 : c = 0
      · subst hc0
        simp only [if_true] at a1
        simp [hj, hr0, Rl.enc, a1, e1, e2, hw]
        exact hnx (j + 1, out ++ (tx ++ [10])) _ ⟨by omega, by simp; omega⟩ (by simp; omega) (by simp [Rl.enc])
      · rw [if_neg hc0] at a1
        have hne := numC_ne c hck hc0
        have hne2 : (numC c != 0) = true := by simpa using hne
        simp [hj, hr0, Rl.enc, a1, hc0, hne, hne2, hr]
    · have hj2 : j = rs.length := by omega
      subst hj2
      rw [List.drop_length]
      simp only [textS]
      by_cases ho : 4000 < out.length
      · have ho' : (4000 : Int) < out.length := by omega
        simp [he, ho, ho', numC]
      · have ho' : ¬ (4000 : Int) < out.length := by omega
        simp [he, ho, ho', numC]
/-- the chapter's example -/
def exR : Rl := ⟨[[97]], [[98], [99]], 128, [], [120, 10], [], 0⟩
theorem exR_good : exR.good := ⟨by decide, by decide, by decide, by decide, by decide, by decide⟩
theorem exR_check : checkS exR = 0 := by kernel_rfl
theorem exR_text : ruleS exR = [97, 58, 86, 58, 32, 98, 32, 99, 10, 9, 120, 10] := by kernel_rfl
theorem ev23 : fnK (mkCtx tab glob) (EP4 p o) kp23 fr23 0 Tryd.f23 [] = some [.v (.bool true)] := by
  have a1 : F28 p o [exR.enc] = some (if checkS exR = 0 then [.s (ruleS exR), .v .nilIface] else [.s [], errD p o (checkS exR)]) := liftR_enc _ exR_good
  rw [if_pos exR_check, exR_text] at a1
  simp only [exR, Rl.enc, List.map_cons, List.map_nil] at a1
  have hr : ([0, 1] : List Nat) = List.range 2 := by decide
  simp [Tryd.f23, EP4, a1, hr]

theorem map_enc_inj : ∀ {a b : List Rl}, a.map Rl.enc = b.map Rl.enc → a = b
  | [], [], _ => rfl
  | [], _ :: _, h => by simp at h
  | _ :: _, [], h => by simp at h
  | x :: a, y :: b, h => by
    simp only [List.map_cons, List.cons.injEq] at h
    rw [Rl.enc_inj h.1, map_enc_inj h.2]
noncomputable def liftRs (good : List Rl → Prop) (f : List Rl → Option (List D)) : List D → Option (List D) := liftG good (fun rs => [.sl 7 (rs.map Rl.enc)]) f
theorem liftRs_enc {good : List Rl → Prop} {f : List Rl → Option (List D)} (rs : List Rl) (h : good rs) : liftRs good f [.sl 7 (rs.map Rl.enc)] = f rs :=
  liftG_enc (good := good) (enc := fun rs => [.sl 7 (rs.map Rl.enc)]) (f := f) (fun a b _ _ h => by
    simp only [List.cons.injEq, D.sl.injEq, true_and, and_true] at h
    rw [map_enc_inj h]) rs h
theorem liftRs_some {good : List Rl → Prop} {f : List Rl → Option (List D)} {ds rs : List D} (h : liftRs good f ds = some rs) : ∃ l : List Rl, good l ∧ [.sl 7 (l.map Rl.enc)] = ds ∧ f l = some rs := liftG_some h
def bigs (rs : List Rl) : Prop := (∀ r ∈ rs, r.big) ∧ rs.length ≤ 9223372036854775807
def goods (rs : List Rl) : Prop := (∀ r ∈ rs, r.good) ∧ rs.length ≤ 30
def F23 : List D → Option (List D)
  | [] => some [.v (.bool true)]
  | _ => none
noncomputable def F24 : List D → Option (List D) := liftRs bigs fun rs => some [.v (.bool (decide (30 < rs.length) || rs.any longR))]
noncomputable def F27 : List D → Option (List D) := liftRs goods fun rs => some [.sl 7 (rs.map Rl.enc)]
noncomputable def F33 (p : Nat → Addr) (o : Nat → Obj) : List D → Option (List D) := liftRs goods fun rs => some (if 24 < rs.length then [.s [], errD p o 1] else [.s (textS rs []).1, errD p o (textS rs []).2])
noncomputable def F34 : List D → Option (List D) := liftRs goods fun rs => some (if 24 < rs.length then [.s [], .v (.int .i64 10)] else [.s (textS rs []).1, .v (.int .i64 (numC (textS rs []).2))])
noncomputable def EZ (p : Nat → Addr) (o : Nat → Obj) : Abs := ext (ext (ext (ext (ext (ext (ext (ext (ext (ext (fun _ _ => none) 23 F23) 24 F24) 27 F27) 28 (F28 p o)) 29 F29) 30 (F30 p o)) 31 F31) 32 F32) 33 (F33 p o)) 34 F34
theorem EZ_ok {m : Int} (hs : Sents glob p o) (h20 : glob 20 = some [.v (.int .i64 m)]) : ∀ f, Pure Tryd.prog (mkCtx tab glob) f (EZ p o f) := by
  have h4 := EP4_ok hs h20
  refine ext_ok (ext_ok (ext_ok (ext_ok (ext_ok (ext_ok (ext_ok (ext_ok (ext_ok (ext_ok none_ok ?_) ?_) ?_) (h4 28)) (ER3_ok 29)) ?_) ((EP2_ok h20) 31)) (ER2_ok 32)) ?_) ?_
  · refine pure_of (T_ok glob) h4 Tryd.func23 (by kernel_rfl) (kp := kp23) (fr := fr23) (by kernel_rfl) fun ds rs hF => ?_
    unfold F23 at hF
    split at hF
    · cases hF
      exact ⟨0, ev23⟩
    · simp at hF
  · refine pure_of (T_ok glob) (ext_ok none_ok F13_ok) Tryd.func24 (by kernel_rfl) (kp := kp24) (fr := fr24) (by kernel_rfl) fun ds rs hF => ?_
    obtain ⟨l, hl, rfl, h⟩ := liftRs_some hF
    cases h
    exact ⟨_, ev24 l hl.1 hl.2⟩
  · refine pure_of (T_ok glob) ER0_ok Tryd.func27 (by kernel_rfl) (kp := kp27) (fr := fr27) (by kernel_rfl) fun ds rs hF => ?_
    obtain ⟨l, hl, rfl, h⟩ := liftRs_some hF
    cases h
    exact ⟨_, ev27 l hl.2⟩
  · refine pure_of (T_ok glob) (U62_ok hs) Tryd.func30 (by kernel_rfl) (kp := kp30) (fr := fr30) (by kernel_rfl) fun ds rs hF => ?_
    obtain ⟨e, he, rfl, h⟩ := liftG_some hF
    cases h
    exact ⟨20, ev30 hs e he⟩
  · refine pure_of (T_ok glob) h4 Tryd.func33 (by kernel_rfl) (kp := kp33) (fr := fr33) (by kernel_rfl) fun ds rs hF => ?_
    obtain ⟨l, hl, rfl, h⟩ := liftRs_some hF
    cases h
    exact ⟨_, ev33 hs l hl.1 hl.2⟩
  · refine pure_of (T_ok glob) ER3_ok Tryd.func34 (by kernel_rfl) (kp := kp34) (fr := fr34) (by kernel_rfl) fun ds rs hF => ?_
    obtain ⟨l, hl, rfl, h⟩ := liftRs_some hF
    cases h
    exact ⟨_, ev34 l hl.1 hl.2⟩
end Go.Ab
