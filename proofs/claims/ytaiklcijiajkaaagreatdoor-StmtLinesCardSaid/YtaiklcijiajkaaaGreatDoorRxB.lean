/- One text of a proof that a law of this seat says true for every input: words, pieces and statements as the document reads them. It holds of the given program under the conditions that the row prints. -/
import Derived.Test.YtaiklcijiajkaaaGreatDoorRx3
set_option linter.unusedVariables false
set_option linter.unusedSimpArgs false
set_option maxRecDepth 100000
namespace Go.Ab
open Go.Proofs
variable {glob : Nat → Option (List D)}

def FROne : List D → Option (List D)
  | [.s s, .v (.int .i64 i)] => if s.length < 4294967281 ∧ 0 ≤ i ∧ i < s.length then some (pcD (rOne s i.toNat)) else none
  | _ => none
theorem FROne_at (s : List UInt8) (a : Nat) (hl : s.length < 4294967281) (ha : a < s.length) : FROne [.s s, .v (.int .i64 a)] = some (pcD (rOne s a)) := by
  simp only [FROne]
  rw [if_pos ⟨hl, by omega, by omega⟩]
  simp
def RQ4 : Abs := ext RQ3 76 FROne
theorem RQ4_ok : ∀ f, Pure Tryz.prog (mkCtx tab glob) f (RQ4 f) := by
  refine ext_ok RQ3_ok ?_
  refine pure_of (T_ok glob) RQ3_ok Tryz.func76 (by kernel_rfl) (kp := kp76) (fr := fr76) (by kernel_rfl) fun ds rs hF => ?_
  unfold FROne at hF
  split at hF
  · rename_i s i
    split at hF
    · rename_i h
      cases hF
      have := evROne (glob := glob) s i.toNat h.1 (by omega)
      rw [Int.toNat_of_nonneg h.2.1] at this
      exact ⟨_, this⟩
    · simp at hF
  · simp at hF
def rwD : List (List Pc) ⊕ Nat → List D
  | .inl ws => [.sl 1 (ws.map encW), .v (.int .i64 0)]
  | .inr e => [.sl 1 [], .v (.int .i64 e)]
set_option maxHeartbeats 8000000 in
/-- ref13.Words -/
theorem evRWords (s : List UInt8) (hl : s.length < 4294967281) : fnK (mkCtx tab glob) RQ4 kp43 fr43 (s.length + 2) Tryz.f43 [.s s] = some (rwD (rWords s)) := by
  have hEB : RQ4 75 = FP blkB := rfl
  have hEO : RQ4 76 = FROne := rfl
  unfold rWords
  simp [Tryz.f43]
  refine loop_rule (R := List D) (σ := Nat × List Pc × List (List Pc) × Nat) (fun x => ⟨slots 53 [(0, .d (.s s)), (4, .own (1, 10)), (5, .own (1, x.2.2.2)), (6, .d (.v (.int .i64 x.1)))], [((1, x.2.2.2), .tok 4 (x.2.1.map encP)), ((1, 10), .tok 1 (x.2.2.1.map encW))]⟩)
    (fun x => s.length - x.1) (fun x => x.1 ≤ s.length ∧ x.2.1.length ≤ x.1 ∧ x.2.2.1.length ≤ x.1 ∧ (x.2.2.2 = 11 ∨ x.2.2.2 = 27)) (fun x => some (rwD (rW s x.1 x.2.1 x.2.2.1))) (0, [], [], 11) [0, 4, 5, 6] (by simp [kp43]) ⟨by simp, by simp, by simp, by simp⟩ (by simp) (by simp) ?_
  rintro ⟨a, w, out, d⟩ κ' ⟨ha, hwl, hol, hd⟩ hn he hr
  simp only at ha hwl hol hd
  have hw : IntKind.i64.wrap ((a : Int) + 1) = (a : Int) + 1 := wrap_i64 (by omega) (by omega)
  have l1 : w.length + 1 ≤ lim := by unfold lim; omega
  have l2 : out.length + 1 ≤ lim := by unfold lim; omega
  unfold rW
  by_cases hal : a < s.length
  · have hal' : (a : Int) < s.length := by omega
    rw [dif_pos hal]
    have hF := FP_at blkB s[a]
    cases hb : blkB s[a] with
    | true =>
      rw [hb] at hF
      rw [if_pos rfl]
      cases w with
      | nil =>
        simp only [if_true]
        rcases hd with rfl | rfl
        · simp [hal, hal', hEB, hF, hw]
          exact hn (a + 1, [], out, 11) _ ⟨by simp only; omega, by simp, by simp only; omega, .inl rfl⟩ (by simp only; omega) (by simp)
        · simp [hal, hal', hEB, hF, hw]
          exact hn (a + 1, [], out, 27) _ ⟨by simp only; omega, by simp, by simp only; omega, .inr rfl⟩ (by simp only; omega) (by simp)
      | cons x w =>
        have hpos : (0 : Int) < (w.length : Int) + 1 := by omega
        rw [if_neg (by simp)]
        rcases hd with rfl | rfl
        · simp [hal, hal', hEB, hF, hw, hpos, l2]
          exact hn (a + 1, [], out ++ [x :: w], 27) _ ⟨by simp only; omega, by simp, by simp only [List.length_append, List.length_cons, List.length_nil]; omega, .inr rfl⟩ (by simp only; omega) (by simp [encW])
        · simp [hal, hal', hEB, hF, hw, hpos, l2]
          exact hn (a + 1, [], out ++ [x :: w], 27) _ ⟨by simp only; omega, by simp, by simp only [List.length_append, List.length_cons, List.length_nil]; omega, .inr rfl⟩ (by simp only; omega) (by simp [encW])
    | false =>
      rw [hb] at hF
      rw [if_neg (by simp)]
      have hO := FROne_at s a hl hal
      have hg := rOne_gt s a hal hb
      by_cases h0 : (rOne s a).2.2 = 0
      · have hgt := hg.resolve_left (by simpa using h0)
        rw [if_pos h0, dif_pos hgt.1]
        generalize rOne s a = x at *
        obtain ⟨⟨k, t, f, u⟩, x2, x3⟩ := x
        simp only at h0 hgt
        subst h0
        simp only [pcD, encP] at hO
        rcases hd with rfl | rfl
        · simp [hal, hal', hEB, hF, hEO, hO, l1]
          refine hn (x2, w ++ [⟨k, t, f, u⟩], out, 11) _ ?_ ?_ ?_
          · exact ⟨hgt.2, by simp only [List.length_append, List.length_cons, List.length_nil]; omega, by simp only; omega, .inl rfl⟩
          · simp only; omega
          · simp [encP]
        · simp [hal, hal', hEB, hF, hEO, hO, l1]
          refine hn (x2, w ++ [⟨k, t, f, u⟩], out, 27) _ ?_ ?_ ?_
          · exact ⟨hgt.2, by simp only [List.length_append, List.length_cons, List.length_nil]; omega, by simp only; omega, .inr rfl⟩
          · simp only; omega
          · simp [encP]
      · rw [if_neg h0]
        generalize rOne s a = x at *
        obtain ⟨⟨k, t, f, u⟩, x2, x3⟩ := x
        simp only at h0
        simp only [pcD, encP] at hO
        have h0' : ((x3 : Int) != 0) = true := by rw [bne_iff_ne]; omega
        rcases hd with rfl | rfl <;> simp [hal, hal', hEB, hF, hEO, hO, h0', hr, rwD]
  · have hal' : ¬ (a : Int) < s.length := by omega
    rw [dif_neg hal]
    cases w with
    | nil => rcases hd with rfl | rfl <;> simp [hal', he, rwD]
    | cons x w =>
      have hpos : (0 : Int) < (w.length : Int) + 1 := by omega
      rw [if_neg (by simp)]
      rcases hd with rfl | rfl <;> simp [hal', he, rwD, hpos, l2, encW]
set_option maxHeartbeats 8000000 in
/-- ref13.Find -/
theorem evRFind (s sg : List UInt8) (hl : s.length < 4294967281) (hsg : sg.length < 4294967281) : fnK (mkCtx tab glob) RQ4 kp44 fr44 (s.length + sg.length + 2) Tryz.f44 [.s s, .s sg] = some [.v (.int .i64 (rFind s sg 0))] := by
  have hEB : RQ4 75 = FP blkB := rfl
  have hEO : RQ4 76 = FROne := rfl
  simp [Tryz.f44]
  refine loop_rule (R := List D) (σ := Nat) (fun a => ⟨slots 56 [(0, .d (.s s)), (1, .d (.s sg)), (5, .d (.v (.int .i64 a)))], []⟩)
    (fun a => s.length - a) (fun a => a ≤ s.length) (fun a => some [.v (.int .i64 (rFind s sg a))]) 0 [0, 1, 5] (by simp [kp44]) (by omega) (by omega) (by simp) ?_
  intro a κ' ha hn he hr
  have hw : IntKind.i64.wrap ((a : Int) + 1) = (a : Int) + 1 := wrap_i64 (by omega) (by omega)
  unfold rFind
  by_cases hal : a < s.length
  · have hal' : (a : Int) < s.length := by omega
    rw [dif_pos hal]
    have hF := FP_at blkB s[a]
    cases hb : blkB s[a] with
    | true =>
      rw [hb] at hF
      rw [if_pos rfl]
      simp [hal, hal', hEB, hF, hw]
      exact hn (a + 1) _ (by omega) (by omega) (by simp)
    | false =>
      rw [hb] at hF
      rw [if_neg (by simp)]
      have hO := FROne_at s a hl hal
      have hg := rOne_gt s a hal hb
      by_cases h0 : (rOne s a).2.2 = 0
      · have hgt := hg.resolve_left (by simpa using h0)
        rw [if_pos h0, dif_pos hgt.1]
        generalize rOne s a = x at *
        obtain ⟨⟨k, t, f, u⟩, x2, x3⟩ := x
        simp only at h0 hgt ⊢
        subst h0
        simp only [pcD, encP] at hO
        obtain ⟨Q, hQ⟩ : ∃ Q : Int, (if k = 0 then (match (subs s a x2).findIdx? (sg.contains ·) with | some i => (a : Int) + i | none => rFind s sg x2) else rFind s sg x2) = Q := ⟨_, rfl⟩
        have hQ' : ∀ z : Option (List D), z = some [.v (.int .i64 Q)] → z = some [.v (.int .i64 (if k = 0 then (match (subs s a x2).findIdx? (sg.contains ·) with | some i => (a : Int) + i | none => rFind s sg x2) else rFind s sg x2))] := fun z hz => by rw [hQ]; exact hz
        refine hQ' _ ?_
        have hfin : (k ≠ 0 ∨ (k = 0 ∧ (subs s a x2).findIdx? (sg.contains ·) = none)) → rFind s sg x2 = Q := by
          rintro (h | ⟨h, h'⟩)
          · rw [if_neg h] at hQ
            exact hQ
          · rw [if_pos h, h'] at hQ
            exact hQ
        have hlen := subs_len s a x2 hgt.2
        have hget : ∀ j (h : j < (subs s a x2).length), (subs s a x2)[j] = s[a + j]'(by omega) := fun j h => by simp [subs]
        simp [hal, hal', hEB, hF, hEO, hO]
        refine loop_rule (R := List D) (σ := Nat) (fun i => ⟨slots 56 [(0, .d (.s s)), (1, .d (.s sg)), (6, .ref (1, 6) 0), (7, .d (.v (.int .i64 x2))), (9, .d (.v (.int .i64 i)))], [((1, 6), .box [.d (.v (.int .i64 k)), .d (.s t), .d (.s f), .d (.s u)])]⟩)
          (fun i => x2 - i) (fun i => a ≤ i ∧ i ≤ x2 ∧ (k ≠ 0 → i = a) ∧ ∀ j, a ≤ j → j < i → ∀ h : j < s.length, sg.contains s[j] = false) (fun _ => some [.v (.int .i64 Q)]) a [0, 1, 6, 7, 9] (by simp [kp44]) ⟨Nat.le_refl _, by omega, fun _ => rfl, fun j h1 h2 => by omega⟩ (by omega) (by simp) ?_
        rintro i κ2 ⟨hai, hix, hka, hpre⟩ hn2 he2 hr2
        have hwi : IntKind.i64.wrap ((i : Int) + 1) = (i : Int) + 1 := wrap_i64 (by omega) (by omega)
        by_cases hix2 : i < x2
        · have hix' : (i : Int) < x2 := by omega
          have his : i < s.length := by omega
          by_cases hk : k = 0
          · subst hk
            simp [hix', hix2]
            refine loop_rule (R := List D) (σ := Nat) (fun q => ⟨slots 56 [(0, .d (.s s)), (1, .d (.s sg)), (6, .ref (1, 6) 0), (7, .d (.v (.int .i64 x2))), (9, .d (.v (.int .i64 i))), (10, .d (.v (.int .i64 q)))], [((1, 6), .box [.d (.v (.int .i64 0)), .d (.s t), .d (.s f), .d (.s u)])]⟩)
              (fun q => sg.length - q) (fun q => q ≤ sg.length ∧ ∀ j, j < q → ∀ h : j < sg.length, s[i] ≠ sg[j]) (fun _ => some [.v (.int .i64 Q)]) 0 [0, 1, 6, 7, 9, 10] (by simp [kp44]) ⟨Nat.zero_le _, fun j h => by omega⟩ (by omega) (by simp) ?_
            rintro q κ3 ⟨hq, hpq⟩ hn3 he3 hr3
            have hwq : IntKind.i64.wrap ((q : Int) + 1) = (q : Int) + 1 := wrap_i64 (by omega) (by omega)
            by_cases hql : q < sg.length
            · have hql' : (q : Int) < sg.length := by omega
              have hcmp : ((s[i].toNat : Int) == (sg[q].toNat : Int)) = decide (s[i] = sg[q]) := by
                rw [Bool.eq_iff_iff]
                simp only [beq_iff_eq, decide_eq_true_eq]
                constructor
                · intro h
                  exact UInt8.toNat_inj.1 (by omega)
                · intro h
                  rw [h]
              by_cases heq : s[i] = sg[q]
              · rw [decide_eq_true heq] at hcmp
                have hfi : (subs s a x2).findIdx? (sg.contains ·) = some (i - a) := by
                  rw [List.findIdx?_eq_some_iff_getElem]
                  refine ⟨by omega, ?_, fun j hj => ?_⟩
                  · rw [hget]
                    simp only [show a + (i - a) = i from by omega, heq]
                    simp
                  · rw [hget]
                    rw [hpre (a + j) (by omega) (by omega) (by omega)]
                    simp
                rw [if_pos rfl, hfi] at hQ
                simp only at hQ
                have hQi : Q = i := by omega
                simp [hql, hql', his, fr44, hcmp, hr3, hr2, hr, hQi]
              · rw [decide_eq_false heq] at hcmp
                simp [hql, hql', his, fr44, hcmp, hwq]
                exact hn3 (q + 1) _ ⟨by omega, fun j hj h => by
                  rcases Nat.lt_or_ge j q with h1 | h1
                  · exact hpq j h1 h
                  · obtain rfl : j = q := by omega
                    exact heq⟩ (by omega) (by simp)
            · have hql' : ¬ (q : Int) < sg.length := by omega
              have hnc : sg.contains s[i] = false := by
                rw [Bool.eq_false_iff]
                intro hc
                obtain ⟨j, hj, hje⟩ := List.getElem_of_mem (List.contains_iff_mem.1 hc)
                exact hpq j (by omega) hj hje.symm
              simp [hql', he3, hwi]
              exact hn2 (i + 1) _ ⟨by omega, by omega, fun h => absurd rfl h, fun j h1 h2 h => by
                rcases Nat.lt_or_ge j i with h3 | h3
                · exact hpre j h1 h3 h
                · obtain rfl : j = i := by omega
                  exact hnc⟩ (by omega) (by simp)
          · have hk' : ((k : Int) == 0) = false := by rw [beq_eq_false_iff_ne]; omega
            rw [← hfin (.inl hk)]
            simp [hix', hix2, hk, hk', he2]
            exact hn x2 _ hgt.2 (by omega) (by simp)
        · have hix' : ¬ (i : Int) < x2 := by omega
          have hk0 : k = 0 := by
            by_cases hk : k = 0
            · exact hk
            · have := hka hk
              omega
          have hnone : (subs s a x2).findIdx? (sg.contains ·) = none := by
            rw [List.findIdx?_eq_none_iff]
            intro b hb'
            obtain ⟨j, hj, rfl⟩ := List.getElem_of_mem hb'
            rw [hget]
            exact hpre (a + j) (by omega) (by omega) (by omega)
          rw [← hfin (.inr ⟨hk0, hnone⟩)]
          simp [hix', he2]
          exact hn x2 _ hgt.2 (by omega) (by simp)
      · rw [if_neg h0]
        generalize rOne s a = x at *
        obtain ⟨⟨k, t, f, u⟩, x2, x3⟩ := x
        simp only at h0
        simp only [pcD, encP] at hO
        have h0' : ((x3 : Int) != 0) = true := by rw [bne_iff_ne]; omega
        simp [hal, hal', hEB, hF, hEO, hO, h0', hr]
  · have hal' : ¬ (a : Int) < s.length := by omega
    rw [dif_neg hal]
    simp [hal', he]
end Go.Ab

set_option linter.unusedVariables false
set_option linter.unusedSimpArgs false
set_option maxRecDepth 100000
namespace Go.Ab
open Go.Proofs
variable {glob : Nat → Option (List D)}

def gapC (b : UInt8) : Bool := gaps.contains b
/-- A byte's number. -/
def FV : List D → Option (List D)
  | [.v (.int .u8 n)] => if 0 ≤ n ∧ n < 256 then some [.v (.int .i64 (valB (UInt8.ofNat n.toNat)))] else none
  | _ => none
theorem FV_at (b : UInt8) : FV [.v (.int .u8 b.toNat)] = some [.v (.int .i64 (valB b))] := by
  have := b.toNat_lt
  simp only [FV]
  rw [if_pos (by omega)]
  simp
def chkV (T : Ctx) (E : Abs) (kp fr : Nat → List Nat) (f : Func) : Bool := (List.range 256).all fun n => match fnK T E kp fr 0 f [.v (.int .u8 n)] with
  | some [.v (.int .i64 x)] => x == (valB (UInt8.ofNat n) : Int)
  | _ => false
theorem chkV_ok {T : Ctx} {E : Abs} {kp fr : Nat → List Nat} {f : Func} (h : chkV T E kp fr f = true) (ds rs : List D) (hF : FV ds = some rs) : ∃ n, fnK T E kp fr n f ds = some rs := by
  unfold FV at hF
  split at hF
  · rename_i n
    split at hF
    · rename_i hn
      cases hF
      have := List.all_eq_true.1 h n.toNat (List.mem_range.2 (by omega))
      rw [Int.toNat_of_nonneg hn.1] at this
      split at this
      · rename_i x hx
        exact ⟨0, by rw [hx, beq_iff_eq.1 this]⟩
      · simp at this
    · simp at hF
  · simp at hF
def FHas : List D → Option (List D)
  | [.st [.v (.int .i64 f), .s q], .v (.int .i64 v)] => if 0 ≤ f ∧ f < 256 ∧ 0 < v ∧ v < 256 then some [.v (.bool (decide (f.toNat / v.toNat % 2 = 1)))] else none
  | _ => none
theorem FHas_at (f v : Nat) (q : List UInt8) (hf : f < 256) (h0 : 0 < v) (hv : v < 256) : FHas [.st [.v (.int .i64 f), .s q], .v (.int .i64 v)] = some [.v (.bool (decide (f / v % 2 = 1)))] := by
  simp only [FHas]
  rw [if_pos (by omega)]
  simp
set_option maxHeartbeats 4000000 in
theorem evHas (E : Abs) (f v : Nat) (q : List UInt8) (hf : f < 256) (h0 : 0 < v) (hv : v < 256) : fnK (mkCtx tab glob) E kp79 fr79 0 Tryz.f79 [.st [.v (.int .i64 f), .s q], .v (.int .i64 v)] = some [.v (.bool (decide (f / v % 2 = 1)))] := by
  have hv' : ¬ v = 0 := by omega
  have hle : f / v ≤ f := Nat.div_le_self f v
  have hq : (f : Int) / (v : Int) = ((f / v : Nat) : Int) := (Int.natCast_ediv f v).symm
  generalize f / v = g at *
  have hw : IntKind.i64.wrap (g : Int) = (g : Int) := wrap_i64 (by omega) (by omega)
  have hm : (g : Int).tmod 2 = ((g % 2 : Nat) : Int) := by
    rw [show (2 : Int) = ((2 : Nat) : Int) from rfl, ← Int.ofNat_tmod]
  have he : (((g % 2 : Nat) : Int) == 1) = decide (g % 2 = 1) := by
    rw [Bool.eq_iff_iff]
    simp only [beq_iff_eq, decide_eq_true_eq]
    omega
  generalize hg : g % 2 = g2 at *
  simp [Tryz.f79, hv', hq, hw, hm, he]
theorem ck_rgap (glob : Nat → Option (List D)) : chkP (mkCtx tab glob) (fun _ _ => none) kp42 fr42 Tryz.f42 gapC = true := by kernel_rfl
theorem ck_rval (glob : Nat → Option (List D)) : chkV (mkCtx tab glob) (fun _ _ => none) kp78 fr78 Tryz.f78 = true := by kernel_rfl
def RQ5 : Abs := ext (ext (ext RQ4 42 (FP gapC)) 78 FV) 79 FHas
theorem RQ5_ok : ∀ f, Pure Tryz.prog (mkCtx tab glob) f (RQ5 f) := by
  refine ext_ok (ext_ok (ext_ok RQ4_ok ?_) ?_) ?_
  · exact pure_of (T_ok glob) none_ok Tryz.func42 (by kernel_rfl) (kp := kp42) (fr := fr42) (by kernel_rfl) (chkP_ok (ck_rgap glob))
  · exact pure_of (T_ok glob) none_ok Tryz.func78 (by kernel_rfl) (kp := kp78) (fr := fr78) (by kernel_rfl) (chkV_ok (ck_rval glob))
  · refine pure_of (T_ok glob) none_ok Tryz.func79 (by kernel_rfl) (kp := kp79) (fr := fr79) (by kernel_rfl) fun ds rs hF => ?_
    unfold FHas at hF
    split at hF
    · rename_i f q v
      split at hF
      · rename_i h
        cases hF
        have := evHas (glob := glob) (fun _ _ => none) f.toNat v.toNat q (by omega) (by omega) (by omega)
        rw [Int.toNat_of_nonneg h.1, Int.toNat_of_nonneg (by omega : 0 ≤ v)] at this
        exact ⟨_, this⟩
      · simp at hF
    · simp at hF
def raD : (Nat × List UInt8) ⊕ Nat → List D
  | .inl (f, q) => [.st [.v (.int .i64 f), .s q], .v (.int .i64 0)]
  | .inr e => [.st [.v (.int .i64 0), .s []], .v (.int .i64 e)]
theorem valB_lt : ∀ n, n < 256 → valB (UInt8.ofNat n) ≤ 128 := by decide +kernel
theorem valB_has : ∀ f, f < 256 → ∀ n, n < 256 → valB (UInt8.ofNat n) ≠ 0 → ¬ f / valB (UInt8.ofNat n) % 2 = 1 → f + valB (UInt8.ofNat n) < 256 := by
  have key : ∀ f, f < 256 → ∀ b, b < 8 → ¬ f / (1 <<< b) % 2 = 1 → f + (1 <<< b) < 256 := by decide +kernel
  intro f hf n hn h0 h1
  have hp : ∀ n, n < 256 → valB (UInt8.ofNat n) ≠ 0 → ∃ b, b < 8 ∧ valB (UInt8.ofNat n) = 1 <<< b := by decide +kernel
  obtain ⟨b, hb, e⟩ := hp n hn h0
  rw [e] at h1 ⊢
  exact key f hf b hb h1
set_option maxHeartbeats 8000000 in
/-- ref18.Parse -/
theorem evRAttr (s : List UInt8) (hl : s.length < 4294967281) : fnK (mkCtx tab glob) RQ5 kp46 fr46 (s.length + 2) Tryz.f46 [.s s] = some (raD (rAttr s 0)) := by
  have hEV : RQ5 78 = FV := rfl
  have hEH : RQ5 79 = FHas := rfl
  simp [Tryz.f46]
  refine loop_rule (R := List D) (σ := List UInt8 × Nat) (fun x => ⟨slots 43 [(0, .d (.s x.1)), (2, .ref (1, 2) 0), (4, .ref (1, 4) 0)], [((1, 4), .box [.d (.v (.int .i64 x.2)), .d (.s [])]), ((1, 2), .box [.d (.v (.int .i64 0)), .d (.s [])])]⟩)
    (fun x => x.1.length) (fun x => x.1.length < 4294967281 ∧ x.2 < 256) (fun x => some (raD (rAttr x.1 x.2))) (s, 0) [0, 2, 4] (by simp [kp46]) ⟨hl, by simp⟩ (by simp only; omega) (by simp) ?_
  rintro ⟨l, f⟩ κ' ⟨hll, hf⟩ hn he hr
  simp only at hll hf
  cases l with
  | nil => simp [he, rAttr, raD]
  | cons b r =>
    have hp : (0 : Int) < (r.length : Int) + 1 := by omega
    have c1 : (1 : Int) ≤ (r.length : Int) + 1 := by omega
    simp only [rAttr]
    by_cases h80 : b = 80
    · subst h80
      rw [if_pos rfl]
      cases r with
      | nil => simp [hr, raD]
      | cons c r =>
        have h1 : ((r.length : Int) + 1 + 1 == 1) = false := by rw [beq_eq_false_iff_ne]; omega
        have hp' : (0 : Int) < (r.length : Int) + 1 + 1 := by omega
        have c1' : (1 : Int) ≤ (r.length : Int) + 1 + 1 := by omega
        rw [if_neg (by simp)]
        by_cases h121 : 121 < (c :: r).length + 1
        · have h' : (121 : Int) < (r.length : Int) + 1 + 1 := by simp only [List.length_cons] at h121; omega
          rw [if_pos h121]
          simp [hp', h1, h', hr, raD]
        · have h' : ¬ (121 : Int) < (r.length : Int) + 1 + 1 := by simp only [List.length_cons] at h121; omega
          rw [if_neg h121]
          have t1 : ((r.length : Int) + 1 + 1).toNat = r.length + 2 := by omega
          simp [hp', h1, h', c1', hr, raD, t1]
    · rw [if_neg h80]
      have hV := FV_at b
      have v1 := byte_all (P := fun b => valB b ≤ 128) valB_lt b
      have v2 := byte_all (P := fun b => valB b ≠ 0 → ¬ f / valB b % 2 = 1 → f + valB b < 256) (fun n hn => valB_has f hf n hn) b
      generalize valB b = v at *
      by_cases hv : v = 0
      · subst hv
        rw [if_pos rfl]
        simp [hp, h80, hEV, hV, hr, raD]
      · rw [if_neg hv]
        have hv' : ((v : Int) == 0) = false := by rw [beq_eq_false_iff_ne]; omega
        have hH := FHas_at f v [] hf (by omega) (by omega)
        have hw : IntKind.i64.wrap ((f : Int) + v) = (f : Int) + v := wrap_i64 (by omega) (by omega)
        simp only [List.length_cons] at hll
        by_cases hb : f / v % 2 = 1
        · rw [decide_eq_true hb] at hH
          rw [if_pos hb]
          simp [hp, h80, hEV, hV, hv', hEH, hH, c1]
          exact hn (r, f) _ ⟨by simp only; omega, hf⟩ (by simp) (by simp)
        · rw [decide_eq_false hb] at hH
          rw [if_neg hb]
          simp [hp, h80, hEV, hV, hv', hEH, hH, c1, hw]
          exact hn (r, f + v) _ ⟨by simp only; omega, v2 hv hb⟩ (by simp) (by simp)
end Go.Ab

set_option linter.unusedVariables false
set_option linter.unusedSimpArgs false
set_option maxRecDepth 100000
namespace Go.Ab
open Go.Proofs
variable {glob : Nat → Option (List D)}

theorem gapC_eq (b : UInt8) : gapC b = gapB b := congrFun gap_contains b
theorem subs_snoc (s : List UInt8) (i j : Nat) (hij : i ≤ j) (h : j < s.length) : subs s i (j + 1) = subs s i j ++ [s[j]] := by
  unfold subs
  rw [List.take_succ_eq_append_getElem h, List.drop_append_of_le_length (by simp; omega)]
set_option maxHeartbeats 4000000 in
/-- ref19.Trim -/
theorem evRTrim (s : List UInt8) (hl : s.length < 4294967281) : fnK (mkCtx tab glob) RQ5 kp21 fr21 (s.length + 2) Tryz.f21 [.s s] = some [.s (trimG s)] := by
  have hEG : RQ5 42 = FP gapC := rfl
  unfold trimG
  rw [trimS_eq]
  simp [Tryz.f21]
  refine loop_rule (R := List D) (σ := Nat) (fun i => ⟨slots 34 [(0, .d (.s s)), (3, .d (.v (.int .i64 i))), (4, .d (.v (.int .i64 s.length)))], []⟩) (fun i => s.length - i) (fun i => i ≤ s.length) (fun i => some [.s (trimR ((s.drop i).dropWhile gapB))]) 0 [0, 3, 4] (by simp [kp21]) (by omega) (by omega) (by simp) ?_
  intro i κ' hi hn he hr
  have hw : IntKind.i64.wrap ((i : Int) + 1) = (i : Int) + 1 := wrap_i64 (by omega) (by omega)
  have key : ∀ s1 : St, s1.keep [0, 3, 4] some = some ⟨slots 34 [(0, .d (.s s)), (3, .d (.v (.int .i64 i))), (4, .d (.v (.int .i64 s.length)))], []⟩ → κ' (.exit 0) s1 = some [.s (trimR (s.drop i))] := by
    rintro ⟨t1, o1⟩ hs1
    rw [he]
    simp
    have e0 : s.drop i = subs s i s.length := by unfold subs; rw [List.take_length]
    rw [e0]
    refine loop_rule (R := List D) (σ := Nat) (fun j => ⟨slots 34 [(0, .d (.s s)), (3, .d (.v (.int .i64 i))), (4, .d (.v (.int .i64 j)))], []⟩) (fun j => j) (fun j => i ≤ j ∧ j ≤ s.length) (fun j => some [.s (trimR (subs s i j))]) s.length [0, 3, 4] (by simp [kp21]) ⟨hi, Nat.le_refl _⟩ (by omega) hs1 ?_
    rintro j κ2 ⟨hij, hj⟩ hn2 he2 hr2
    by_cases hlt : i < j
    · obtain ⟨j, rfl⟩ : ∃ j', j = j' + 1 := ⟨j - 1, by omega⟩
      have hjl : j < s.length := by omega
      have c0 : (i : Int) < (j : Int) + 1 := by omega
      have c1 : (i : Int) ≤ (j : Int) + 1 := by omega
      have c2 : (j : Int) + 1 ≤ s.length := by omega
      have c3 : ((j : Int) + 1).toNat = j + 1 := by omega
      have hw1 : IntKind.i64.wrap (j : Int) = j := wrap_i64 (by omega) (by omega)
      have hF := FP_at gapC s[j]
      rw [subs_snoc s i j (by omega) hjl, trimR_snoc]
      rw [gapC_eq] at hF
      cases hb : gapB s[j] with
      | true =>
        rw [hb] at hF
        rw [if_pos rfl]
        simp [c0, hw1, hjl, hEG, hF]
        exact hn2 j _ ⟨by omega, by omega⟩ (by omega) (by simp)
      | false =>
        rw [hb] at hF
        rw [if_neg (by simp), ← subs_snoc s i j (by omega) hjl]
        unfold subs
        simp [c0, c1, c2, c3, hw1, hjl, hEG, hF, he2]
    · have : j = i := by omega
      subst this
      rw [subs_nil s j j (Nat.le_refl _)]
      have c2 : (j : Int) ≤ s.length := by omega
      have e1 : (s.take j).drop j = [] := subs_nil s j j (Nat.le_refl _)
      simp [he2, c2, e1, trimR]
  by_cases hil : i < s.length
  · have hil' : (i : Int) < s.length := by omega
    have hF := FP_at gapC s[i]
    rw [gapC_eq] at hF
    rw [List.drop_eq_getElem_cons hil]
    cases hb : gapB s[i] with
    | true =>
      rw [hb] at hF
      simp [hil, hil', hEG, hF, hw, List.dropWhile, hb]
      exact hn (i + 1) _ (by omega) (by omega) (by simp)
    | false =>
      rw [hb] at hF
      have e : (s[i] :: s.drop (i + 1)).dropWhile gapB = s.drop i := by
        rw [List.drop_eq_getElem_cons hil]
        simp [List.dropWhile, hb]
      rw [e]
      simp [hil, hil', hEG, hF]
      exact key _ (by simp)
  · have hil' : ¬ (i : Int) < s.length := by omega
    have e : (s.drop i).dropWhile gapB = s.drop i := by
      rw [List.drop_eq_nil_of_le (by omega)]
      rfl
    rw [e]
    simp [hil']
    exact key _ (by simp)
end Go.Ab
