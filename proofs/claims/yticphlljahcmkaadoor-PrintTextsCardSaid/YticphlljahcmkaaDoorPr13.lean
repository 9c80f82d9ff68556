/- One text of a proof that a law of this seat says true for every input: printed rules. It holds of the given program under the conditions that the row prints. -/
import Derived.Test.YticphlljahcmkaaDoorPr12
set_option linter.unusedVariables false
set_option linter.unusedSimpArgs false
set_option maxRecDepth 100000
namespace Go.Ab
open Go.Proofs
variable {glob : Nat → Option (List D)} {p : Nat → Addr} {o : Nat → Obj}

/-- millwrightlaw40.long -/
def longR (r : Rl) : Bool := longL r.tg 50 140 || longL r.pr 50 140 || decide (1200 < r.rc.length) || decide (100 < r.fi.length) || decide (200 < r.pg.length)
def Rl.big (r : Rl) : Prop := r.tg.length ≤ 9223372036854775807 ∧ r.pr.length ≤ 9223372036854775807
theorem good_of (r : Rl) (h : longR r = false) : r.good := by
  simp only [longR, longL, Bool.or_eq_false_iff, decide_eq_false_iff_not, Nat.not_lt, List.any_eq_false, decide_eq_true_eq] at h
  obtain ⟨⟨⟨⟨⟨h1, h2⟩, h3, h4⟩, h5⟩, h6⟩, h7⟩ := h
  have sh : ∀ l : List (List UInt8), (∀ x ∈ l, x.length ≤ 140) → shortL 141 l = true := fun l hl => by
    unfold shortL
    rw [List.all_eq_true]
    intro x hx
    have := hl x hx
    simp
    omega
  exact ⟨h1, sh _ h2, h3, sh _ h4, h5, h7⟩
def E24 : Abs := ext (fun _ _ => none) 13 F13
set_option maxHeartbeats 8000000 in
theorem ev24 (rs : List Rl) (hb : ∀ r ∈ rs, r.big) (hl : rs.length ≤ 9223372036854775807) : fnK (mkCtx tab glob) E24 kp24 fr24 40 Tryd.f24 [.sl 7 (rs.map Rl.enc)] = some [.v (.bool (decide (30 < rs.length) || rs.any longR))] := by
  by_cases h : 30 < rs.length
  · have h' : (30 : Int) < rs.length := by omega
    simp [Tryd.f24, h, h']
  · have h' : ¬ (30 : Int) < rs.length := by omega
    rw [decide_eq_false h, Bool.false_or]
    generalize hA : rs.any longR = A
    simp [Tryd.f24, h, h']
    rw [← hA]
    refine loop_rule (R := List D) (σ := Nat) (fun j => ⟨slots 42 [(8, .d (.sl 7 (rs.map Rl.enc))), (9, .d (.v (.int .i64 rs.length))), (10, .d (.v (.int .i64 j)))], []⟩) (fun j => rs.length - j) (fun j => j ≤ rs.length) (fun j => some [.v (.bool ((rs.drop j).any longR))]) 0 [8, 9, 10] (by simp [kp24]) (by omega) (by omega) (by simp) ?_
    intro j κ' hj hn he hr
    have hw : IntKind.i64.wrap (↑j + 1) = ↑j + 1 := wrap_i64 (by omega) (by omega)
    by_cases hjl : j < rs.length
    · have hd : rs.drop j = rs[j] :: rs.drop (j + 1) := List.drop_eq_getElem_cons hjl
      have hbb := hb rs[j] (List.getElem_mem hjl)
      rw [hd, List.any_cons]
      generalize hP : (rs.drop (j + 1)).any longR = P
      generalize hr0 : rs[j] = r at *
      have hrr : (rs.map Rl.enc)[j]'(by simpa using hjl) = r.enc := by simp [hr0]
      have a1 := F13_at r.tg 50 140 hbb.1
      have a2 := F13_at r.pr 50 140 hbb.2
      have hlr : longR r = (longL r.tg 50 140 || longL r.pr 50 140 || decide (1200 < r.rc.length) || decide (100 < r.fi.length) || decide (200 < r.pg.length)) := rfl
      obtain ⟨tg, pr, fl, pg, rc, fi, ln⟩ := r
      simp only [Rl.enc] at hrr a1 a2 hlr
      have c3 : decide ((1200 : Int) < (rc.length : Int)) = decide (1200 < rc.length) := decl_lt 1200 _
      have c4 : decide ((100 : Int) < (fi.length : Int)) = decide (100 < fi.length) := decl_lt 100 _
      have c5 : decide ((200 : Int) < (pg.length : Int)) = decide (200 < pg.length) := decl_lt 200 _
      have c6 : ((50 : Nat) : Int) = 50 := rfl
      have c7 : ((140 : Nat) : Int) = 140 := rfl
      rw [c6, c7] at a1 a2
      rw [hlr]
      clear hlr hbb hb
      generalize longL tg 50 140 = b1 at *
      generalize longL pr 50 140 = b2 at *
      generalize decide (1200 < rc.length) = b3 at *
      generalize decide (100 < fi.length) = b4 at *
      generalize decide (200 < pg.length) = b5 at *
      have next : κ' Ex.normal ⟨(slots 42 [(8, .d (.sl 7 (rs.map Rl.enc))), (9, .d (.v (.int .i64 rs.length))), (10, .d (.v (.int .i64 j)))]), []⟩ = κ' Ex.normal ⟨(slots 42 [(8, .d (.sl 7 (rs.map Rl.enc))), (9, .d (.v (.int .i64 rs.length))), (10, .d (.v (.int .i64 j)))]), []⟩ := rfl
      cases b1 with
      | true => simp [hjl, hr0, Rl.enc, E24, a1, hr]
      | false =>
        cases b2 with
        | true => simp [hjl, hr0, Rl.enc, E24, a1, a2, hr]
        | false =>
          cases b3 with
          | true => simp [hjl, hr0, Rl.enc, E24, a1, a2, c3, hr]
          | false =>
            cases b4 with
            | true => simp [hjl, hr0, Rl.enc, E24, a1, a2, c3, c4, hr]
            | false =>
              cases b5 with
              | true => simp [hjl, hr0, Rl.enc, E24, a1, a2, c3, c4, c5, hr]
              | false =>
                simp [hjl, hr0, Rl.enc, E24, a1, a2, c3, c4, c5, hw]
                refine (hn (j + 1) _ (by omega) (by omega) (by simp [Rl.enc])).trans ?_
                rw [hP]
    · have hd : rs.drop j = [] := by simp; omega
      rw [hd]
      simp [hjl, he]
end Go.Ab
