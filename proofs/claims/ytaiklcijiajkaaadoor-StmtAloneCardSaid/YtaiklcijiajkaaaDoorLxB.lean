/- One text of a proof that a law of this seat says true for every input: words, pieces and statements. It holds of the given program under the conditions that the row prints. -/
import Derived.Test.YtaiklcijiajkaaaDoorAbFast
import Derived.Test.YtaiklcijiajkaaaDoorAbAuto
import Derived.Test.YtaiklcijiajkaaaDoorAbLibs3
import Derived.Test.YtaiklcijiajkaaaDoorLnQ
import Derived.Test.YtaiklcijiajkaaaDoorLxA
import Derived.Test.YtaiklcijiajkaaaDoorAbG
import Derived.Test.YtaiklcijiajkaaaDoorErA
set_option linter.unusedVariables false
set_option linter.unusedSimpArgs false
set_option maxRecDepth 100000
namespace Go.Ab
open Go.Proofs
variable {glob : Nat → Option (List D)}

/-- A byte's predicate. -/
def FP (p : UInt8 → Bool) : List D → Option (List D)
  | [.v (.int .u8 n)] => if 0 ≤ n ∧ n < 256 then some [.v (.bool (p (UInt8.ofNat n.toNat)))] else none
  | _ => none
theorem FP_at (p : UInt8 → Bool) (b : UInt8) : FP p [.v (.int .u8 b.toNat)] = some [.v (.bool (p b))] := by
  have := b.toNat_lt
  simp only [FP]
  rw [if_pos (by omega)]
  simp
def chkP (T : Ctx) (E : Abs) (kp fr : Nat → List Nat) (f : Func) (p : UInt8 → Bool) : Bool := (List.range 256).all fun n => match fnK T E kp fr 0 f [.v (.int .u8 n)] with
  | some [.v (.bool x)] => x == p (UInt8.ofNat n)
  | _ => false
theorem chkP_ok {T : Ctx} {E : Abs} {kp fr : Nat → List Nat} {f : Func} {p : UInt8 → Bool} (h : chkP T E kp fr f p = true) (ds rs : List D) (hF : FP p ds = some rs) : ∃ n, fnK T E kp fr n f ds = some rs := by
  unfold FP at hF
  split at hF
  · rename_i n
    split at hF
    · rename_i hn
      cases hF
      have := List.all_eq_true.1 h n.toNat (List.mem_range.2 (by omega))
      rw [Int.toNat_of_nonneg hn.1] at this
      split at this
      · rename_i x hx
        exact ⟨0, by rw [hx, beq_iff_eq.1 this]⟩
      · simp at this
    · simp at hF
  · simp at hF
/-- The predicates' oracle. -/
def EP1 : Abs := ext (ext EL 40 (FP blkB)) 62 (FP letB)
def EP2 : Abs := ext (ext EP1 60 (FP plnB)) 76 (FP insB)
def EP : Abs := ext EP2 74 (FP patB)
theorem ck_blk (glob : Nat → Option (List D)) : chkP (mkCtx tab glob) EL kp40 fr40 Tryd.f40 blkB = true := by kernel_rfl
theorem ck_let (glob : Nat → Option (List D)) : chkP (mkCtx tab glob) EL kp62 fr62 Tryd.f62 letB = true := by kernel_rfl
theorem ck_pln (glob : Nat → Option (List D)) : chkP (mkCtx tab glob) EP1 kp60 fr60 Tryd.f60 plnB = true := by kernel_rfl
theorem ck_ins (glob : Nat → Option (List D)) : chkP (mkCtx tab glob) EP1 kp76 fr76 Tryd.f76 insB = true := by kernel_rfl
theorem ck_pat (glob : Nat → Option (List D)) : chkP (mkCtx tab glob) EP2 kp74 fr74 Tryd.f74 patB = true := by kernel_rfl
section
variable {m : Int} (h20 : glob 5 = some [.v (.int .i64 m)])
include h20
theorem EP_ok : ∀ f, Pure Tryd.prog (mkCtx tab glob) f (EP f) := by
  have h0 := EL_ok h20
  have h1 : ∀ f, Pure Tryd.prog (mkCtx tab glob) f (EP1 f) := by
    refine ext_ok (ext_ok h0 ?_) ?_
    · exact pure_of (T_ok glob) h0 Tryd.func40 (by kernel_rfl) (kp := kp40) (fr := fr40) (by kernel_rfl) (chkP_ok (ck_blk glob))
    · exact pure_of (T_ok glob) h0 Tryd.func62 (by kernel_rfl) (kp := kp62) (fr := fr62) (by kernel_rfl) (chkP_ok (ck_let glob))
  have h2 : ∀ f, Pure Tryd.prog (mkCtx tab glob) f (EP2 f) := by
    refine ext_ok (ext_ok h1 ?_) ?_
    · exact pure_of (T_ok glob) h1 Tryd.func60 (by kernel_rfl) (kp := kp60) (fr := fr60) (by kernel_rfl) (chkP_ok (ck_pln glob))
    · exact pure_of (T_ok glob) h1 Tryd.func76 (by kernel_rfl) (kp := kp76) (fr := fr76) (by kernel_rfl) (chkP_ok (ck_ins glob))
  refine ext_ok h2 ?_
  exact pure_of (T_ok glob) h2 Tryd.func74 (by kernel_rfl) (kp := kp74) (fr := fr74) (by kernel_rfl) (chkP_ok (ck_pat glob))
end
def predOf (g : FuncId) : Option (UInt8 → Bool) := if g = 40 then some blkB else if g = 62 then some letB else if g = 60 then some plnB else if g = 76 then some insB else if g = 74 then some patB else none
theorem predOf_ok (g : FuncId) (p : UInt8 → Bool) (h : predOf g = some p) : EP g = FP p := by
  unfold predOf at h
  split at h
  · rename_i e; subst e; cases h; rfl
  · split at h
    · rename_i e; subst e; cases h; rfl
    · split at h
      · rename_i e; subst e; cases h; rfl
      · split at h
        · rename_i e; subst e; cases h; rfl
        · split at h
          · rename_i e; subst e; cases h; rfl
          · simp at h
end Go.Ab

set_option linter.unusedVariables false
set_option linter.unusedSimpArgs false
set_option maxRecDepth 100000
namespace Go.Ab
open Go.Proofs
variable {glob : Nat → Option (List D)}

set_option maxHeartbeats 4000000 in
/-- lex.run -/
theorem evRun (g : FuncId) (p : UInt8 → Bool) (hg : EP g = FP p) (s : List UInt8) (i : Nat) (hs : s.length < 4294967281) (hi : i ≤ s.length) :
    fnK (mkCtx tab glob) EP kp61 fr61 (s.length + 2) Tryd.f61 [.s s, .v (.int .i64 i), .fn (.func g) [] []] = some [.v (.int .i64 (runN p s i))] := by
  have hle := runN_le p s i
  have hall := fun j => runN_all p s (runN p s i) i j rfl
  have hstop := runN_stop p s _ i rfl
  generalize hk : runN p s i = k at hle hall hstop
  simp [Tryd.f61]
  refine loop_rule (R := List D) (σ := Nat) (fun n => ⟨slots 26 [(0, .d (.s s)), (1, .d (.v (.int .i64 i))), (2, .d (.fn (.func g) [] [])), (7, .d (.v (.int .i64 n)))], []⟩) (fun n => k - n) (fun n => n ≤ k) (fun _ => some [.v (.int .i64 k)]) 0 [0, 1, 2, 7] (by simp [kp61]) (by omega) (by omega) (by simp) ?_
  intro n κ' hn hnx hex hr
  have hw : IntKind.i64.wrap (↑i + ↑n) = ↑i + ↑n := wrap_i64 (by omega) (by omega)
  have hw1 : IntKind.i64.wrap (↑n + 1) = ↑n + 1 := wrap_i64 (by omega) (by omega)
  have ht : ((i : Int) + (n : Int)).toNat = i + n := by omega
  have h0 : (0 : Int) ≤ (i : Int) + (n : Int) := by omega
  by_cases hnk : n < k
  · obtain ⟨hl, hp⟩ := hall (i + n) (by omega) (by omega)
    have hl' : (i : Int) + (n : Int) < s.length := by omega
    have hF := FP_at p s[i + n]
    rw [hp] at hF
    simp [hw, hl', ht, h0, hl, hg, hF, hw1]
    exact hnx (n + 1) _ (by omega) (by omega) (by simp)
  · have e : n = k := by omega
    subst e
    by_cases hl : i + n < s.length
    · have hl' : (i : Int) + (n : Int) < s.length := by omega
      have hF := FP_at p s[i + n]
      rw [hstop hl] at hF
      simp [hw, hl', ht, h0, hl, hg, hF, hex]
    · have hl' : ¬ (i : Int) + (n : Int) < s.length := by omega
      simp [hw, hl', hex]
end Go.Ab

set_option linter.unusedVariables false
set_option linter.unusedSimpArgs false
set_option maxRecDepth 100000
namespace Go.Ab
open Go.Proofs
variable {glob : Nat → Option (List D)}

def FRun : List D → Option (List D)
  | [.s s, .v (.int .i64 i), .fn (.func g) [] []] => match predOf g with
    | some p => if s.length < 4294967281 ∧ 0 ≤ i ∧ i ≤ s.length then some [.v (.int .i64 (runN p s i.toNat))] else none
    | none => none
  | _ => none
theorem FRun_at (g : FuncId) (p : UInt8 → Bool) (hg : predOf g = some p) (s : List UInt8) (i : Nat) (hs : s.length < 4294967281) (hi : i ≤ s.length) : FRun [.s s, .v (.int .i64 i), .fn (.func g) [] []] = some [.v (.int .i64 (runN p s i))] := by
  simp only [FRun, hg]
  rw [if_pos ⟨hs, by omega, by omega⟩]
  simp
def ER : Abs := ext EP 61 FRun
def FName : List D → Option (List D)
  | [.s t] => if t.length < 4294967281 then some [.v (.bool (namOk t))] else none
  | _ => none
theorem FName_at (t : List UInt8) (h : t.length < 4294967281) : FName [.s t] = some [.v (.bool (namOk t))] := by
  simp only [FName]
  rw [if_pos h]
theorem run_all (p : UInt8 → Bool) (t : List UInt8) : decide (runN p t 0 = t.length) = t.all p := by
  unfold runN
  rw [List.drop_zero]
  induction t with
  | nil => simp
  | cons b r ih =>
    rw [List.takeWhile_cons]
    cases hb : p b with
    | true => simpa [hb] using ih
    | false => simp [hb]
set_option maxHeartbeats 4000000 in
/-- lex.Name -/
theorem evName (t : List UInt8) (ht : t.length < 4294967281) : fnK (mkCtx tab glob) ER kp43 fr43 0 Tryd.f43 [.s t] = some [.v (.bool (namOk t))] := by
  have hF := FRun_at 62 letB rfl t 0 ht (Nat.zero_le _)
  have hra := run_all letB t
  have hle := runN_le letB t 0
  unfold namOk
  rw [← hra]
  generalize runN letB t 0 = k at *
  have e2 : ((k : Int) == (t.length : Int)) = decide (k = t.length) := by
    rw [Bool.eq_iff_iff]
    simp
    omega
  cases t with
  | nil => simp [Tryd.f43]
  | cons b r =>
    by_cases hl : (b :: r).length ≤ 12
    · have hl' : ((b :: r).length : Int) ≤ 12 := by omega
      have hl2 : (r.length : Int) + 1 ≤ 12 := by simpa using hl'
      have hl3 : r.length + 1 ≤ 12 := by simpa using hl
      simp at hF e2
      simp [Tryd.f43, ER, hF, hl', hl2, hl3, e2]
    · have hl' : ¬ ((b :: r).length : Int) ≤ 12 := by omega
      have hl2 : ¬ (r.length : Int) + 1 ≤ 12 := by simpa using hl'
      have hl3 : ¬ r.length + 1 ≤ 12 := by simpa using hl
      simp [Tryd.f43, ER, hl', hl2, hl3]
def EG : Abs := ext (ext (ext ER 43 FName) 31 F75) 71 F135
section
variable {m : Int} (h20 : glob 5 = some [.v (.int .i64 m)])
include h20
theorem ER_ok : ∀ f, Pure Tryd.prog (mkCtx tab glob) f (ER f) := by
  refine ext_ok (EP_ok h20) ?_
  refine pure_of (T_ok glob) (EP_ok h20) Tryd.func61 (by kernel_rfl) (kp := kp61) (fr := fr61) (by kernel_rfl) fun ds rs hF => ?_
  unfold FRun at hF
  split at hF
  · rename_i s i g
    split at hF
    · rename_i p hp
      split at hF
      · rename_i h
        cases hF
        have := evRun (glob := glob) g p (predOf_ok g p hp) s i.toNat h.1 (by omega)
        rw [Int.toNat_of_nonneg h.2.1] at this
        exact ⟨_, this⟩
      · simp at hF
    · simp at hF
  · simp at hF
theorem EG_ok : ∀ f, Pure Tryd.prog (mkCtx tab glob) f (EG f) := by
  refine ext_ok (ext_ok (ext_ok (ER_ok h20) ?_) (F75_ok h20)) (F135_ok h20)
  refine pure_of (T_ok glob) (ER_ok h20) Tryd.func43 (by kernel_rfl) (kp := kp43) (fr := fr43) (by kernel_rfl) fun ds rs hF => ?_
  unfold FName at hF
  split at hF
  · split at hF
    · rename_i h
      cases hF
      exact ⟨_, evName _ h⟩
    · simp at hF
  · simp at hF
end
end Go.Ab

set_option linter.unusedVariables false
set_option linter.unusedSimpArgs false
set_option maxRecDepth 100000
namespace Go.Ab
open Go.Proofs
variable {glob : Nat → Option (List D)} {p : Nat → Addr} {o : Nat → Obj}

/-! # The reader's methods -/
/-- The reader as an object. -/
def rdr (s : List UInt8) (a : Nat) (e : D) : Obs := [((0, 0), .box [.d (.s s), .d (.v (.int .i64 a)), .d e])]
/-- A method of the reader out of what it does with a text, a place and the first error. -/
def GR (f : List UInt8 → Nat → D → List AV → Option (List AV × Nat × D)) : List AV → Obs → Option (List AV × Obs)
  | .ref (0, 0) 0 :: r, [((0, 0), .box [.d (.s s), .d (.v (.int .i64 a)), .d e])] =>
    if s.length < 4294967281 ∧ 0 ≤ a ∧ a ≤ s.length then (match f s a.toNat e r with | some (rs, a', e') => some (rs, rdr s a' e') | none => none) else none
  | _, _ => none
theorem GR_at (f : List UInt8 → Nat → D → List AV → Option (List AV × Nat × D)) (s : List UInt8) (a : Nat) (e : D) (r : List AV) (hs : s.length < 4294967281) (ha : a ≤ s.length) :
    GR f (.ref (0, 0) 0 :: r) [((0, 0), .box [.d (.s s), .d (.v (.int .i64 a)), .d e])] = match f s a e r with | some (rs, a', e') => some (rs, [((0, 0), .box [.d (.s s), .d (.v (.int .i64 a')), .d e'])]) | none => none := by
  simp only [GR]
  rw [if_pos ⟨hs, by omega, by omega⟩]
  simp [rdr]
theorem GR_ok {P : Program} {T : Ctx} (hT : TOk P T) {E : Abs} (hE : ∀ f, Pure P T f (E f)) {g : FuncId} {fn : Func} {kp fr : Nat → List Nat} (hf : P.funcs[g]? = some fn) (hname : (fn.name == "runtime.NumGoroutine") = false) (hdr : (match fn.body with | some c => drawsOk T.gf fr c | none => true) = true)
    {f : List UInt8 → Nat → D → List AV → Option (List AV × Nat × D)} (h : ∀ s a e r rs a' e', s.length < 4294967281 → a ≤ s.length → f s a e r = some (rs, a', e') → ∃ n, gnK T E kp fr n fn (.ref (0, 0) 0 :: r) [((0, 0), .box [.d (.s s), .d (.v (.int .i64 a)), .d e])] = some (rs, [((0, 0), .box [.d (.s s), .d (.v (.int .i64 a')), .d e'])])) : Turns P T g (GR f) := by
  refine turns_of hT hE (kp := kp) (fr := fr) hf hname hdr fun xs o r hG => ?_
  unfold GR at hG
  split at hG
  · rename_i r' s a e
    split at hG
    · rename_i hh
      split at hG
      · rename_i rs a' e' he
        cases hG
        have := h s a.toNat e r' rs a' e' hh.1 (by omega) he
        rw [Int.toNat_of_nonneg hh.2.1] at this
        exact this
      · simp at hG
    · simp at hG
  · simp at hG

/-- The methods that turn the reader. -/
def gfL (f : FuncId) : Bool := [70, 72, 75, 42, 73, 57, 58, 59, 41].contains f
abbrev TL (glob : Nat → Option (List D)) (M : MAbs) : Ctx := (mkCtx tab glob).on gfL M
theorem TL_ok {M : MAbs} (hM : ∀ f, Turns Tryd.prog (mkCtx tab glob) f (M f)) : TOk Tryd.prog (TL glob M) := on_ok (T_ok glob) hM
/-- the first error stays -/
def failD (e k : D) : D := match e with | .v .nilIface => k | e => e
def isErr : D → Bool
  | .v .nilIface => true
  | .ifc _ _ => true
  | _ => false
def isIfc : D → Bool
  | .ifc _ _ => true
  | _ => false
/-- Does a byte stand at a place? -/
def atB (s : List UInt8) (a : Nat) (n : Int) : Bool := match s[a]? with | some c => (c.toNat : Int) == n | none => false
def fFail (s : List UInt8) (a : Nat) (e : D) : List AV → Option (List AV × Nat × D)
  | [.d (.ifc t x)] => if isErr e = true then some ([], a, failD e (.ifc t x)) else none
  | _ => none
def fIs (s : List UInt8) (a : Nat) (e : D) : List AV → Option (List AV × Nat × D)
  | [.d (.v (.int .u8 n))] => some ([.d (.v (.bool (atB s a n)))], a, e)
  | _ => none
def fTakes (k : D) (s : List UInt8) (a : Nat) (e : D) : List AV → Option (List AV × Nat × D)
  | [.d (.v (.int .u8 n))] => if isErr e = true then (if (atB s a n) = true then some ([], a + 1, e) else some ([], a, failD e k)) else none
  | _ => none
def fTake (s : List UInt8) (a : Nat) (e : D) : List AV → Option (List AV × Nat × D)
  | [.d (.fn (.func g) [] [])] => match predOf g with
    | some p => some ([.d (.s (subs s a (a + runN p s a)))], a + runN p s a, e)
    | none => none
  | _ => none
def fName (k : D) (s : List UInt8) (a : Nat) (e : D) : List AV → Option (List AV × Nat × D)
  | [] => if isErr e = true then some ([.d (.s (subs s a (a + runN letB s a)))], a + runN letB s a, if namOk (subs s a (a + runN letB s a)) = true then e else failD e k) else none
  | _ => none
def M0 : MAbs := fun _ _ _ => none
set_option maxHeartbeats 4000000 in
theorem evFail (s : List UInt8) (a : Nat) (e : D) (t : TypeId) (x : D) (he : isErr e = true) :
    gnK (TL glob M0) EG kp70 fr70 0 Tryd.f70 [.ref (0, 0) 0, .d (.ifc t x)] [((0, 0), .box [.d (.s s), .d (.v (.int .i64 a)), .d e])] = some ([], [((0, 0), .box [.d (.s s), .d (.v (.int .i64 a)), .d (failD e (.ifc t x))])]) := by
  unfold isErr at he
  split at he
  · simp [Tryd.f70, failD]
  · simp [Tryd.f70, failD]
  · simp at he
set_option maxHeartbeats 4000000 in
theorem evIs (s : List UInt8) (a : Nat) (e : D) (n : Int) (hs : s.length < 4294967281) (ha : a ≤ s.length) :
    gnK (TL glob M0) EG kp72 fr72 0 Tryd.f72 [.ref (0, 0) 0, .d (.v (.int .u8 n))] [((0, 0), .box [.d (.s s), .d (.v (.int .i64 a)), .d e])] = some ([.d (.v (.bool (atB s a n)))], [((0, 0), .box [.d (.s s), .d (.v (.int .i64 a)), .d e])]) := by
  by_cases h : a < s.length
  · have h' : (a : Int) < s.length := by omega
    simp [Tryd.f72, fr72, h, h', atB]
  · have h' : ¬ (a : Int) < s.length := by omega
    have h2 : s[a]? = none := by simpa using h
    simp [Tryd.f72, fr72, h, h', h2, atB]
def M1 : MAbs := gext (gext M0 70 (GR fFail)) 72 (GR fIs)
section
variable {m : Int} (h20 : glob 5 = some [.v (.int .i64 m)])
include h20
theorem M1_ok : ∀ f, Turns Tryd.prog (mkCtx tab glob) f (M1 f) := by
  have hT := TL_ok (glob := glob) (M := M0) gnone_ok
  refine gext_ok (gext_ok gnone_ok ?_) ?_
  · refine GR_ok hT (EG_ok h20) (kp := kp70) (fr := fr70) Tryd.func70 (by kernel_rfl) (by kernel_rfl) fun s a e r rs a' e' hs ha h => ?_
    unfold fFail at h
    split at h
    · split at h
      · rename_i he
        cases h
        exact ⟨0, evFail _ _ _ _ _ he⟩
      · simp at h
    · simp at h
  · refine GR_ok hT (EG_ok h20) (kp := kp72) (fr := fr72) Tryd.func72 (by kernel_rfl) (by kernel_rfl) fun s a e r rs a' e' hs ha h => ?_
    unfold fIs at h
    split at h
    · cases h
      exact ⟨0, evIs _ _ _ _ hs ha⟩
    · simp at h
end
set_option maxHeartbeats 4000000 in
theorem evTakes {t : TypeId} {x : D} (h3 : glob 1 = some [.ifc t x]) (s : List UInt8) (a : Nat) (e : D) (n : Int) (hs : s.length < 4294967281) (ha : a ≤ s.length) (he : isErr e = true) :
    gnK (TL glob M1) EG kp75 fr75 0 Tryd.f75 [.ref (0, 0) 0, .d (.v (.int .u8 n))] [((0, 0), .box [.d (.s s), .d (.v (.int .i64 a)), .d e])] =
      (if (atB s a n) = true then some ([], [((0, 0), .box [.d (.s s), .d (.v (.int .i64 (a + 1 : Nat))), .d e])]) else some ([], [((0, 0), .box [.d (.s s), .d (.v (.int .i64 a)), .d (failD e (.ifc t x))])])) := by
  have hI := GR_at fIs s a e [.d (.v (.int .u8 n))] hs ha
  have hF := GR_at fFail s a e [.d (.ifc t x)] hs ha
  have hw : IntKind.i64.wrap ((a : Int) + 1) = (a : Int) + 1 := wrap_i64 (by omega) (by omega)
  simp only [fFail, he, if_true] at hF
  simp only [fIs] at hI
  cases hb : (atB s a n) with
  | true =>
    rw [hb] at hI
    simp [Tryd.f75, M1, gfL, hI, hw]
  | false =>
    rw [hb] at hI
    simp [Tryd.f75, M1, gfL, hI, hF, h3]
set_option maxHeartbeats 4000000 in
theorem evTake (g : FuncId) (q : UInt8 → Bool) (hg : predOf g = some q) (s : List UInt8) (a : Nat) (e : D) (hs : s.length < 4294967281) (ha : a ≤ s.length) :
    gnK (TL glob M1) EG kp42 fr42 0 Tryd.f42 [.ref (0, 0) 0, .d (.fn (.func g) [] [])] [((0, 0), .box [.d (.s s), .d (.v (.int .i64 a)), .d e])] =
      some ([.d (.s (subs s a (a + runN q s a)))], [((0, 0), .box [.d (.s s), .d (.v (.int .i64 (a + runN q s a : Nat))), .d e])]) := by
  have hF := FRun_at g q hg s a hs ha
  have hle := runN_le q s a
  unfold subs
  generalize runN q s a = k at hF hle ⊢
  have hw : IntKind.i64.wrap ((a : Int) + k) = (a : Int) + k := wrap_i64 (by omega) (by omega)
  have hw2 : IntKind.i64.wrap ((a : Int) + k - k) = (a : Int) := (wrap_i64 (by omega) (by omega)).trans (by omega)
  have hw3 : IntKind.i64.wrap (a : Int) = (a : Int) := wrap_i64 (by omega) (by omega)
  have h1 : (a : Int) ≤ (a : Int) + k := by omega
  have h2 : (a : Int) + k ≤ s.length := by omega
  have h3 : ((a : Int) + (k : Int)).toNat = a + k := by omega
  have h4 : a + k ≤ s.length := by omega
  simp [Tryd.f42, fr42, gfL, EG, ER, hF, hw, hw2, hw3, h1, h2, h3, h4]
def M2 (k : D) : MAbs := gext (gext M1 75 (GR (fTakes k))) 42 (GR fTake)
section
variable {m : Int} (h20 : glob 5 = some [.v (.int .i64 m)]) {t : TypeId} {x : D} (h3 : glob 1 = some [.ifc t x])
include h20 h3
theorem M2_ok : ∀ f, Turns Tryd.prog (mkCtx tab glob) f (M2 (.ifc t x) f) := by
  have hT := TL_ok (M1_ok h20)
  refine gext_ok (gext_ok (M1_ok h20) ?_) ?_
  · refine GR_ok hT (EG_ok h20) (kp := kp75) (fr := fr75) Tryd.func75 (by kernel_rfl) (by kernel_rfl) fun s a e r rs a' e' hs ha h => ?_
    unfold fTakes at h
    split at h
    · rename_i n
      split at h
      · rename_i he
        refine ⟨0, (evTakes h3 s a e n hs ha he).trans ?_⟩
        by_cases hb : atB s a n = true
        · rw [if_pos hb] at h ⊢
          cases h
          rfl
        · rw [if_neg hb] at h ⊢
          cases h
          rfl
      · simp at h
    · simp at h
  · refine GR_ok hT (EG_ok h20) (kp := kp42) (fr := fr42) Tryd.func42 (by kernel_rfl) (by kernel_rfl) fun s a e r rs a' e' hs ha h => ?_
    unfold fTake at h
    split at h
    · rename_i g
      split at h
      · rename_i q hq
        cases h
        exact ⟨0, evTake g q hq s a e hs ha⟩
      · simp at h
    · simp at h
end
set_option maxHeartbeats 4000000 in
theorem evNam {k : D} {t : TypeId} {x : D} (h4 : glob 3 = some [.ifc t x]) (s : List UInt8) (a : Nat) (e : D) (hs : s.length < 4294967281) (ha : a ≤ s.length) (he : isErr e = true) :
    gnK (TL glob (M2 k)) EG kp73 fr73 0 Tryd.f73 [.ref (0, 0) 0] [((0, 0), .box [.d (.s s), .d (.v (.int .i64 a)), .d e])] =
      some ([.d (.s (subs s a (a + runN letB s a)))], [((0, 0), .box [.d (.s s), .d (.v (.int .i64 (a + runN letB s a : Nat))), .d (if namOk (subs s a (a + runN letB s a)) = true then e else failD e (.ifc t x))])]) := by
  have hle := runN_le letB s a
  have hT := GR_at fTake s a e [.d (.fn (.func 62) [] [])] hs ha
  have hF := GR_at fFail s (a + runN letB s a) e [.d (.ifc t x)] hs (by omega)
  have hN := FName_at (subs s a (a + runN letB s a)) (by rw [subs_len _ _ _ (by omega)]; omega)
  simp only [fFail, he, if_true] at hF
  simp only [fTake, show predOf 62 = some letB from rfl] at hT
  generalize subs s a (a + runN letB s a) = w at *
  generalize a + runN letB s a = b at *
  cases hb : namOk w with
  | true =>
    rw [hb] at hN
    simp [Tryd.f73, gfL, M2, M1, EG, hT, hN]
  | false =>
    rw [hb] at hN
    simp [Tryd.f73, gfL, M2, M1, EG, hT, hN, hF, h4]
def M3 (k3 k4 : D) : MAbs := gext (M2 k3) 73 (GR (fName k4))
section
variable {m : Int} (h20 : glob 5 = some [.v (.int .i64 m)]) {t : TypeId} {x : D} (h3 : glob 1 = some [.ifc t x]) {t4 : TypeId} {x4 : D} (h4 : glob 3 = some [.ifc t4 x4])
include h20 h3 h4
theorem M3_ok : ∀ f, Turns Tryd.prog (mkCtx tab glob) f (M3 (.ifc t x) (.ifc t4 x4) f) := by
  have hT := TL_ok (M2_ok h20 h3)
  refine gext_ok (M2_ok h20 h3) ?_
  refine GR_ok hT (EG_ok h20) (kp := kp73) (fr := fr73) Tryd.func73 (by kernel_rfl) (by kernel_rfl) fun s a e r rs a' e' hs ha h => ?_
  unfold fName at h
  split at h
  · split at h
    · rename_i he
      cases h
      exact ⟨0, evNam h4 s a e hs ha he⟩
    · simp at h
  · simp at h
end
end Go.Ab
