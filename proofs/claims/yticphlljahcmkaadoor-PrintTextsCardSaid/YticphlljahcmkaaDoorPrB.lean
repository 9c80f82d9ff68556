/- One text of a proof that a law of this seat says true for every input: printed rules. It holds of the given program under the conditions that the row prints. -/
import Derived.Test.YticphlljahcmkaaDoorPrA
import Derived.Test.YticphlljahcmkaaDoorErA
import Derived.Test.YticphlljahcmkaaDoorLnB
import Derived.Test.YticphlljahcmkaaDoorAbAuto
set_option linter.unusedVariables false
set_option linter.unusedSimpArgs false
set_option maxRecDepth 100000
namespace Go.Ab
open Go.Proofs
variable {glob : Nat → Option (List D)} {p : Nat → Addr} {o : Nat → Obj}

/-- A rule. -/
structure Rl where
  tg : List (List UInt8)
  pr : List (List UInt8)
  fl : Int
  pg : List UInt8
  rc : List UInt8
  fi : List UInt8
  ln : Int
def Rl.enc (r : Rl) : D := .st [.sl 1 (r.tg.map .s), .sl 1 (r.pr.map .s), .v (.int .i64 r.fl), .s r.pg, .s r.rc, .s r.fi, .v (.int .i64 r.ln)]
theorem map_s_inj : ∀ {a b : List (List UInt8)}, a.map D.s = b.map D.s → a = b := by
  intro a b h
  have := congrArg strsOf h
  rw [strsOf_map, strsOf_map] at this
  exact Option.some.inj this
theorem Rl.enc_inj {a b : Rl} (h : a.enc = b.enc) : a = b := by
  obtain ⟨a1, a2, a3, a4, a5, a6, a7⟩ := a
  obtain ⟨b1, b2, b3, b4, b5, b6, b7⟩ := b
  simp only [Rl.enc, D.st.injEq, List.cons.injEq, D.sl.injEq, true_and, D.v.injEq, Value.int.injEq, D.s.injEq, and_true] at h
  obtain ⟨h1, h2, h3, h4, h5, h6, h7⟩ := h
  rw [map_s_inj h1, map_s_inj h2, h3, h4, h5, h6, h7]
/-- Within the bounds that the law asks. -/
def Rl.good (r : Rl) : Prop := r.tg.length ≤ 50 ∧ shortL 141 r.tg = true ∧ r.pr.length ≤ 50 ∧ shortL 141 r.pr = true ∧ r.rc.length ≤ 1200 ∧ r.pg.length ≤ 200
theorem join_cons (c : UInt8) (x : List UInt8) : ∀ xs : List (List UInt8), Lib.join (x :: xs) [c] = x ++ (xs.map fun y => c :: y).flatten
  | [] => by simp [Lib.join, List.intercalate]
  | y :: ys => by
    have := join_cons c y ys
    simp only [Lib.join, List.intercalate, List.intersperse, List.flatten_cons, List.map_cons] at this ⊢
    rw [this]
    simp
theorem flat_le (n : Nat) : ∀ xs : List (List UInt8), (∀ x ∈ xs, x.length ≤ n) → xs.flatten.length ≤ xs.length * n
  | [], _ => by simp
  | x :: xs, h => by
    have := flat_le n xs fun y hy => h y (by simp [hy])
    have := h x (by simp)
    simp only [List.flatten_cons, List.length_append, List.length_cons, Nat.add_mul, Nat.one_mul]
    omega
theorem joinQ_le (l : List (List UInt8)) (hl : l.length ≤ 50) (hs : shortL 141 l = true) : (joinQ l).length ≤ 14200 := by
  cases l with
  | nil => simp [joinQ, Lib.join, List.intercalate]
  | cons x xs =>
    unfold joinQ
    rw [List.map_cons, join_cons, List.length_append]
    have h1 := quoteS_le x
    have h2 := short_at hs (s := x) (by simp)
    have h3 := flat_le 283 ((xs.map quoteS).map fun y => 32 :: y) (by
      intro y hy
      simp only [List.map_map, List.mem_map, Function.comp_apply] at hy
      obtain ⟨z, hz, rfl⟩ := hy
      have h4 := quoteS_le z
      have h5 := short_at hs (s := z) (by simp [hz])
      simp only [List.length_cons]
      omega)
    simp only [List.length_map, List.length_cons] at h3 hl
    omega
theorem attrT_le (f : Int) (p : List UInt8) : (attrT f p).length ≤ 130 := by
  unfold attrT
  split
  · rename_i h
    simp only [rightA, Bool.and_eq_true, decide_eq_true_eq] at h
    have := letsA_len f 8
    simp only [List.length_append]
    split <;> simp <;> omega
  · simp
/-! ### the functions -/
def toldS (r : Rl) : Bool := decide (0 < r.tg.length) && (r.pg.isEmpty || plainS r.pg) && (r.rc.isEmpty || Lib.hasSuffix r.rc [10]) && (!r.tg.any (fun l => Lib.contains l [10]) && !r.pr.any (fun l => Lib.contains l [10])) && rightA r.fl r.pg
def headS (r : Rl) : List UInt8 := joinQ r.tg ++ [58] ++ (if attrT r.fl r.pg = [] then [] else attrT r.fl r.pg ++ [58]) ++ (if r.pr = [] then [] else [32] ++ joinQ r.pr)
def checkS (r : Rl) : Nat :=
  if toldS r = false then 3 else if (decide (40 < r.tg.length) || decide (40 < r.pr.length)) = true then 1
  else if (r.tg.any (fun l => decide (120 < l.length)) || r.pr.any (fun l => decide (120 < l.length))) = true then 2
  else if (decide (400 < (headS r).length) || (phys r.rc).any (fun l => decide (400 < l.length))) = true then 2 else 0
def errD (p : Nat → Addr) (o : Nat → Obj) : Nat → D
  | 0 => .v .nilIface
  | g + 1 => .ifc 228 (.at (p (g + 1)) (o (g + 1)))
theorem headS_le (r : Rl) (h : r.good) : (headS r).length ≤ 30000 := by
  have h1 := joinQ_le r.tg h.1 h.2.1
  have h2 := joinQ_le r.pr h.2.2.1 h.2.2.2.1
  have h3 := attrT_le r.fl r.pg
  unfold headS
  simp only [List.length_append]
  split <;> split <;> simp <;> omega
def F83 : List D → Option (List D)
  | [.sl 1 xs] => match strsOf xs with
    | some ls => if ls.length ≤ 50 ∧ shortL 141 ls = true then some [.s (joinQ ls)] else none
    | none => none
  | _ => none
def F84 : List D → Option (List D)
  | [.st [.v (.int .i64 f), .s p]] => some [.s (attrT f p)]
  | _ => none
def F58 : List D → Option (List D)
  | [.s l] => if l.length < 4294967281 then some [.sl 1 ((phys l).map .s)] else none
  | _ => none
def EP1 : Abs := ext (ext (ext (ext (ext (ext EQ3 65 F65) 67 F67) 83 F83) 84 F84) 81 (FL81 120)) 82 (FL81 400)
theorem short_le {n m : Nat} {l : List (List UInt8)} (h : shortL n l = true) (hnm : n ≤ m) : shortL m l = true := by
  unfold shortL
  rw [List.all_eq_true]
  intro x hx
  have := short_at h hx
  simp
  omega
section
variable {m : Int} (h20 : glob 20 = some [.v (.int .i64 m)])
include h20
theorem EP1_ok : ∀ f, Pure Tryd.prog (mkCtx tab glob) f (EP1 f) := by
  refine ext_ok (ext_ok (ext_ok (ext_ok (ext_ok (ext_ok (EQ3_ok h20) (F65_ok h20)) ?_) ?_) ?_) ?_) ?_
  · exact EA1_ok 67
  · refine pure_of (T_ok glob) (EQ3_ok h20) Tryd.func83 (by kernel_rfl) (kp := kp83) (fr := fr83) (by kernel_rfl) fun ds rs hF => ?_
    unfold F83 at hF
    split at hF
    · split at hF
      · rename_i ls hls
        split at hF
        · rename_i h
          cases hF
          obtain rfl := strsOf_some hls
          have := joinQ_le ls h.1 h.2
          exact ⟨_, ev83 ls (by omega) (short_le h.2 (by omega)) (by omega)⟩
        · simp at hF
      · simp at hF
    · simp at hF
  · refine pure_of (T_ok glob) EA1_ok Tryd.func84 (by kernel_rfl) (kp := kp84) (fr := fr84) (by kernel_rfl) fun ds rs hF => ?_
    unfold F84 at hF
    split at hF
    · cases hF
      exact ⟨_, ev84 _ _⟩
    · simp at hF
  · exact (EC1_ok h20) 81
  · exact (EC1_ok h20) 82
end
theorem F65_at (g : FuncId) (q : List UInt8 → Bool) (hq : fnB g = some q) (ls : List (List UInt8)) (hl : ls.length < 4294967281) (hs : shortL 4294967281 ls = true) : F65 [.sl 1 (ls.map .s), .fn (.func g) [] []] = some [.v (.bool (ls.any q))] := by
  simp only [F65, strsOf_map, hq]
  rw [if_pos ⟨hl, hs⟩]
theorem F83_at (ls : List (List UInt8)) (h1 : ls.length ≤ 50) (h2 : shortL 141 ls = true) : F83 [.sl 1 (ls.map .s)] = some [.s (joinQ ls)] := by
  simp only [F83, strsOf_map]
  rw [if_pos ⟨h1, h2⟩]
theorem decl_pos (n : Nat) : decide ((0 : Int) < (n : Int)) = decide (0 < n) := by
  by_cases h : 0 < n <;> simp [h]
set_option maxHeartbeats 8000000 in
/-- print.Told -/
theorem ev31 (r : Rl) (h : r.good) : fnK (mkCtx tab glob) EP1 kp31 fr31 0 Tryd.f31 [r.enc] = some [.v (.bool (toldS r))] := by
  obtain ⟨h1, h2, h3, h4, h5, h6⟩ := h
  have a1 := F65_at 66 _ rfl r.tg (by omega) (short_le h2 (by omega))
  have a2 := F65_at 66 _ rfl r.pr (by omega) (short_le h4 (by omega))
  have a3 : F63 [.s r.pg] = some [.v (.bool (plainS r.pg))] := by simp only [F63]; rw [if_pos (by omega)]
  have a4 : F64 [.s r.rc, .s [10]] = some [.v (.bool (Lib.hasSuffix r.rc [10]))] := by simp only [F64]; rw [if_pos (by omega)]
  obtain ⟨tg, pr, fl, pg, rc, fi, ln⟩ := r
  simp only at *
  simp only [toldS]
  have a5 : F67 [.st [.v (.int .i64 fl), .s pg]] = some [.v (.bool (rightA fl pg))] := rfl
  have a6 := decl_pos tg.length
  generalize List.any tg (fun l => Lib.contains l [10]) = b1 at *
  generalize List.any pr (fun l => Lib.contains l [10]) = b2 at *
  generalize plainS pg = b3 at *
  generalize Lib.hasSuffix rc [10] = b4 at *
  generalize rightA fl pg = b5 at *
  generalize decide (0 < tg.length) = b6 at *
  simp [Tryd.f31, EP1, EQ3, EQ2, EQ1, EQ0, Rl.enc, a1, a2, a3, a4, a5, a6]
  iterate 10 (all_goals try (refine condK_cases (fun h => ?_) (fun h => ?_) <;> simp [h, EP1, EQ3, EQ2, EQ1, EQ0, a1, a2, a3, a4, a5, a6]))
  all_goals (clear a1 a2 a3 a4 a5 h1 h2 h3 h4 h5 h6)
  all_goals (cases b1 <;> cases b2 <;> cases b3 <;> cases b4 <;> cases b5 <;> cases b6 <;> simp_all)
end Go.Ab

set_option linter.unusedVariables false
set_option linter.unusedSimpArgs false
set_option maxRecDepth 100000
namespace Go.Ab
open Go.Proofs
variable {glob : Nat → Option (List D)} {p : Nat → Addr} {o : Nat → Obj}

/-- A function of rules. -/
noncomputable def liftR (f : Rl → Option (List D)) : List D → Option (List D) := liftG (fun r : Rl => r.good) (fun r => [r.enc]) f
theorem liftR_enc {f : Rl → Option (List D)} (r : Rl) (h : r.good) : liftR f [r.enc] = f r :=
  liftG_enc (good := fun r : Rl => r.good) (enc := fun r => [r.enc]) (f := f) (fun a b _ _ h => by
    simp only [List.cons.injEq, and_true] at h
    rw [Rl.enc_inj h]) r h
set_option maxHeartbeats 4000000 in
/-- print.head -/
theorem ev57 (r : Rl) (h : r.good) : fnK (mkCtx tab glob) EP1 kp57 fr57 0 Tryd.f57 [r.enc] = some [.s (headS r)] := by
  have hh := headS_le r h
  obtain ⟨h1, h2, h3, h4, h5, h6⟩ := h
  have a1 := F83_at r.tg h1 h2
  have a2 := F83_at r.pr h3 h4
  obtain ⟨tg, pr, fl, pg, rc, fi, ln⟩ := r
  simp only at *
  simp only [headS] at *
  have a3 : F84 [.st [.v (.int .i64 fl), .s pg]] = some [.s (attrT fl pg)] := rfl
  have b1 := joinQ_le tg h1 h2
  have b2 := joinQ_le pr h3 h4
  have b3 := attrT_le fl pg
  generalize joinQ tg = t1 at *
  generalize joinQ pr = t2 at *
  generalize attrT fl pg = t3 at *
  have c1 : t1.length + 1 ≤ lim := by unfold lim; omega
  have c2 : t3.length + 1 ≤ lim := by unfold lim; omega
  have c3 : t1.length + 1 + (t3.length + 1) ≤ lim := by unfold lim; omega
  have c4 : 1 + t2.length ≤ lim := by unfold lim; omega
  have c5 : t1.length + (t3.length + 1 + 1) + (t2.length + 1) ≤ lim := by unfold lim; omega
  have c6 : t1.length + 1 + (t2.length + 1) ≤ lim := by unfold lim; omega
  cases t3 with
  | nil =>
    cases pr with
    | nil => simp [Tryd.f57, EP1, EQ3, EQ2, EQ1, EQ0, Rl.enc, a1, a3, c1]
    | cons x pr => 
      have hp : (0 : Int) < (pr.length : Int) + 1 := by omega
      simp only [List.map_cons] at a2
      simp [Tryd.f57, EP1, EQ3, EQ2, EQ1, EQ0, Rl.enc, a1, a2, a3, c1, c4, c6, hp]
  | cons b t3 =>
    simp only [List.length_cons] at *
    cases pr with
    | nil => simp [Tryd.f57, EP1, EQ3, EQ2, EQ1, EQ0, Rl.enc, a1, a3, c1, c2, c3]
    | cons x pr =>
      have hp : (0 : Int) < (pr.length : Int) + 1 := by omega
      simp only [List.map_cons] at a2
      simp [Tryd.f57, EP1, EQ3, EQ2, EQ1, EQ0, Rl.enc, a1, a2, a3, c1, c2, c3, c4, c5, hp]
/-- print.body -/
theorem ev58 (l : List UInt8) (hl : l.length < 4294967281) : fnK (mkCtx tab glob) EL kp58 fr58 0 Tryd.f58 [.s l] = some [.sl 1 ((phys l).map .s)] := by
  by_cases h : l = []
  · simp [Tryd.f58, EL, phys, h]
  · have h' : l.isEmpty = false := by simpa using h
    have h2 := Nat.lt_of_le_of_lt (trimSuffix_le l [10]) hl
    simp [Tryd.f58, EL, F86, F85, phys, h, h', hl, h2]
theorem le_sum : ∀ {xs : List Nat} {n : Nat}, n ∈ xs → n ≤ xs.sum
  | [], n, h => by simp at h
  | x :: xs, n, h => by
    rcases List.mem_cons.1 h with rfl | h
    · simp
    · have := le_sum h
      simp
      omega
theorem phys_short (l : List UInt8) (n : Nat) (h : l.length < n) : shortL (n + 1) (phys l) = true ∧ (phys l).length ≤ n := by
  unfold phys
  split
  · exact ⟨rfl, Nat.zero_le _⟩
  · have h1 := trimSuffix_le l [10]
    rw [split_sp10 _ _ (Nat.le_refl _)]
    have h2 := sp10_len (Lib.trimSuffix l [10])
    generalize sp10 (Lib.trimSuffix l [10]) = xs at *
    refine ⟨?_, by omega⟩
    unfold shortL
    rw [List.all_eq_true]
    intro x hx
    have : x.length ≤ (xs.map List.length).sum := le_sum (List.mem_map.2 ⟨x, hx, rfl⟩)
    simp
    omega
end Go.Ab

set_option linter.unusedVariables false
set_option linter.unusedSimpArgs false
set_option maxRecDepth 100000
namespace Go.Ab
open Go.Proofs
variable {glob : Nat → Option (List D)} {p : Nat → Addr} {o : Nat → Obj}

theorem liftR_some {f : Rl → Option (List D)} {ds rs : List D} (h : liftR f ds = some rs) : ∃ r : Rl, r.good ∧ [r.enc] = ds ∧ f r = some rs := liftG_some h
noncomputable def F31 : List D → Option (List D) := liftR fun r => some [.v (.bool (toldS r))]
noncomputable def F57 : List D → Option (List D) := liftR fun r => some [.s (headS r)]
noncomputable def EP2 : Abs := ext (ext (ext EP1 31 F31) 57 F57) 58 F58
section
variable {m : Int} (h20 : glob 20 = some [.v (.int .i64 m)])
include h20
theorem EP2_ok : ∀ f, Pure Tryd.prog (mkCtx tab glob) f (EP2 f) := by
  refine ext_ok (ext_ok (ext_ok (EP1_ok h20) ?_) ?_) ?_
  · refine pure_of (T_ok glob) (EP1_ok h20) Tryd.func31 (by kernel_rfl) (kp := kp31) (fr := fr31) (by kernel_rfl) fun ds rs hF => ?_
    obtain ⟨r, hr, rfl, h⟩ := liftR_some hF
    cases h
    exact ⟨0, ev31 r hr⟩
  · refine pure_of (T_ok glob) (EP1_ok h20) Tryd.func57 (by kernel_rfl) (kp := kp57) (fr := fr57) (by kernel_rfl) fun ds rs hF => ?_
    obtain ⟨r, hr, rfl, h⟩ := liftR_some hF
    cases h
    exact ⟨0, ev57 r hr⟩
  · refine pure_of (T_ok glob) (EL_ok h20) Tryd.func58 (by kernel_rfl) (kp := kp58) (fr := fr58) (by kernel_rfl) fun ds rs hF => ?_
    unfold F58 at hF
    split at hF
    · split at hF
      · rename_i h
        cases hF
        exact ⟨0, ev58 _ h⟩
      · simp at hF
    · simp at hF
end
theorem decl_lt (a n : Nat) : decide ((a : Int) < (n : Int)) = decide (a < n) := by
  by_cases h : a < n <;> simp [h]
set_option maxHeartbeats 8000000 in
/-- print.check -/
theorem ev56 (hs : Sents glob p o) (r : Rl) (h : r.good) : fnK (mkCtx tab glob) EP2 kp56 fr56 0 Tryd.f56 [r.enc] = some [errD p o (checkS r)] := by
  have g1 := hs.glob 1 (by decide) (by decide)
  have g2 := hs.glob 2 (by decide) (by decide)
  have g3 := hs.glob 3 (by decide) (by decide)
  have a1 : F31 [r.enc] = some [.v (.bool (toldS r))] := liftR_enc r h
  have a2 : F57 [r.enc] = some [.s (headS r)] := liftR_enc r h
  have hh := headS_le r h
  obtain ⟨h1, h2, h3, h4, h5, h6⟩ := h
  have hp := phys_short r.rc 1201 (by omega)
  have a3 : F58 [.s r.rc] = some [.sl 1 ((phys r.rc).map .s)] := by simp only [F58]; rw [if_pos (by omega)]
  have a4 := F65_at 81 _ rfl r.tg (by omega) (short_le h2 (by omega))
  have a5 := F65_at 81 _ rfl r.pr (by omega) (short_le h4 (by omega))
  have a6 := F65_at 82 _ rfl (phys r.rc) (by omega) (short_le hp.1 (by omega))
  have a7 : FL81 400 [.s (headS r)] = some [.v (.bool (decide (400 < (headS r).length)))] := by simp only [FL81]; rw [if_pos (by omega)]
  have a8 : decide ((40 : Int) < (r.tg.length : Int)) = decide (40 < r.tg.length) := decl_lt 40 _
  have a9 : decide ((40 : Int) < (r.pr.length : Int)) = decide (40 < r.pr.length) := decl_lt 40 _
  have hc : checkS r = if toldS r = false then 3 else if (decide (40 < r.tg.length) || decide (40 < r.pr.length)) = true then 1
    else if (r.tg.any (fun l => decide (120 < l.length)) || r.pr.any (fun l => decide (120 < l.length))) = true then 2
    else if (decide (400 < (headS r).length) || (phys r.rc).any (fun l => decide (400 < l.length))) = true then 2 else 0 := rfl
  rw [hc]
  clear hc
  obtain ⟨tg, pr, fl, pg, rc, fi, ln⟩ := r
  simp only [Rl.enc] at *
  generalize toldS _ = t at *
  generalize headS _ = hd at *
  generalize phys rc = ph at *
  generalize List.any tg _ = b1 at *
  generalize List.any pr _ = b2 at *
  generalize List.any ph _ = b3 at *
  generalize decide (400 < hd.length) = b4 at *
  generalize decide (40 < tg.length) = b5 at *
  generalize decide (40 < pr.length) = b6 at *
  clear hs hh h1 h2 h3 h4 h5 h6 hp
  cases t with
  | false => simp [Tryd.f56, EP2, EP1, EQ3, EQ2, EQ1, EQ0, a1, g3, errD]
  | true =>
    simp [Tryd.f56, EP2, EP1, EQ3, EQ2, EQ1, EQ0, a1, a8]
    iterate 11 (all_goals try (refine condK_cases (fun h => ?_) (fun h => ?_) <;> simp [*, EP2, EP1, EQ3, EQ2, EQ1, EQ0, errD]))
    all_goals (exfalso; clear a1 a2 a3 a4 a5 a6 a7 a8 a9 g1 g2 g3; simp_all)

def ruleS (r : Rl) : List UInt8 := headS r ++ [10] ++ ((phys r.rc).map fun s => 9 :: (s ++ [10])).flatten
noncomputable def F56 (p : Nat → Addr) (o : Nat → Obj) : List D → Option (List D) := liftR fun r => some [errD p o (checkS r)]
noncomputable def EP3 (p : Nat → Addr) (o : Nat → Obj) : Abs := ext EP2 56 (F56 p o)
theorem EP3_ok {m : Int} (hs : Sents glob p o) (h20 : glob 20 = some [.v (.int .i64 m)]) : ∀ f, Pure Tryd.prog (mkCtx tab glob) f (EP3 p o f) := by
  refine ext_ok (EP2_ok h20) ?_
  refine pure_of (T_ok glob) (EP2_ok h20) Tryd.func56 (by kernel_rfl) (kp := kp56) (fr := fr56) (by kernel_rfl) fun ds rs hF => ?_
  obtain ⟨r, hr, rfl, h⟩ := liftR_some hF
  cases h
  exact ⟨0, ev56 hs r hr⟩
theorem phys_sum (l : List UInt8) : ((phys l).map List.length).sum + (phys l).length ≤ l.length + 1 := by
  unfold phys
  split
  · simp
  · have h1 := trimSuffix_le l [10]
    rw [split_sp10 _ _ (Nat.le_refl _)]
    have h2 := sp10_len (Lib.trimSuffix l [10])
    omega
theorem lines_len (xs : List (List UInt8)) : ((xs.map fun s => 9 :: (s ++ [10])).flatten).length = (xs.map List.length).sum + 2 * xs.length := by
  induction xs with
  | nil => rfl
  | cons x xs ih =>
    simp only [List.map_cons, List.flatten_cons, List.length_append, ih, List.sum_cons, List.length_cons, List.length_nil]
    omega
theorem take_sum (xs : List (List UInt8)) (j : Nat) : ((xs.take j).map List.length).sum ≤ (xs.map List.length).sum := by
  conv => rhs; rw [← List.take_append_drop j xs, List.map_append, List.sum_append]
  omega
set_option maxHeartbeats 8000000 in
/-- print.Rule -/
theorem ev28 (r : Rl) (h : r.good) : fnK (mkCtx tab glob) (EP3 p o) kp28 fr28 ((phys r.rc).length + 2) Tryd.f28 [r.enc] = some (if checkS r = 0 then [.s (ruleS r), .v .nilIface] else [.s [], errD p o (checkS r)]) := by
  have a1 : F56 p o [r.enc] = some [errD p o (checkS r)] := liftR_enc r h
  have a2 : F57 [r.enc] = some [.s (headS r)] := liftR_enc r h
  have hh := headS_le r h
  obtain ⟨h1, h2, h3, h4, h5, h6⟩ := h
  have hp := phys_short r.rc 1201 (by omega)
  have hsum := phys_sum r.rc
  have a3 : F58 [.s r.rc] = some [.sl 1 ((phys r.rc).map .s)] := by simp only [F58]; rw [if_pos (by omega)]
  have hr : ruleS r = headS r ++ [10] ++ ((phys r.rc).map fun s => 9 :: (s ++ [10])).flatten := rfl
  rw [hr]
  clear hr
  obtain ⟨tg, pr, fl, pg, rc, fi, ln⟩ := r
  simp only [Rl.enc] at *
  generalize checkS _ = c at *
  generalize headS _ = hd at *
  generalize phys rc = ph at *
  cases c with
  | succ c =>
    simp only [errD] at a1
    simp [Tryd.f28, EP3, EP2, EP1, EQ3, EQ2, EQ1, EQ0, a1, errD]
  | zero =>
    simp only [errD] at a1
    have hb : hd.length + 1 ≤ lim := by unfold lim; omega
    simp [Tryd.f28, EP3, EP2, EP1, EQ3, EQ2, EQ1, EQ0, a1, a2, a3, hb, iceMark]
    refine loop_rule (R := List D) (σ := Nat) (fun j => ⟨slots 31 [(5, .d (.s (hd ++ 10 :: ((ph.take j).map fun s => 9 :: (s ++ [10])).flatten))), (18, .d (.sl 1 (ph.map .s))), (19, .d (.v (.int .i64 ph.length))), (20, .d (.v (.int .i64 j)))], []⟩) (fun j => ph.length - j) (fun j => j ≤ ph.length)
      (fun j => some [.s (hd ++ 10 :: (ph.map fun s => 9 :: (s ++ [10])).flatten), .v .nilIface]) 0 [5, 18, 19, 20] (by simp [kp28]) (by omega) (by omega) (by simp) ?_
    intro j κ' hjl hn he hr
    have hw : IntKind.i64.wrap (↑j + 1) = ↑j + 1 := wrap_i64 (by omega) (by omega)
    by_cases hj : j < ph.length
    · have hx := short_at hp.1 (s := ph[j]) (List.getElem_mem hj)
      have ht : (ph.take (j + 1)).map (fun s => (9 : UInt8) :: (s ++ [10])) = (ph.take j).map (fun s => (9 : UInt8) :: (s ++ [10])) ++ [9 :: (ph[j] ++ [10])] := by
        rw [List.take_succ_eq_append_getElem hj, List.map_append]
        rfl
      have hlen := lines_len (ph.take j)
      have hts := take_sum ph j
      have hm : min j ph.length = j := by omega
      rw [List.length_take, hm] at hlen
      have e1 : 1 + ph[j].length ≤ lim := by unfold lim; omega
      have e2 : ph[j].length + 1 + 1 ≤ lim := by unfold lim; omega
      generalize hq : ((ph.take j).map fun s => (9 : UInt8) :: (s ++ [10])).flatten = q at *
      have e3 : hd.length + (q.length + 1) + (ph[j].length + 1 + 1) ≤ lim := by unfold lim; omega
      simp [hj, hw, e1, e2, e3, hq]
      refine hn (j + 1) _ (by omega) (by omega) ?_
      subst hq
      rw [ht]
      simp
    · have hj2 : j = ph.length := by omega
      subst hj2
      simp [he]
end Go.Ab

set_option linter.unusedVariables false
set_option linter.unusedSimpArgs false
set_option maxRecDepth 100000
namespace Go.Ab
open Go.Proofs
variable {glob : Nat → Option (List D)} {p : Nat → Addr} {o : Nat → Obj}

theorem ruleS_le (r : Rl) (h : r.good) : (ruleS r).length ≤ 40000 := by
  have h1 := headS_le r h
  have h2 := phys_sum r.rc
  have h3 := lines_len (phys r.rc)
  obtain ⟨_, _, _, _, h4, _⟩ := h
  unfold ruleS
  simp only [List.length_append, h3, List.length_cons, List.length_nil]
  omega
noncomputable def F28 (p : Nat → Addr) (o : Nat → Obj) : List D → Option (List D) := liftR fun r => some (if checkS r = 0 then [.s (ruleS r), .v .nilIface] else [.s [], errD p o (checkS r)])
noncomputable def EP4 (p : Nat → Addr) (o : Nat → Obj) : Abs := ext (EP3 p o) 28 (F28 p o)
theorem EP4_ok {m : Int} (hs : Sents glob p o) (h20 : glob 20 = some [.v (.int .i64 m)]) : ∀ f, Pure Tryd.prog (mkCtx tab glob) f (EP4 p o f) := by
  refine ext_ok (EP3_ok hs h20) ?_
  refine pure_of (T_ok glob) (EP3_ok hs h20) Tryd.func28 (by kernel_rfl) (kp := kp28) (fr := fr28) (by kernel_rfl) fun ds rs hF => ?_
  obtain ⟨r, hr, rfl, h⟩ := liftR_some hF
  cases h
  exact ⟨_, ev28 r hr⟩
/-- print.Text: the text, and the error's number among the variables; from a text on. -/
def textS : List Rl → List UInt8 → List UInt8 × Nat
  | [], out => if 4000 < out.length then ([], 2) else (out, 0)
  | r :: rs, out => if checkS r = 0 then textS rs (out ++ (ruleS r ++ [10])) else ([], checkS r)
theorem enc_cells (r : Rl) : r.enc.cells = [.sl 1 (r.tg.map .s), .sl 1 (r.pr.map .s), .v (.int .i64 r.fl), .s r.pg, .s r.rc, .s r.fi, .v (.int .i64 r.ln)] := rfl
set_option maxHeartbeats 8000000 in
theorem ev33 (hs : Sents glob p o) (rs : List Rl) (h : ∀ r ∈ rs, r.good) (hn : rs.length ≤ 30) : fnK (mkCtx tab glob) (EP4 p o) kp33 fr33 (rs.length + 2) Tryd.f33 [.sl 7 (rs.map Rl.enc)] =
    some (if 24 < rs.length then [.s [], errD p o 1] else [.s (textS rs []).1, errD p o (textS rs []).2]) := by
  have g1 := hs.glob 1 (by decide) (by decide)
  have g2 := hs.glob 2 (by decide) (by decide)
  by_cases hl : 24 < rs.length
  · have hl' : (24 : Int) < rs.length := by omega
    simp [Tryd.f33, EP4, EP3, EP2, EP1, EQ3, EQ2, EQ1, EQ0, hl, hl', g1, errD, fr33]
  · have hl' : ¬ (24 : Int) < rs.length := by omega
    simp [Tryd.f33, EP4, EP3, EP2, EP1, EQ3, EQ2, EQ1, EQ0, hl, hl']
    refine loop_rule (R := List D) (σ := Nat × List UInt8) (fun x => ⟨slots 37 [(4, .d (.s x.2)), (13, .d (.sl 7 (rs.map Rl.enc))), (14, .d (.v (.int .i64 rs.length))), (15, .d (.v (.int .i64 x.1)))], []⟩) (fun x => rs.length - x.1) (fun x => x.1 ≤ rs.length ∧ x.2.length ≤ x.1 * 40001)
      (fun x => some [.s (textS (rs.drop x.1) x.2).1, errD p o (textS (rs.drop x.1) x.2).2]) (0, []) [4, 13, 14, 15] (by simp [kp33]) (by simp) (by simp) (by simp) ?_
    rintro ⟨j, out⟩ κ' ⟨hjl, hol⟩ hnx he hr
    simp only at hjl hol hnx he hr ⊢
    have hw : IntKind.i64.wrap (↑j + 1) = ↑j + 1 := wrap_i64 (by omega) (by omega)
    by_cases hj : j < rs.length
    · have hd : rs.drop j = rs[j] :: rs.drop (j + 1) := List.drop_eq_getElem_cons hj
      have hg := h rs[j] (List.getElem_mem hj)
      have a1 : F28 p o [rs[j].enc] = some (if checkS rs[j] = 0 then [.s (ruleS rs[j]), .v .nilIface] else [.s [], errD p o (checkS rs[j])]) := liftR_enc _ hg
      have hrl := ruleS_le rs[j] hg
      rw [hd]
      simp only [textS]
      generalize hr0 : rs[j] = r at *
      generalize ruleS r = tx at *
      generalize hcc : checkS r = c at *
      have hrr : (rs.map Rl.enc)[j]? = some r.enc := by rw [List.getElem?_map, List.getElem?_eq_getElem hj, hr0]; rfl
      have hrr2 : (rs.map Rl.enc)[j]'(by simpa using hj) = r.enc := by simp [hr0]
      have e1 : tx.length + 1 ≤ lim := by unfold lim; omega
      have e2 : out.length + (tx.length + 1) ≤ lim := by unfold lim; omega
      obtain ⟨tg, pr, fl, pg, rc, fi, ln⟩ := r
      simp only [Rl.enc] at a1 hrr hrr2
      cases c with
      | zero =>
        simp only [if_true] at a1
        simp [hj, hr0, Rl.enc, a1, e1, e2, hw, EP4, EP3, EP2, EP1, EQ3, EQ2, EQ1, EQ0]
        exact hnx (j + 1, out ++ (tx ++ [10])) _ ⟨by omega, by simp; omega⟩ (by simp; omega) (by simp [Rl.enc])
      | succ c =>
        simp only [Nat.add_one_ne_zero, if_false, errD] at a1
        simp [hj, hr0, Rl.enc, a1, EP4, EP3, EP2, EP1, EQ3, EQ2, EQ1, EQ0, hr, errD]
    · have hj2 : j = rs.length := by omega
      subst hj2
      rw [List.drop_length]
      simp only [textS]
      by_cases ho : 4000 < out.length
      · have ho' : (4000 : Int) < out.length := by omega
        simp [he, ho, ho', g2, errD, fr33]
      · have ho' : ¬ (4000 : Int) < out.length := by omega
        simp [he, ho, ho', g2, errD, fr33]
/-- millwrightlaw20.Of -/
theorem ev55 (E : Abs) (r : Rl) : fnK (mkCtx tab glob) E kp55 fr55 0 Tryd.f55 [r.enc] = some [r.enc] := by
  simp [Tryd.f55, Rl.enc, iceMark]
def F55 : List D → Option (List D)
  | [.st [.sl 1 a, .sl 1 b, .v (.int .i64 c), .s d, .s e, .s f, .v (.int .i64 g)]] => match strsOf a, strsOf b with
    | some a', some b' => some [.st [.sl 1 (a'.map .s), .sl 1 (b'.map .s), .v (.int .i64 c), .s d, .s e, .s f, .v (.int .i64 g)]]
    | _, _ => none
  | _ => none
theorem F55_at (r : Rl) : F55 [r.enc] = some [r.enc] := by
  simp [F55, Rl.enc, strsOf_map]
def ER0 : Abs := ext (fun _ _ => none) 55 F55
theorem ER0_ok : ∀ f, Pure Tryd.prog (mkCtx tab glob) f (ER0 f) := by
  refine ext_ok none_ok ?_
  refine pure_of (T_ok glob) none_ok Tryd.func55 (by kernel_rfl) (kp := kp55) (fr := fr55) (by kernel_rfl) fun ds rs hF => ?_
  unfold F55 at hF
  split at hF
  · rename_i a b c d e f g
    split at hF
    · rename_i a' b' ha hb
      cases hF
      obtain rfl := strsOf_some ha
      obtain rfl := strsOf_some hb
      exact ⟨0, ev55 _ ⟨a', b', c, d, e, f, g⟩⟩
    · simp at hF
  · simp at hF
set_option maxHeartbeats 8000000 in
/-- millwrightlaw20.Rules -/
theorem ev27 (rs : List Rl) (hn : rs.length ≤ 30) : fnK (mkCtx tab glob) ER0 kp27 fr27 (rs.length + 2) Tryd.f27 [.sl 7 (rs.map Rl.enc)] = some [.sl 7 (rs.map Rl.enc)] := by
  simp [Tryd.f27, ER0]
  refine loop_rule (R := List D) (σ := Nat) (fun j => ⟨slots 20 [(3, .own (1, 6)), (7, .d (.sl 7 (rs.map Rl.enc))), (8, .d (.v (.int .i64 rs.length))), (9, .d (.v (.int .i64 j)))], [((1, 6), .tok 7 ((rs.take j).map Rl.enc))]⟩) (fun j => rs.length - j) (fun j => j ≤ rs.length) (fun j => some [.sl 7 (rs.map Rl.enc)]) 0 [3, 7, 8, 9] (by simp [kp27]) (by omega) (by omega) (by simp) ?_
  intro j κ' hjl hn' he hr
  have hw : IntKind.i64.wrap (↑j + 1) = ↑j + 1 := wrap_i64 (by omega) (by omega)
  by_cases hj : j < rs.length
  · have ht : (rs.take (j + 1)).map Rl.enc = (rs.take j).map Rl.enc ++ [rs[j].enc] := by
      rw [List.take_succ_eq_append_getElem hj, List.map_append]
      rfl
    have hm : min j rs.length = j := by omega
    have hb : j + 1 ≤ lim := by unfold lim; omega
    have a1 := F55_at rs[j]
    simp only [Rl.enc] at a1
    simp [hj, Rl.enc, a1, hw, hm, hb]
    refine hn' (j + 1) _ (by omega) (by omega) ?_
    rw [ht]
    simp [Rl.enc]
  · have hj2 : j = rs.length := by omega
    subst hj2
    simp [he]
end Go.Ab
