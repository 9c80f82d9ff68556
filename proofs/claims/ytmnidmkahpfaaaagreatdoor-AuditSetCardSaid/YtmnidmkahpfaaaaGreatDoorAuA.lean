/- One text of a proof that a law of this seat says true for every input: options and what they keep to. It holds of the given program under the conditions that the row prints. -/
import Derived.Test.YtmnidmkahpfaaaaGreatDoorAbClone
import Derived.Test.YtmnidmkahpfaaaaGreatDoorAbFast
import Derived.Test.YtmnidmkahpfaaaaGreatDoorAbAuto
import Derived.Test.YtmnidmkahpfaaaaGreatDoorAbG
import Derived.Test.YtmnidmkahpfaaaaGreatDoorErA
set_option linter.unusedSimpArgs false
set_option linter.unusedVariables false
set_option linter.unusedSectionVars false
set_option maxRecDepth 100000
namespace Go.Ab
open Go.Proofs
variable {glob : Nat → Option (List D)}
/-- Are there more texts than so many, or is one longer than so many bytes? -/
def anyLong (ls : List (List UInt8)) (most : Int) : Bool := ls.any fun s => decide (most < (s.length : Int))
def longB (ls : List (List UInt8)) (many most : Int) : Bool := decide (many < (ls.length : Int)) || anyLong ls most
theorem anyLong_hit {ls : List (List UInt8)} {most : Int} (i : Nat) (h : i < ls.length) (hb : most < (ls[i].length : Int)) : anyLong ls most = true := by
  unfold anyLong
  rw [List.any_eq_true]
  exact ⟨ls[i], List.getElem_mem h, by simpa using hb⟩
theorem anyLong_miss {ls : List (List UInt8)} {most : Int} (hb : ∀ i (h : i < ls.length), ¬ most < (ls[i].length : Int)) : anyLong ls most = false := by
  unfold anyLong
  rw [List.any_eq_false]
  intro x hx
  obtain ⟨i, h, rfl⟩ := List.mem_iff_getElem.1 hx
  simpa using hb i h
set_option maxHeartbeats 4000000 in
/-- millwrightnum.Long -/
theorem evNumLong (E : Abs) (ls : List (List UInt8)) (many most : Int) (hl : ls.length ≤ 9223372036854775807) :
    fnK (mkCtx tab glob) E kp12 fr12 (ls.length + 1) Tryz.f12 [.sl 1 (ls.map .s), .v (.int .i64 many), .v (.int .i64 most)] = some [.v (.bool (longB ls many most))] := by
  have hA : ∀ i (h : i < ls.length), (ls.map D.s)[i]? = some (.s ls[i]) := fun i h => by simp [h]
  have hAl : (ls.map D.s).length = ls.length := by simp
  have hT := fun i h hb => anyLong_hit (ls := ls) (most := most) i h hb
  have hF := fun hb => anyLong_miss (ls := ls) (most := most) hb
  unfold longB
  generalize anyLong ls most = RR at *
  generalize ls.map D.s = LA at *
  by_cases hm : many < (ls.length : Int)
  · simp [Tryz.f12, hAl, hm]
  · simp [Tryz.f12, hAl, hm]
    refine loop_rule (R := List D) (σ := Nat) (fun i => ⟨slots 24 [(2, .d (.v (.int .i64 most))), (13, .d (.sl 1 LA)), (14, .d (.v (.int .i64 ls.length))), (15, .d (.v (.int .i64 i)))], []⟩) (fun i => ls.length - i) (fun i => i ≤ ls.length ∧ ∀ j (h : j < ls.length), j < i → ¬ most < (ls[j].length : Int)) (fun _ => some [.v (.bool RR)]) 0 [2, 13, 14, 15] (by simp [kp12]) ⟨Nat.zero_le _, fun j h hj => absurd hj (Nat.not_lt_zero _)⟩ (by omega) (by simp) ?_
    rintro i κ' ⟨hi, hinv⟩ hn he hr
    have hw : i < ls.length → IntKind.i64.wrap ((i : Int) + 1) = (i : Int) + 1 := fun h => wrap_i64 (by omega) (by omega)
    by_cases hil : i < ls.length
    · have hil' : (i : Int) < ls.length := by omega
      have hg := hA i hil
      have hg6 := (List.getElem?_eq_some_iff.1 hg).2
      have hw := hw hil
      by_cases hb : most < (ls[i].length : Int)
      · have hRR := hT i hil hb
        subst hRR
        generalize ls[i] = x at *
        simp [hAl, hil, hil', hg, hg6, hb, hr]
      · have hinv' : ∀ j (h : j < ls.length), j < i + 1 → ¬ most < (ls[j].length : Int) := fun j h hj => by
          by_cases e : j = i
          · subst e; exact hb
          · exact hinv j h (by omega)
        generalize hx : ls[i] = x at *
        simp [hAl, hil, hil', hg, hg6, hb, hw]
        exact hn (i + 1) _ ⟨by omega, hinv'⟩ (by omega) (by simp)
    · have hRR := hF fun j h => hinv j h (by omega)
      subst hRR
      have hil' : ¬ (i : Int) < ls.length := by omega
      simp [hAl, hil, hil', he, hr]
/-- millwrightnum.Long, as a contract -/
def FNL : List D → Option (List D)
  | [.sl 1 xs, .v (.int .i64 many), .v (.int .i64 most)] => match strsD xs with
    | some ls => if ls.length ≤ 9223372036854775807 then some [.v (.bool (longB ls many most))] else none
    | none => none
  | _ => none
theorem FNL_eq (ls : List (List UInt8)) (many most : Int) (hl : ls.length ≤ 9223372036854775807) : FNL [.sl 1 (ls.map .s), .v (.int .i64 many), .v (.int .i64 most)] = some [.v (.bool (longB ls many most))] := by
  simp only [FNL, strsD_map]
  rw [if_pos hl]
theorem FNL_ok : Pure Tryz.prog (mkCtx tab glob) 12 FNL := by
  refine pure_of (T_ok glob) none_ok Tryz.func12 (by kernel_rfl) (kp := kp12) (fr := fr12) (by kernel_rfl) fun ds rs hF => ?_
  unfold FNL at hF
  split at hF
  · split at hF
    · rename_i ls hls
      split at hF
      · rename_i h
        cases hF
        obtain rfl := strsD_some hls
        exact ⟨_, evNumLong _ ls _ _ h⟩
      · simp at hF
    · simp at hF
  · simp at hF
theorem take_next {α : Type} {a b : List α} {i : Nat} (h1 : i < a.length) (h2 : i < b.length) (hp : a.take i = b.take i) (h : a[i] = b[i]) : a.take (i + 1) = b.take (i + 1) := by
  rw [List.take_succ_eq_append_getElem h1, List.take_succ_eq_append_getElem h2, hp, h]
set_option maxHeartbeats 4000000 in
/-- millwrightnum.SameTexts -/
theorem evSameTexts (E : Abs) (a b : List (List UInt8)) (hl : a.length ≤ 9223372036854775807) :
    fnK (mkCtx tab glob) E kp8 fr8 (a.length + 1) Tryz.f8 [.sl 1 (a.map .s), .sl 1 (b.map .s)] = some [.v (.bool (decide (a = b)))] := by
  have hA : ∀ i (h : i < a.length), (a.map D.s)[i]? = some (.s a[i]) := fun i h => by simp [h]
  have hAl : (a.map D.s).length = a.length := by simp
  have hB : ∀ i (h : i < b.length), (b.map D.s)[i]? = some (.s b[i]) := fun i h => by simp [h]
  have hBl : (b.map D.s).length = b.length := by simp
  generalize a.map D.s = LA at *
  generalize b.map D.s = LB at *
  by_cases hll : a.length = b.length
  · have hll' : (a.length : Int) = b.length := by omega
    simp [Tryz.f8, hAl, hBl, hll]
    refine loop_rule (R := List D) (σ := Nat) (fun i => ⟨slots 26 [(0, .d (.sl 1 LA)), (1, .d (.sl 1 LB)), (12, .d (.v (.int .i64 b.length))), (13, .d (.v (.int .i64 i)))], []⟩) (fun i => a.length - i) (fun i => i ≤ a.length ∧ a.take i = b.take i) (fun _ => some [.v (.bool (decide (a = b)))]) 0 [0, 1, 12, 13] (by simp [kp8]) ⟨Nat.zero_le _, rfl⟩ (by omega) (by simp) ?_
    rintro i κ' ⟨hi, hpre⟩ hn he hr
    by_cases hil : i < a.length
    · have hil2 : i < b.length := by omega
      have hil' : (i : Int) < a.length := by omega
      have hil2' : (i : Int) < b.length := by omega
      have hw : IntKind.i64.wrap ((i : Int) + 1) = (i : Int) + 1 := wrap_i64 (by omega) (by omega)
      have hg := hA i hil
      have hg2 := hB i hil2
      have hg6 := (List.getElem?_eq_some_iff.1 hg).2
      have hg26 := (List.getElem?_eq_some_iff.1 hg2).2
      have hx : a[i] = b[i] → a.take (i + 1) = b.take (i + 1) := take_next hil hil2 hpre
      have hy : a[i] ≠ b[i] → decide (a = b) = false := fun h => by
        rw [decide_eq_false_iff_not]
        intro e
        subst e
        exact h rfl
      generalize a[i] = x at *
      generalize b[i] = y at *
      by_cases hxy : x = y
      · subst hxy
        simp [hAl, hBl, hil, hil', hil2, hil2', hg, hg6, hg2, hg26, hw, fr8]
        exact hn (i + 1) _ ⟨by omega, hx rfl⟩ (by omega) (by simp)
      · have hd := hy hxy
        have hxy' : (x == y) = false := by simpa using hxy
        rw [hd]
        simp [hAl, hBl, hil, hil', hil2, hil2', hg, hg6, hg2, hg26, hw, hxy, hxy', hr, fr8]
    · obtain rfl : i = a.length := by omega
      have hab : a = b := by
        rw [List.take_of_length_le (Nat.le_refl _), List.take_of_length_le (by omega)] at hpre
        exact hpre
      have hil2 : ¬ a.length < b.length := by omega
      have hil2' : ¬ (a.length : Int) < b.length := by omega
      have hd : decide (a = b) = true := decide_eq_true hab
      rw [hd]
      simp [hAl, hBl, hil2, hil2', hll, he, hr]
  · have hll' : ¬ (a.length : Int) = b.length := by omega
    have hd : decide (a = b) = false := by
      rw [decide_eq_false_iff_not]
      intro e
      subst e
      exact hll rfl
    have hne : ((a.length : Int) != b.length) = true := by simpa using hll'
    rw [hd]
    simp [Tryz.f8, hAl, hBl, hll, hll', hne]
def FST : List D → Option (List D)
  | [.sl 1 xs, .sl 1 ys] => match strsD xs, strsD ys with
    | some a, some b => if a.length ≤ 9223372036854775807 then some [.v (.bool (decide (a = b)))] else none
    | _, _ => none
  | _ => none
theorem FST_eq (a b : List (List UInt8)) (hl : a.length ≤ 9223372036854775807) : FST [.sl 1 (a.map .s), .sl 1 (b.map .s)] = some [.v (.bool (decide (a = b)))] := by
  simp only [FST, strsD_map]
  rw [if_pos hl]
theorem FST_ok : Pure Tryz.prog (mkCtx tab glob) 8 FST := by
  refine pure_of (T_ok glob) none_ok Tryz.func8 (by kernel_rfl) (kp := kp8) (fr := fr8) (by kernel_rfl) fun ds rs hF => ?_
  unfold FST at hF
  split at hF
  · split at hF
    · rename_i a b h1 h2
      split at hF
      · rename_i h
        cases hF
        obtain rfl := strsD_some h1
        obtain rfl := strsD_some h2
        exact ⟨_, evSameTexts _ a b h⟩
      · simp at hF
    · simp at hF
  · simp at hF
end Go.Ab

set_option maxRecDepth 100000
namespace Go.Ab
open Go.Proofs
variable {glob : Nat → Option (List D)}
/-- A variable: name, words, level, hidden. -/
abbrev Va := List UInt8 × List (List UInt8) × Int × Bool
def encV (v : Va) : D := .st [.s v.1, .sl 1 (v.2.1.map .s), .v (.int .i64 v.2.2.1), .v (.bool v.2.2.2)]
/-- The act that sets it. -/
def encA (v : Va) : D := .st [.v (.int .i64 0), .s v.1, .sl 1 (v.2.1.map .s), .v (.int .i64 v.2.2.1), .v (.bool v.2.2.2)]
def vLong (v : Va) : Bool := decide (60 < (v.1.length : Int)) || longB v.2.1 60 200
def longV (vs : List Va) (most : Int) : Bool := decide (most < (vs.length : Int)) || vs.any vLong
def goodV (v : Va) : Prop := v.2.1.length ≤ 9223372036854775807
theorem anyV_hit {vs : List Va} (i : Nat) (h : i < vs.length) (hb : vLong vs[i] = true) : vs.any vLong = true := by
  rw [List.any_eq_true]
  exact ⟨vs[i], List.getElem_mem h, hb⟩
theorem anyV_miss {vs : List Va} (hb : ∀ i (h : i < vs.length), vLong vs[i] = false) : vs.any vLong = false := by
  rw [List.any_eq_false]
  intro x hx
  obtain ⟨i, h, rfl⟩ := List.mem_iff_getElem.1 hx
  rw [hb i h]
  simp
noncomputable def E14 : Abs := ext (fun _ _ => none) 12 FNL
set_option maxHeartbeats 8000000 in
/-- millwrightlaw14.Long -/
theorem evLong14 (vs : List Va) (most : Int) (hl : vs.length ≤ 9223372036854775807) (hv : ∀ v ∈ vs, goodV v) :
    fnK (mkCtx tab glob) E14 kp13 fr13 (vs.length + 1) Tryz.f13 [.sl 5 (vs.map encA), .v (.int .i64 most)] = some [.v (.bool (longV vs most))] := by
  have hA : ∀ i (h : i < vs.length), (vs.map encA)[i]? = some (encA vs[i]) := fun i h => by simp [h]
  have hAl : (vs.map encA).length = vs.length := by simp
  have hT := fun i h hb => anyV_hit (vs := vs) i h hb
  have hF := fun hb => anyV_miss (vs := vs) hb
  have hE : E14 12 = FNL := rfl
  unfold longV
  generalize vs.any vLong = RR at *
  generalize vs.map encA = LA at *
  by_cases hm : most < (vs.length : Int)
  · simp [Tryz.f13, hAl, hm]
  · simp [Tryz.f13, hAl, hm]
    refine loop_rule (R := List D) (σ := Nat) (fun i => ⟨slots 29 [(11, .d (.sl 5 LA)), (12, .d (.v (.int .i64 vs.length))), (13, .d (.v (.int .i64 i)))], []⟩) (fun i => vs.length - i) (fun i => i ≤ vs.length ∧ ∀ j (h : j < vs.length), j < i → vLong vs[j] = false) (fun _ => some [.v (.bool RR)]) 0 [11, 12, 13] (by simp [kp13]) ⟨Nat.zero_le _, fun j h hj => absurd hj (Nat.not_lt_zero _)⟩ (by omega) (by simp) ?_
    rintro i κ' ⟨hi, hinv⟩ hn he hr
    by_cases hil : i < vs.length
    · have hil' : (i : Int) < vs.length := by omega
      have hw : IntKind.i64.wrap ((i : Int) + 1) = (i : Int) + 1 := wrap_i64 (by omega) (by omega)
      have hg := hA i hil
      have hT := hT i hil
      have hgv := hv _ (List.getElem_mem hil)
      have hinv' : vLong vs[i] = false → ∀ j (h : j < vs.length), j < i + 1 → vLong vs[j] = false := fun hb j h hj => by
        by_cases e : j = i
        · subst e; exact hb
        · exact hinv j h (by omega)
      generalize vs[i] = x at *
      obtain ⟨nm, ws, lv, hd⟩ := x
      have hN := FNL_eq ws 60 200 hgv
      simp only [vLong] at hT hinv'
      unfold encA at hg
      have hg6 := (List.getElem?_eq_some_iff.1 hg).2
      simp only at hg hg6
      generalize ws.map D.s = W at *
      generalize longB ws 60 200 = wb at *
      by_cases hb : 60 < (nm.length : Int)
      · have hRR := hT (by simp [hb])
        subst hRR
        simp [hAl, hil, hil', hg, hg6, hb, hr]
      · cases wb with
        | true =>
          have hRR := hT (by simp)
          subst hRR
          simp [hAl, hil, hil', hg, hg6, hb, hr, hE, hN]
        | false =>
          simp [hAl, hil, hil', hg, hg6, hb, hr, hE, hN, hw]
          exact hn (i + 1) _ ⟨by omega, hinv' (by simp [hb])⟩ (by omega) (by simp)
    · have hRR := hF fun j h => hinv j h (by omega)
      subst hRR
      have hil' : ¬ (i : Int) < vs.length := by omega
      simp [hAl, hil, hil', he, hr]
end Go.Ab

set_option maxRecDepth 100000
namespace Go.Ab
open Go.Proofs
variable {glob : Nat → Option (List D)}
/-- Options: all, explain, ignore, keep, dry, touch, news, goals, file, nproc, vars. -/
structure Op31 where
  all : Bool
  explain : Bool
  ignore : Bool
  keep : Bool
  dry : Bool
  touch : Bool
  news : List (List UInt8)
  goals : List (List UInt8)
  file : List UInt8
  nproc : Int
  vars : List Va
def enc31 (o : Op31) : D := .st [.v (.bool o.all), .v (.bool o.explain), .v (.bool o.ignore), .v (.bool o.keep), .v (.bool o.dry), .v (.bool o.touch), .sl 1 (o.news.map .s), .sl 1 (o.goals.map .s), .s o.file, .v (.int .i64 o.nproc), .sl 4 (o.vars.map encV)]
def good31 (o : Op31) : Prop := o.news.length ≤ 9223372036854775807 ∧ o.goals.length ≤ 9223372036854775807 ∧ o.vars.length ≤ 2600000000000 ∧ ∀ v ∈ o.vars, goodV v
def long31 (o : Op31) : Bool := longB o.news 12 60 || longB o.goals 12 60 || decide (60 < (o.file.length : Int)) || longV o.vars 12
/-- The acts are of few bytes. -/
def few31 : TypeId → Bool := fun t => t == 62
theorem few31_ok (e : TypeId) (h : few31 e = true) : ∃ i, Tryz.prog.info? e = some i ∧ i.bytes ≤ 64 := by
  obtain rfl : e = 62 := by simpa [few31] using h
  have hb : (match Tryz.prog.info? 62 with | some i => Nat.ble i.bytes 64 | none => false) = true := by kernel_rfl
  split at hb
  · rename_i i hi
    exact ⟨i, hi, Nat.le_of_ble_eq_true hb⟩
  · simp at hb
/-- millwrightlaw14.Long, as a contract -/
noncomputable def FL14 : List D → Option (List D) := liftG (fun a : List Va × Int => a.1.length ≤ 9223372036854775807 ∧ ∀ v ∈ a.1, goodV v) (fun a => [.sl 5 (a.1.map encA), .v (.int .i64 a.2)]) fun a => some [.v (.bool (longV a.1 a.2))]
theorem encA_inj {a b : Va} (h : encA a = encA b) : a = b := by
  obtain ⟨n, ws, l, hd⟩ := a
  obtain ⟨n', ws', l', hd'⟩ := b
  simp only [encA, D.st.injEq, List.cons.injEq, D.s.injEq, D.sl.injEq, D.v.injEq, Value.int.injEq, Value.bool.injEq, true_and, and_true] at h
  obtain ⟨rfl, h2, rfl, rfl⟩ := h
  have := congrArg strsD h2
  rw [strsD_map, strsD_map] at this
  cases this
  rfl
theorem mapA_inj : ∀ {a b : List Va}, a.map encA = b.map encA → a = b
  | [], [], _ => rfl
  | [], _ :: _, h => by simp at h
  | _ :: _, [], h => by simp at h
  | x :: a, y :: b, h => by
    simp only [List.map_cons, List.cons.injEq] at h
    rw [encA_inj h.1, mapA_inj h.2]
theorem FL14_eq (vs : List Va) (k : Int) (h1 : vs.length ≤ 9223372036854775807) (h2 : ∀ v ∈ vs, goodV v) : FL14 [.sl 5 (vs.map encA), .v (.int .i64 k)] = some [.v (.bool (longV vs k))] :=
  liftG_enc (good := fun a : List Va × Int => a.1.length ≤ 9223372036854775807 ∧ ∀ v ∈ a.1, goodV v) (enc := fun a => [.sl 5 (a.1.map encA), .v (.int .i64 a.2)]) (f := fun a => some [D.v (.bool (longV a.1 a.2))]) (fun a b _ _ h => by
    simp only [List.cons.injEq, D.sl.injEq, D.v.injEq, Value.int.injEq, true_and, and_true] at h
    rw [mapA_inj h.1, h.2]) (vs, k) ⟨h1, h2⟩
theorem FL14_ok : Pure Tryz.prog (mkCtx tab glob) 13 FL14 := by
  refine pure_of (T_ok glob) (ext_ok none_ok FNL_ok) Tryz.func13 (by kernel_rfl) (kp := kp13) (fr := fr13) (by kernel_rfl) fun ds rs hF => ?_
  obtain ⟨a, ⟨h1, h2⟩, rfl, h⟩ := liftG_some hF
  cases h
  exact ⟨_, evLong14 a.1 a.2 h1 h2⟩
noncomputable def E31 : Abs := ext (ext (fun _ _ => none) 12 FNL) 13 FL14
theorem E31_ok : ∀ f, Pure Tryz.prog (mkCtx tab glob) f (E31 f) := ext_ok (ext_ok none_ok FNL_ok) FL14_ok
set_option maxHeartbeats 8000000 in
/-- millwrightlaw31.Long -/
theorem evLong31 (o : Op31) (ho : good31 o) :
    fnK ((mkCtx tab glob).few few31) E31 kp5 fr5 (o.vars.length + 1) Tryz.f5 [enc31 o] = some [.v (.bool (long31 o))] := by
  obtain ⟨h1, h2, h3, h4⟩ := ho
  obtain ⟨all, ex, ig, ke, dr, to, news, goals, file, np, vs⟩ := o
  simp only at h1 h2 h3 h4
  have hV : ∀ i (h : i < vs.length), (vs.map encV)[i]? = some (encV vs[i]) := fun i h => by simp [h]
  have hVl : (vs.map encV).length = vs.length := by simp
  have hA : ∀ i (h : i < vs.length), (vs.map encA).take i ++ [encA vs[i]] = (vs.map encA).take (i + 1) := fun i h => by
    rw [List.take_succ_eq_append_getElem (by simpa using h), List.getElem_map]
  have hAl : (vs.map encA).length = vs.length := by simp
  have hN := FNL_eq news 12 60 h1
  have hG := FNL_eq goals 12 60 h2
  have hL := FL14_eq vs 12 (by omega) h4
  have hE1 : E31 12 = FNL := rfl
  have hE2 : E31 13 = FL14 := rfl
  simp only [enc31, long31]
  have hsm : few31 62 = true := rfl
  have hl2 : ∀ k, k ≤ vs.length → k ≤ lim2 := fun k h => by unfold lim2; omega
  generalize vs.map encA = LA at *
  generalize vs.map encV = LV at *
  generalize news.map D.s = LN at *
  generalize goals.map D.s = LG at *
  generalize longB news 12 60 = b1 at *
  generalize longB goals 12 60 = b2 at *
  generalize longV vs 12 = b3 at *
  generalize hRR : (b1 || b2 || decide (60 < (file.length : Int)) || b3) = RR
  simp [Tryz.f5, hVl, iceMark]
  refine loop_rule (R := List D) (σ := Nat) (fun i => ⟨slots 38 [(1, .ref (1, 1) 0), (3, .own (1, 6)), (8, .d (.sl 4 LV)), (9, .d (.v (.int .i64 vs.length))), (10, .d (.v (.int .i64 i)))],
    [((1, 6), .tok 5 (LA.take i)), ((1, 1), .box [.d (.v (.bool all)), .d (.v (.bool ex)), .d (.v (.bool ig)), .d (.v (.bool ke)), .d (.v (.bool dr)), .d (.v (.bool to)), .d (.sl 1 LN), .d (.sl 1 LG), .d (.s file), .d (.v (.int .i64 np)), .d (.sl 4 LV)])]⟩) (fun i => vs.length - i) (fun i => i ≤ vs.length) (fun _ => some [.v (.bool RR)]) 0 [1, 3, 8, 9, 10] (by simp [kp5]) (Nat.zero_le _) (by omega) (by simp) ?_
  rintro i κ' hi hn he hr
  by_cases hil : i < vs.length
  · have hil' : (i : Int) < vs.length := by omega
    have hw : IntKind.i64.wrap ((i : Int) + 1) = (i : Int) + 1 := wrap_i64 (by omega) (by omega)
    have hg := hV i hil
    have hA1 := hA i hil
    have hll := hl2 (i + 1) hil
    have hmin : min i vs.length = i := by omega
    generalize vs[i] = x at *
    obtain ⟨nm, ws, lv, hd⟩ := x
    simp only [encV] at hg
    simp only [encA] at hA1
    have hg6 := (List.getElem?_eq_some_iff.1 hg).2
    generalize ws.map D.s = W at *
    simp [hVl, hil, hil', hg, hg6, hw, hsm, hll, hA1, hAl, hmin]
    refine hn (i + 1) _ ?_ ?_ ?_
    · omega
    · omega
    · simp
  · obtain rfl : i = vs.length := by omega
    have htk : LA.take vs.length = LA := List.take_of_length_le (by omega)
    have hil' : ¬ ((vs.length : Int) < vs.length) := by omega
    subst hRR
    cases b1 <;> cases b2 <;> by_cases hf : 60 < (file.length : Int) <;> simp [hVl, he, hr, htk, hE1, hE2, hN, hG, hL, hf]
end Go.Ab
