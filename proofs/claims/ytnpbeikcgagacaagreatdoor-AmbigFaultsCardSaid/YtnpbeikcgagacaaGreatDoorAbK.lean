/- One text of a proof that a law of this seat says true for every input: an evaluator of code over data, and that it tells the truth. It holds of the given program under the conditions that the row prints. -/
import Derived.Test.YtnpbeikcgagacaaGreatDoorAbCa
import Derived.Sort.OwnSorted
import Derived.Sort.KeysCollected
import Derived.Lib.SlicesCompact
import Derived.Maps.Own
import Derived.StringKeys
import Derived.Lib.SlKeysI
import Derived.Maps.Keyed
set_option linter.unusedSimpArgs false
set_option linter.unusedVariables false
set_option linter.unusedSectionVars false
namespace Go.Ab
open Go.Sort Go.Proofs

/-! # Sorted texts: what the kernel can reckon, and what the library does -/
/-- Is a text not behind another? -/
def lexB : List UInt8 → List UInt8 → Bool
  | [], _ => true
  | _ :: _, [] => false
  | a :: x, b :: y => bif Nat.blt a.toNat b.toNat then true else bif Nat.blt b.toNat a.toNat then false else lexB x y
def insB (a : List UInt8) : List (List UInt8) → List (List UInt8)
  | [] => [a]
  | b :: l => bif lexB a b then a :: b :: l else b :: insB a l
def isort : List (List UInt8) → List (List UInt8)
  | [] => []
  | a :: l => insB a (isort l)
theorem lexB_iff : ∀ x y : List UInt8, lexB x y = true ↔ x ≤ y
  | [], y => by simp [lexB]
  | a :: x, [] => by simp [lexB]
  | a :: x, b :: y => by
    rw [List.cons_le_cons_iff]
    simp only [lexB]
    by_cases h1 : a < b
    · have h1' : Nat.blt a.toNat b.toNat = true := by rw [Nat.blt_eq]; exact UInt8.lt_iff_toNat_lt.1 h1
      simp [h1', h1]
    · have h1' : Nat.blt a.toNat b.toNat = false := by
        rw [Bool.eq_false_iff, ne_eq, Nat.blt_eq]
        exact fun h => h1 (UInt8.lt_iff_toNat_lt.2 h)
      by_cases h2 : b < a
      · have h2' : Nat.blt b.toNat a.toNat = true := by rw [Nat.blt_eq]; exact UInt8.lt_iff_toNat_lt.1 h2
        have hne : a ≠ b := by rintro rfl; exact h1 h2
        simp [h1', h2', h1, hne]
      · have h2' : Nat.blt b.toNat a.toNat = false := by
          rw [Bool.eq_false_iff, ne_eq, Nat.blt_eq]
          exact fun h => h2 (UInt8.lt_iff_toNat_lt.2 h)
        have he : a = b := by
          apply UInt8.toNat_inj.1
          rw [UInt8.lt_iff_toNat_lt] at h1 h2
          omega
        subst he
        rw [h1']
        simp [lexB_iff x y]
theorem insB_perm (a : List UInt8) : ∀ l, (insB a l).Perm (a :: l)
  | [] => List.Perm.refl _
  | b :: l => by
    simp only [insB]
    cases lexB a b with
    | true => exact List.Perm.refl _
    | false => exact ((insB_perm a l).cons b).trans (List.Perm.swap a b l)
theorem isort_perm : ∀ l, (isort l).Perm l
  | [] => List.Perm.refl _
  | a :: l => (insB_perm a (isort l)).trans ((isort_perm l).cons a)
theorem insB_sorted (a : List UInt8) : ∀ l : List (List UInt8), l.Pairwise (· ≤ ·) → (insB a l).Pairwise (· ≤ ·)
  | [], _ => by simp [insB]
  | b :: l, h => by
    simp only [insB]
    cases hab : lexB a b with
    | true =>
      have hle := (lexB_iff a b).1 hab
      refine List.pairwise_cons.2 ⟨fun c hc => ?_, h⟩
      rcases List.mem_cons.1 hc with rfl | hc
      · exact hle
      · exact List.le_trans hle ((List.pairwise_cons.1 h).1 c hc)
    | false =>
      have hle : b ≤ a := by
        rcases List.le_total a b with h1 | h1
        · rw [(lexB_iff a b).2 h1] at hab; cases hab
        · exact h1
      refine List.pairwise_cons.2 ⟨fun c hc => ?_, insB_sorted a l (List.pairwise_cons.1 h).2⟩
      rcases List.mem_cons.1 ((insB_perm a l).mem_iff.1 hc) with rfl | hc
      · exact hle
      · exact (List.pairwise_cons.1 h).1 c hc
theorem isort_sorted : ∀ l : List (List UInt8), (isort l).Pairwise (· ≤ ·)
  | [] => List.Pairwise.nil
  | a :: l => insB_sorted a _ (isort_sorted l)
theorem isort_merge (l : List (List UInt8)) : l.mergeSort leB = isort l := by
  have h1 : (l.mergeSort leB).Pairwise (fun a b => leB a b = true) := List.pairwise_mergeSort (fun a b c h1 h2 => by simp only [leB, decide_eq_true_eq] at *; exact List.le_trans h1 h2) (fun a b => by simpa [leB] using List.le_total a b) l
  have h2 : (isort l).Pairwise (fun a b => leB a b = true) := (isort_sorted l).imp fun h => by simpa [leB] using h
  refine List.Perm.eq_of_pairwise (le := fun a b => leB a b = true) (fun a b _ _ h1 h2 => ?_) h1 h2 ((List.mergeSort_perm l _).trans (isort_perm l).symm)
  simp only [leB, decide_eq_true_eq] at h1 h2
  exact List.le_antisymm h1 h2
/-- Runs of the same text, each once: p is what stood ahead. -/
def dedA (p : List UInt8) : List (List UInt8) → List (List UInt8)
  | [] => []
  | a :: l => bif p == a then dedA a l else a :: dedA a l
def dedB : List (List UInt8) → List (List UInt8)
  | [] => []
  | a :: l => a :: dedA a l
theorem dedA_eq (d : Array (List UInt8)) : ∀ (l : List (List UInt8)) (m : Nat), 0 < m → m ≤ d.size → d.toList.drop m = l → Lib.compactUpTo d d.size = Lib.compactUpTo d m ++ dedA d[m - 1]! l
  | [], m, hm, hle, h => by
    have : d.size ≤ m := by simpa using h
    have : m = d.size := by omega
    subst this
    simp [dedA]
  | a :: l, m, hm, hle, h => by
    have hlt : m < d.size := by
      rcases Nat.lt_or_ge m d.size with h1 | h1
      · exact h1
      · rw [List.drop_eq_nil_of_le (by simpa using h1)] at h
        cases h
    have ha : d[m]! = a := by
      have := congrArg (fun l => l[0]?) h
      simp [List.getElem?_drop] at this
      rw [getElem!_pos d m hlt]
      exact (Array.getElem?_eq_some_iff.1 this).2
    have hl : d.toList.drop (m + 1) = l := by
      have := congrArg (List.drop 1) h
      simpa [List.drop_drop, Nat.add_comm] using this
    rw [dedA_eq d l (m + 1) (by omega) (by omega) hl, Lib.compactUpTo_succ]
    simp only [dedA, Nat.add_sub_cancel, ha]
    by_cases he : d[m - 1]! = a
    · rw [Lib.keeps_neg hm (by rw [ha, he])]
      simp [he]
    · have hb : (d[m - 1]! == a) = false := by simpa using he
      rw [Lib.keeps_pos (by rw [ha]; exact Ne.symm he), hb]
      simp
theorem dedB_eq (l : List (List UInt8)) : Lib.compact l = dedB l := by
  unfold Lib.compact
  cases l with
  | nil => rfl
  | cons a r =>
    have := dedA_eq (a :: r).toArray r 1 (by omega) (by simp) (by simp)
    simp only [List.size_toArray] at this
    rw [this]
    simp [dedB, Lib.compactUpTo, Lib.keeps]

/-! ### slices of the frame's own that hold texts -/
def strsOf : List (List AV) → Option (List (List UInt8))
  | [] => some []
  | [.d (.s l)] :: r => match strsOf r with | some x => some (l :: x) | none => none
  | _ => none
def strsE (l : List (List UInt8)) : List (List AV) := l.map fun s => [.d (.s s)]
theorem strsOf_eq : ∀ {es : List (List AV)} {l : List (List UInt8)}, strsOf es = some l → es = strsE l
  | [], l, h => by
    simp only [strsOf, Option.some.injEq] at h
    subst h
    rfl
  | e :: r, l, h => by
    unfold strsOf at h
    split at h
    · rename_i heq
      cases heq
    · rename_i x r' heq
      injection heq with h1 h2
      subst h1 h2
      split at h
      · rename_i y hy
        simp only [Option.some.injEq] at h
        subst h
        rw [strsOf_eq hy]
        rfl
      · simp at h
    · simp at h
theorem strs_vals {γ : Gam} {o : Obs} {M : Mut} {w : World} : ∀ (l : List (List UInt8)) (us : List Value), RVL γ o M w (strsE l).flatten us ↔ us = l.map encStr
  | [], us => by simp [strsE, RVL]
  | a :: l, us => by
    have ih := strs_vals (γ := γ) (o := o) (M := M) (w := w) l
    simp only [strsE, List.map_cons, List.flatten_cons, List.cons_append, List.nil_append, RVL, RV, Rd]
    constructor
    · rintro ⟨u, us', rfl, rfl, h⟩
      rw [(ih us').1 h]
    · rintro rfl
      exact ⟨_, _, rfl, rfl, (ih _).2 rfl⟩
theorem strsE_len (l : List (List UInt8)) : (strsE l).length = l.length := by simp [strsE]
theorem strsE_one (l : List (List UInt8)) : ∀ e ∈ strsE l, e.length = 1 := by
  intro e he
  obtain ⟨s, _, rfl⟩ := List.mem_map.1 he
  rfl

/-- One slice's block is laid anew; all else stands. -/
theorem arr_turn {γ : Gam} {N : Mut} {w w' : World} {k : Id} {g : Bool} {es : List (List AV)} {b : Nat} {arr' : Array Value} {ty : TypeId} (h : Inv γ N [(k, .arr g 1 es)] w) (hb : (γ k).b = some b) (hg : w.grownBy w' (some b))
    (hh : w'.heap[b]? = some (.cells arr' ty (0, 0))) (l : List (List UInt8)) (rest : List Value) (hl : l.length ≤ (γ k).cap) (hsk : (γ k).sk = 0) (hsz : (γ k).cap * 1 = arr'.size) (ha : arr'.toList = l.map encStr ++ rest) :
    Inv γ N [(k, .arr g 1 (strsE l))] w' ∧ Chg (own γ [(k, .arr g 1 es)]) w w' := by
  refine ⟨⟨by simp, ?_, ?_, fun b' i hN => Nat.lt_of_lt_of_le (h.old b' i hN) hg.size, ?_⟩, hg.os, hg.tape, hg.output, hg.size, fun n hn hx => hg.block n hn fun e => ?_, fun n i v hc hx => ?_⟩
  · intro p hp q hq _ _ _
    simp only [List.mem_singleton] at hp hq
    rw [hp, hq]
  · intro p hp b' hb' i
    simp only [List.mem_singleton] at hp
    subst hp
    exact h.sep (k, .arr g 1 es) (by simp) b' hb' i
  · intro p hp
    simp only [List.mem_singleton] at hp
    subst hp
    simp only [RO, hb]
    exact ⟨arr', ty, hh, ⟨by rw [strsE_len]; exact hl, hsk⟩, hsz, strsE_one l, _, rest, ha, (strs_vals l _).2 rfl⟩
  · injection e with e
    subst e
    exact hx 0 ⟨(k, .arr g 1 es), by simp, hb, trivial⟩
  · have hne : n ≠ b := by
      rintro rfl
      exact hx ⟨(k, .arr g 1 es), by simp, hb, trivial⟩
    have := hg.block n (cell_lt hc) fun e => by injection e with e; exact hne e
    simp only [World.cell?] at hc ⊢
    rw [this]
    exact hc

/-- slices.Sort at texts. -/
def GSort : List AV → Obs → Option (List AV × Obs)
  | [.own k], [(k', .arr g n es)] => if k = k' ∧ n = 1 ∧ es.length ≤ lim then (match strsOf es with
    | some l => some ([], [(k', .arr g 1 (strsE (isort l)))])
    | none => none) else none
  | _, _ => none
theorem holds_strs {w : World} {b : Nat} {arr : Array Value} {ty : TypeId} (hh : w.heap[b]? = some (.cells arr ty (0, 0))) (l : List (List UInt8)) (rest : List Value) (ha : arr.toList = l.map encStr ++ rest) : Holds encStr w b 0 l.toArray := by
  intro j hj
  simp only [List.size_toArray] at hj
  have : arr[j]? = some (encStr l.toArray[j]!) := by
    have h1 : arr.toList[j]? = some (encStr l[j]) := by
      rw [ha, List.getElem?_append_left (by simpa using hj)]
      simp [hj]
    rw [Array.getElem?_toList] at h1
    rw [h1, getElem!_pos l.toArray j (by simpa using hj)]
    rfl
  refine ⟨?_, ?_⟩
  · simp only [World.cell?, hh, Nat.zero_add]
    simpa using this
  · simp [World.frozen?, hh]
theorem put_toList (cur : Array Value) (ts : List (List UInt8)) (h : ts.length ≤ cur.size) : (putCells encStr 0 ts.toArray cur).toList = ts.map encStr ++ cur.toList.drop ts.length := by
  have h1 := take_putCells cur ts h
  rw [← h1]
  conv => lhs; rw [← List.take_append_drop ts.length (putCells encStr 0 ts.toArray cur).toList]
  congr 1
  apply List.ext_getElem?
  intro j
  simp only [List.getElem?_drop, Array.getElem?_toList, putCells, Array.getElem?_mapIdx]
  cases hc : cur[ts.length + j]? with
  | none => simp
  | some x =>
    simp
    intro h
    omega
section
variable {P : Program} {T : Ctx} {f : FuncId} (hfn : FnOk P f)
include hfn
theorem turns_sort (hc : ∀ (blk off cap : Nat) (ss : List (List UInt8)) (w : World), Holds encStr w blk off ss.toArray → blk < w.heap.size → ss.length < 4611686018427387904 →
      Calls P f #[.slice (some ⟨blk, off, none⟩) ss.length cap] w fun e w' => e = .returned (.tuple #[]) ∧ ∃ n os, w' = grow (putRow encStr (Sort.ahead w n) blk off (ss.mergeSort fun x y => decide (x ≤ y)).toArray) os)
    (h0 : ∀ (p : Option Addr) (cap : Nat) (w : World), Calls P f #[.slice p 0 cap] w fun e w' => e = .returned (.tuple #[]) ∧ w' = w) : Turns P T f GSort := by
  intro as o rs o' hG
  unfold GSort at hG
  split at hG
  · rename_i k k' g n es
    split at hG
    · rename_i hcond
      obtain ⟨rfl, rfl, hlim⟩ := hcond
      split at hG
      · rename_i l hl
        injection hG with hG
        injection hG with e1 e2
        subst e1 e2
        obtain rfl := strsOf_eq hl
        refine ⟨hfn, fun γ N w vs hz hinv hv hGl => ?_⟩
        simp only [RVL, RV] at hv
        obtain ⟨u, us', rfl, ⟨ob, sl, hlk, hsl, rfl⟩, rfl⟩ := hv
        simp only [lookup, if_true, Option.some.injEq] at hlk
        subst hlk
        simp only [Ob.sl, Option.some.injEq] at hsl
        subst hsl
        have hro := hinv.obs (k, .arr g 1 (strsE l)) (by simp)
        simp only [RO] at hro
        simp only [slVal, strsE_len]
        rw [strsE_len] at hlim
        cases hb : (γ k).b with
        | none =>
          rw [hb] at hro
          obtain ⟨he, hval⟩ := hro
          have hnil : l = [] := by
            have := congrArg List.length he
            simpa [strsE_len] using this
          subst hnil
          simp only [tokVal, hb, hval]
          refine (h0 none 0 w).mono ?_
          rintro e w' ⟨rfl, rfl⟩
          exact ⟨γ, [], hinv, by simp [RVL], rfl, Chg.refl _ _, fun b i h => .inl h, fun id ob hlk hkd => ⟨rfl, ob, hlk, rfl⟩⟩
        | some b =>
          rw [hb] at hro
          obtain ⟨arr, ty, hh, ⟨hcap, hsk⟩, hsz, hn, us, rest, ha, hvs⟩ := hro
          rw [(strs_vals l us).1 hvs] at ha
          rw [strsE_len] at hcap
          have hbl : b < w.heap.size := (Array.getElem?_eq_some_iff.1 hh).1
          simp only [tokVal, hb, hsk]
          have hlim' : lim = 4294967296 := rfl
          refine (hc b 0 (γ k).cap l w (holds_strs hh l rest ha) hbl (by omega)).mono ?_
          rintro e w' ⟨rfl, nn, os, rfl⟩
          have hms : l.mergeSort (fun x y => decide (x ≤ y)) = isort l := isort_merge l
          rw [hms]
          have hlen : (isort l).length = l.length := (isort_perm l).length_eq
          have hle : (isort l).length ≤ arr.size := by
            have := congrArg List.length ha
            simp at this
            omega
          obtain ⟨h1, h2⟩ := arr_turn (arr' := putCells encStr 0 (isort l).toArray arr) (ty := ty) hinv hb (grownBy_sorted _) (heap_sorted _ hh) (isort l) (arr.toList.drop (isort l).length) (by rw [hlen]; exact hcap) hsk (by simpa [putCells] using hsz) (put_toList arr (isort l) hle)
          refine ⟨γ, [], h1, by simp [RVL], rfl, h2, fun b' i hm => .inl ?_, fun id ob hlk hkd => ?_⟩
          · obtain ⟨p, hp, hpb, _⟩ := hm
            simp only [List.mem_singleton] at hp
            subst hp
            exact ⟨_, List.mem_singleton.2 rfl, hpb, trivial⟩
          · simp only [lookup] at hlk
            split at hlk
            · injection hlk with hlk
              subst hlk
              exact absurd rfl hkd
            · cases hlk
      · cases hG
    · cases hG
  · cases hG
/-- slices.Compact at texts. -/
def GComp : List AV → Obs → Option (List AV × Obs)
  | [.own k], [(k', .arr g n es)] => if k = k' ∧ n = 1 ∧ es.length ≤ lim then (match strsOf es with
    | some l => some ([.own k'], [(k', .arr g 1 (strsE (dedB l)))])
    | none => none) else none
  | _, _ => none
theorem turns_compact (hc : ∀ (blk off cap : Nat) (zs : List (List UInt8)) (w : World), Holds encStr w blk off zs.toArray → zs.length ≤ 9223372036854775807 → zs.length ≤ cap →
      Calls P f #[.slice (some ⟨blk, off, none⟩) zs.length cap] w fun e w' => e = .returned (.slice (some ⟨blk, off, none⟩) (Lib.compact zs).length cap) ∧ ∃ q, w' = putRow encStr (Sort.ahead w q) blk off (Lib.compact zs ++ List.replicate (zs.length - (Lib.compact zs).length) []).toArray)
    (h0 : ∀ (a : Option Addr) (cap : Nat) (w : World), Calls P f #[.slice a 0 cap] w fun e w' => e = .returned (.slice a 0 cap) ∧ w' = w) : Turns P T f GComp := by
  intro as o rs o' hG
  unfold GComp at hG
  split at hG
  · rename_i k k' g n es
    split at hG
    · rename_i hcond
      obtain ⟨rfl, rfl, hlim⟩ := hcond
      split at hG
      · rename_i l hl
        injection hG with hG
        injection hG with e1 e2
        subst e1 e2
        obtain rfl := strsOf_eq hl
        refine ⟨hfn, fun γ N w vs hz hinv hv hGl => ?_⟩
        simp only [RVL, RV] at hv
        obtain ⟨u, us', rfl, ⟨ob, sl, hlk, hsl, rfl⟩, rfl⟩ := hv
        simp only [lookup, if_true, Option.some.injEq] at hlk
        subst hlk
        simp only [Ob.sl, Option.some.injEq] at hsl
        subst hsl
        have hro := hinv.obs (k, .arr g 1 (strsE l)) (by simp)
        simp only [RO] at hro
        simp only [slVal, strsE_len]
        rw [strsE_len] at hlim
        cases hb : (γ k).b with
        | none =>
          rw [hb] at hro
          obtain ⟨he, hval⟩ := hro
          have hnil : l = [] := by
            have := congrArg List.length he
            simpa [strsE_len] using this
          subst hnil
          simp only [tokVal, hb, hval]
          refine (h0 none 0 w).mono ?_
          rintro e w' ⟨rfl, rfl⟩
          refine ⟨γ, [.slice none 0 0], hinv, ?_, rfl, Chg.refl _ _, fun b i h => .inl h, fun id ob hlk hkd => ⟨rfl, ob, hlk, rfl⟩⟩
          simp only [RVL, RV, lookup, if_true]
          exact ⟨_, _, rfl, ⟨_, _, rfl, rfl, by simp only [slVal, tokVal, hb, hval]⟩, rfl⟩
        | some b =>
          rw [hb] at hro
          obtain ⟨arr, ty, hh, ⟨hcap, hsk⟩, hsz, hn, us, rest, ha, hvs⟩ := hro
          rw [(strs_vals l us).1 hvs] at ha
          rw [strsE_len] at hcap
          simp only [tokVal, hb, hsk]
          have hlim' : lim = 4294967296 := rfl
          refine (hc b 0 (γ k).cap l w (holds_strs hh l rest ha) (by omega) hcap).mono ?_
          rintro e w' ⟨rfl, nn, rfl⟩
          rw [dedB_eq l]
          have hlen : (dedB l).length ≤ l.length := by
            have : ∀ (l : List (List UInt8)) (p : List UInt8), (dedA p l).length ≤ l.length := by
              intro l
              induction l with
              | nil => intro p; simp [dedA]
              | cons a l ih =>
                intro p
                simp only [dedA]
                cases p == a with
                | true => have := ih a; simp; omega
                | false => have := ih a; simp; omega
            cases l with
            | nil => simp [dedB]
            | cons a l => have := this l a; simp [dedB]; omega
          have hle : (dedB l ++ List.replicate (l.length - (dedB l).length) []).length ≤ arr.size := by
            have := congrArg List.length ha
            simp at this ⊢
            omega
          have hgrow : putRow encStr (Sort.ahead w nn) b 0 (dedB l ++ List.replicate (l.length - (dedB l).length) []).toArray = grow (putRow encStr (Sort.ahead w nn) b 0 (dedB l ++ List.replicate (l.length - (dedB l).length) []).toArray) #[] := by
            unfold grow
            rw [Array.append_empty]
          rw [hgrow]
          have hput := put_toList arr (dedB l ++ List.replicate (l.length - (dedB l).length) []) hle
          rw [List.map_append, List.append_assoc] at hput
          obtain ⟨h1, h2⟩ := arr_turn (arr' := putCells encStr 0 (dedB l ++ List.replicate (l.length - (dedB l).length) []).toArray arr) (ty := ty) hinv hb (grownBy_sorted _) (heap_sorted _ hh) (dedB l) _ (by omega) hsk (by simpa [putCells] using hsz) hput
          refine ⟨γ, [.slice (some ⟨b, 0, none⟩) (dedB l).length (γ k).cap], h1, ?_, rfl, h2, fun b' i hm => .inl ?_, fun id ob hlk hkd => ?_⟩
          · simp only [RVL, RV, lookup, if_true]
            exact ⟨_, _, rfl, ⟨_, _, rfl, rfl, by simp only [slVal, tokVal, hb, hsk, strsE_len]⟩, rfl⟩
          · obtain ⟨p, hp, hpb, _⟩ := hm
            simp only [List.mem_singleton] at hp
            subst hp
            exact ⟨_, List.mem_singleton.2 rfl, hpb, trivial⟩
          · simp only [lookup] at hlk
            split at hlk
            · injection hlk with hlk
              subst hlk
              exact absurd rfl hkd
            · cases hlk
      · cases hG
    · cases hG
  · cases hG
end
end Go.Ab

namespace Go.Ab
open Go.Sort Go.Proofs Go.RowKit Go.Maps
open Go.WideElems (Fit rd rg)

/-! # slices.Sorted(maps.Keys(m)) -/
theorem Inv.chg {γ : Gam} {N : Mut} {o : Obs} {w w' : World} (h : Inv γ N o w) (c : Chg (fun _ _ => False) w w') : Inv γ N o w' := by
  have hk : Keep (all γ N o) (all γ N o) w w' := c.keep (fun _ _ hf => hf.elim) fun _ _ _ hm => hm
  refine ⟨h.keys, h.apart, h.sep, fun b i hb => Nat.lt_of_lt_of_le (h.old b i hb) c.size, fun p hp => ?_⟩
  have := RO.sub (fo := .own) (fr := .ref) hk p.1 p.2 rfl (fun b hb => c.block b (own_lt h hp hb) fun _ hf => hf) (γ' := γ) (o' := o) (fun k u hu => hu) (fun i off u hu => hu) (fun k i off u hu => hu) (h.obs p hp)
  have e : p.2.sub .own .ref = p.2 := by cases p.2 <;> simp [Ob.sub, subL_id, subE_id, subM_id]
  rwa [e] at this
def keysS : List (D × AV) → Option (List (List UInt8))
  | [] => some []
  | (.s l, _) :: r => if l.length ≤ lim then (match keysS r with | some x => some (l :: x) | none => none) else none
  | _ => none
theorem keysS_eq : ∀ {es : List (D × AV)} {l : List (List UInt8)}, keysS es = some l → es.map (fun e => keyV e.1) = l.map (fun s => some (encStr s)) ∧ ∀ s ∈ l, s.length ≤ lim
  | [], l, h => by
    simp only [keysS, Option.some.injEq] at h
    subst h
    simp
  | e :: r, l, h => by
    unfold keysS at h
    split at h
    · rename_i heq
      cases heq
    · rename_i x v r' heq
      injection heq with h1 h2
      subst h1 h2
      split at h
      · rename_i hx
        split at h
        · rename_i y hy
          simp only [Option.some.injEq] at h
          subst h
          obtain ⟨h3, h4⟩ := keysS_eq hy
          refine ⟨by rw [List.map_cons, List.map_cons, h3]; rfl, fun s hs => ?_⟩
          rcases List.mem_cons.1 hs with rfl | hs
          · exact hx
          · exact h4 s hs
        · simp at h
      · simp at h
    · simp at h
def GKeys (it : FuncId) : List AV → Obs → Option (List AV × Obs)
  | [.clo (.func g) [] [.ref k off]], (k1, .box [.own m]) :: (m1, .map es) :: o => if g = it ∧ k = k1 ∧ off = 0 ∧ m = m1 ∧ es.length ≤ lim then (match keysS es with
    | some ks => some ([.d (.sl 1 ((isort ks).map .s))], (k1, .box [.own m]) :: (m1, .map es) :: o)
    | none => none) else none
  | _, _ => none
/-- A new row of texts reads as data. -/
theorem rd_ownsRow {N : Mut} {w : World} {base : Nat} {e : TypeId} {v : Value} {l : List (List UInt8)} (h : w.ownsRow base e 1 v l.length (l.map encStr)) (hN : ∀ b i, N b i → b < base) : Rd N w (.sl 1 (l.map .s)) v := by
  obtain ⟨_, h⟩ := h
  simp only [Rd, List.length_map]
  rcases h with ⟨rfl, h0⟩ | ⟨g, cap, cur, rfl, hb, hh, h1, h2, h3, h4⟩
  · exact ⟨none, 0, 0, rfl, h0, Nat.le_refl _, fun _ => rfl, fun p hp => by simp at hp⟩
  · refine ⟨_, _, _, rfl, rfl, h1, fun hn => by simp at hn, fun p hp => ?_⟩
    simp only [Option.some.injEq] at hp
    subst hp
    have key : ∀ (r : List (List UInt8)) (i : Nat), (∀ j s, r[j]? = some s → l[i + j]? = some s) → RdE N w 1 (r.map .s) ⟨g, 0, none⟩ i := by
      intro r
      induction r with
      | nil => intro i _; simp [RdE]
      | cons s r ih =>
        intro i hr
        rw [List.map_cons, RdE_cons]
        refine ⟨⟨rfl, ?_⟩, ih (i + 1) fun j y hj => by have := hr (j + 1) y (by simpa using hj); rwa [Nat.add_assoc, Nat.add_comm 1 j]⟩
        simp only [D.cells, RdC, and_true]
        refine ⟨rfl, encStr s, ?_, fun hm => ?_, by simp only [Rd]⟩
        · rw [add_plain, Nat.zero_add]
          simp only [World.cell?, hh]
          have h5 := hr 0 s (by simp)
          rw [Nat.add_zero] at h5
          have hil := (List.getElem?_eq_some_iff.1 h5).1
          have h6 : (cur.toList.take (l.length * 1))[i]? = some (encStr s) := by rw [h4]; simp [h5]
          rw [List.getElem?_take] at h6
          split at h6
          · simpa using h6
          · cases h6
        · rw [add_plain] at hm
          have := hN _ _ hm
          simp only at this
          omega
    exact key l 0 fun j s hj => by simpa using hj

section
variable {P : Program} {T : Ctx} {f : FuncId} (hfn : FnOk P f)
include hfn
theorem turns_keys {it : FuncId} {kt et : TypeId} (hk : P.underlying kt = some .string)
    (hc : ∀ (Bm b nn : Nat) (D0 : DataW Unit) (R : Value → Option (DataW Unit × List MemPlace)) (W : World), Bm < W.heap.size → W.cell? ⟨Bm, 0, none⟩ = some (.map (some b)) → W.ownsMap P kt R b nn D0 → Maps.size D0 ≤ maxLen → Maps.size D0 * 16 ≤ 140737488355328 →
      Calls P f #[.func (.func it) #[] #[.pointer (some ⟨Bm, 0, none⟩)]] W fun e w' => ∃ (v : Value) (ss : List (List UInt8)), e = .returned v ∧ ss.Perm (strKeys D0) ∧
        w'.ownsRow W.heap.size et 1 v ss.length ((ss.mergeSort (fun x y => decide (x ≤ y))).map encStr) ∧ (v = .slice none 0 0 ↔ ss = []) ∧ Below W.heap.size W w') : Turns P T f (GKeys it) := by
  intro as o rs o' hG
  unfold GKeys at hG
  split at hG
  · rename_i g k off k1 m m1 es o
    split at hG
    · rename_i hcond
      obtain ⟨rfl, rfl, rfl, rfl, hlim⟩ := hcond
      split at hG
      · rename_i ks hks
        injection hG with hG
        injection hG with e1 e2
        subst e1 e2
        refine ⟨hfn, fun γ N w vs hz hinv hv hGl => ?_⟩
        simp only [RVL, RV] at hv
        obtain ⟨u, us', rfl, ⟨xs, ys, rfl, rfl, ⟨u2, us2, rfl, ⟨b0, hb0, rfl⟩, rfl⟩⟩, rfl⟩ := hv
        obtain ⟨b1, arr, ty, hb1, hh1, hv1⟩ := hinv.obs (k, .box [.own m]) (by simp)
        have hbb : b1 = b0 := by
          have : some b1 = some b0 := by rw [← hb1]; exact hb0
          injection this
        subst hbb
        obtain ⟨bm, ents, clock, hbm, hhm, hst, hke, hve⟩ := hinv.obs (m, .map es) (by simp)
        have hne : k ≠ m := by
          have := hinv.keys
          simp only [List.map_cons, List.nodup_cons, List.mem_cons, not_or] at this
          exact this.1.1
        simp only [RVL, RV] at hv1
        obtain ⟨u3, us3, harr, ⟨ob, sl, hlk, hsl, rfl⟩, rfl⟩ := hv1
        simp only [lookup, if_neg hne, if_true, Option.some.injEq] at hlk
        subst hlk
        simp only [Ob.sl, Option.some.injEq] at hsl
        subst hsl
        have hbm' : (γ m).b = some bm := hbm
        have hcell : w.cell? ⟨b1, 0, none⟩ = some (.map (some bm)) := by
          simp only [World.cell?, hh1]
          have : arr.toList[0]? = some (slVal (γ m) .m) := by rw [harr]; rfl
          simp only [slVal, hbm'] at this
          simpa using this
        obtain ⟨hkv, hkl⟩ := keysS_eq hks
        have hlen : ents.size = es.length := by
          have := congrArg List.length hke
          simpa using this
        -- the map as the kit's laws read it
        let R : Value → Option (DataW Unit × List MemPlace) := fun _ => some (.nil, [])
        have hread : ∀ (j : Nat) (x : MapEntry), ents.toList[j]? = some x → ∃ s, ks[j]? = some s ∧ x.key = encStr s ∧ keyOf P kt x.key = some (.string s) := by
          intro j x hx
          have := congrArg (fun l => l[j]?) (hke.trans hkv)
          simp only [List.getElem?_map, hx, Option.map_some] at this
          cases hs : ks[j]? with
          | none => rw [hs] at this; simp at this
          | some s =>
            rw [hs] at this
            simp only [Option.map_some, Option.some.injEq] at this
            refine ⟨s, rfl, this, ?_⟩
            rw [this]
            have h1 := WideMaps.keyOf_string_mk hk (s := ⟨s.toArray⟩) (by
              have := hkl s (List.mem_of_getElem? hs)
              have hl : lim = 4294967296 := rfl
              simp only [ByteArray.size, List.size_toArray]
              unfold maxLen
              omega)
            simpa using h1
        have hfit : Fit P kt R ents clock := ⟨by
            have hl : lim = 4294967296 := rfl
            unfold maxLen
            omega, hst, fun x hx => by
            obtain ⟨j, hj⟩ := List.mem_iff_getElem?.1 hx
            obtain ⟨s, _, _, h3⟩ := hread j x hj
            exact ⟨(.string s, .nil), by simp [rd, h3, R]⟩⟩
        have hrg : ents.toList.map (rg P kt R) = ks.map fun s => ((.string s, .nil) : Lit × DataW Unit) := by
          apply List.ext_getElem?
          intro j
          simp only [List.getElem?_map]
          cases hx : ents.toList[j]? with
          | none =>
            have h1 : es.length ≤ j := by rw [← hlen]; simpa using hx
            have h2 : ks.length = es.length := by
              have := congrArg List.length hkv
              simpa using this.symm
            rw [List.getElem?_eq_none (by omega)]
            rfl
          | some x =>
            obtain ⟨s, h1, _, h3⟩ := hread j x hx
            rw [h1]
            simp [rg, rd, h3, R]
        have hown : w.ownsMap P kt R bm es.length (.map ((ks.map fun s => ((.string s, .nil) : Lit × DataW Unit)).foldr DataW.insert [])) := ⟨ents, clock, hhm, hfit, by omega, by rw [hrg]⟩
        have hlk : ks.length = es.length := by
          have := congrArg List.length hkv
          simpa using this.symm
        have hsize : Maps.size (.map ((ks.map fun s => ((.string s, .nil) : Lit × DataW Unit)).foldr DataW.insert [])) = es.length := by
          rw [Maps.size_eq, length_sorted, List.length_map, hlk]
        have hperm0 : (strKeys (.map ((ks.map fun s => ((.string s, .nil) : Lit × DataW Unit)).foldr DataW.insert []))).Perm ks := by
          have h1 := (WideShapes.sorted_perm (ks.map fun s => ((.string s, .nil) : Lit × DataW Unit))).map fun p => strOf p.1
          simp only [strKeys]
          refine h1.trans ?_
          rw [List.map_map]
          simp [Function.comp_def, strOf]
        have hl : lim = 4294967296 := rfl
        refine (hc b1 bm es.length _ R w (cell_lt hcell) hcell hown (by rw [hsize]; unfold maxLen; omega) (by rw [hsize]; omega)).mono ?_
        rintro e w' ⟨v, ss, rfl, hp, hrow, _, hbel⟩
        have hch := Chg.below.2 hbel
        have hsort : ss.mergeSort (fun x y => decide (x ≤ y)) = isort ks := by
          have h1 : ss.mergeSort (fun x y => decide (x ≤ y)) = isort ss := isort_merge ss
          rw [h1, ← isort_merge ss, ← isort_merge ks]
          exact mergeSort_of_perm (hp.trans hperm0)
        have hlss : ss.length = (isort ks).length := by
          rw [(isort_perm ks).length_eq, (hp.trans hperm0).length_eq]
        rw [hsort, hlss] at hrow
        refine ⟨γ, [v], hinv.chg hch, ?_, rfl, hch.mono fun _ _ _ hf => hf.elim, fun b i hm => .inl hm, fun id ob hlk hkd => ⟨rfl, ob, hlk, rfl⟩⟩
        simp only [RVL, RV]
        refine ⟨v, [], rfl, rd_ownsRow hrow fun b i hm => ?_, rfl⟩
        rcases hm with hm | ⟨p, hp, hpb, _⟩
        · exact hinv.old b i hm
        · exact own_lt hinv hp hpb
      · cases hG
    · cases hG
  · cases hG
end

/-! ## keys that are ints -/
/-- An int as a datum. -/
def dI (n : Int) : D := .v (.int .i64 n)
def insI (a : Int) : List Int → List Int
  | [] => [a]
  | b :: r => if a ≤ b then a :: b :: r else b :: insI a r
def isortI : List Int → List Int
  | [] => []
  | a :: r => insI a (isortI r)
theorem insI_perm (a : Int) : ∀ l, (insI a l).Perm (a :: l)
  | [] => List.Perm.refl _
  | b :: r => by
    simp only [insI]
    split
    · exact List.Perm.refl _
    · exact ((insI_perm a r).cons b).trans (List.Perm.swap a b r)
theorem isortI_perm : ∀ l, (isortI l).Perm l
  | [] => List.Perm.refl _
  | a :: r => (insI_perm a _).trans ((isortI_perm r).cons a)
theorem insI_sorted (a : Int) : ∀ l : List Int, l.Pairwise (· ≤ ·) → (insI a l).Pairwise (· ≤ ·)
  | [], _ => by simp [insI]
  | b :: r, h => by
    simp only [insI]
    rw [List.pairwise_cons] at h
    split
    · rename_i hab
      refine List.pairwise_cons.2 ⟨fun c hc => ?_, List.pairwise_cons.2 h⟩
      rcases List.mem_cons.1 hc with rfl | hc
      · exact hab
      · exact Int.le_trans hab (h.1 c hc)
    · rename_i hab
      refine List.pairwise_cons.2 ⟨fun c hc => ?_, insI_sorted a r h.2⟩
      rcases List.mem_cons.1 ((insI_perm a r).mem_iff.1 hc) with rfl | hc
      · omega
      · exact h.1 c hc
theorem isortI_sorted : ∀ l : List Int, (isortI l).Pairwise (· ≤ ·)
  | [] => List.Pairwise.nil
  | a :: r => insI_sorted a _ (isortI_sorted r)
theorem isortI_merge (l : List Int) : l.mergeSort leI = isortI l := by
  have tr : ∀ a b c : Int, leI a b = true → leI b c = true → leI a c = true := fun a b c h1 h2 => by simp only [leI, decide_eq_true_eq] at *; exact Int.le_trans h1 h2
  have to : ∀ a b : Int, (leI a b || leI b a) = true := fun a b => by simp only [leI, Bool.or_eq_true, decide_eq_true_eq]; exact Int.le_total a b
  refine List.Perm.eq_of_pairwise (le := fun a b => leI a b = true) (fun a b _ _ h1 h2 => ?_) (List.pairwise_mergeSort tr to l) ((isortI_sorted l).imp fun h => by simpa only [leI, decide_eq_true_eq] using h) ((List.mergeSort_perm l leI).trans (isortI_perm l).symm)
  simp only [leI, decide_eq_true_eq] at h1 h2
  exact Int.le_antisymm h1 h2
def keysI : List (D × AV) → Option (List Int)
  | [] => some []
  | (.v (.int .i64 n), _) :: r => if -9223372036854775808 ≤ n ∧ n ≤ 9223372036854775807 then (match keysI r with | some x => some (n :: x) | none => none) else none
  | _ => none
theorem keysI_eq : ∀ {es : List (D × AV)} {l : List Int}, keysI es = some l → es.map (fun e => keyV e.1) = l.map (fun s => some (encZ s)) ∧ ∀ s ∈ l, (Lit.int .i64 s).wf = true
  | [], l, h => by
    simp only [keysI, Option.some.injEq] at h
    subst h
    simp
  | e :: r, l, h => by
    unfold keysI at h
    split at h
    · rename_i heq
      cases heq
    · rename_i x v r' heq
      injection heq with h1 h2
      subst h1 h2
      split at h
      · rename_i hx
        split at h
        · rename_i y hy
          simp only [Option.some.injEq] at h
          subst h
          obtain ⟨h3, h4⟩ := keysI_eq hy
          refine ⟨by rw [List.map_cons, List.map_cons, h3]; rfl, fun s hs => ?_⟩
          rcases List.mem_cons.1 hs with rfl | hs
          · have e1 : IntKind.min .i64 = -9223372036854775808 := by decide
            have e2 : IntKind.max .i64 = 9223372036854775807 := by decide
            simp only [Lit.wf, e1, e2, Bool.and_eq_true, decide_eq_true_eq]
            exact hx
          · exact h4 s hs
        · simp at h
      · simp at h
    · simp at h
def GKeysI (it : FuncId) : List AV → Obs → Option (List AV × Obs)
  | [.clo (.func g) [] [.ref k off]], (k1, .box [.own m]) :: (m1, .map es) :: o => if g = it ∧ k = k1 ∧ off = 0 ∧ m = m1 ∧ es.length ≤ lim then (match keysI es with
    | some ks => some ([.d (.sl 1 ((isortI ks).map dI))], (k1, .box [.own m]) :: (m1, .map es) :: o)
    | none => none) else none
  | _, _ => none
/-- A new row of ints reads as data. -/
theorem rd_ownsRowI {N : Mut} {w : World} {base : Nat} {e : TypeId} {v : Value} {l : List Int} (h : w.ownsRow base e 1 v l.length (l.map encZ)) (hN : ∀ b i, N b i → b < base) : Rd N w (.sl 1 (l.map dI)) v := by
  obtain ⟨_, h⟩ := h
  simp only [Rd, List.length_map]
  rcases h with ⟨rfl, h0⟩ | ⟨g, cap, cur, rfl, hb, hh, h1, h2, h3, h4⟩
  · exact ⟨none, 0, 0, rfl, h0, Nat.le_refl _, fun _ => rfl, fun p hp => by simp at hp⟩
  · refine ⟨_, _, _, rfl, rfl, h1, fun hn => by simp at hn, fun p hp => ?_⟩
    simp only [Option.some.injEq] at hp
    subst hp
    have key : ∀ (r : List Int) (i : Nat), (∀ j s, r[j]? = some s → l[i + j]? = some s) → RdE N w 1 (r.map dI) ⟨g, 0, none⟩ i := by
      intro r
      induction r with
      | nil => intro i _; simp [RdE]
      | cons s r ih =>
        intro i hr
        rw [List.map_cons, RdE_cons]
        refine ⟨⟨rfl, ?_⟩, ih (i + 1) fun j y hj => by have := hr (j + 1) y (by simpa using hj); rwa [Nat.add_assoc, Nat.add_comm 1 j]⟩
        simp only [dI, D.cells, RdC, and_true]
        refine ⟨rfl, encZ s, ?_, fun hm => ?_, by simp only [Rd]⟩
        · rw [add_plain, Nat.zero_add]
          simp only [World.cell?, hh]
          have h5 := hr 0 s (by simp)
          rw [Nat.add_zero] at h5
          have hil := (List.getElem?_eq_some_iff.1 h5).1
          have h6 : (cur.toList.take (l.length * 1))[i]? = some (encZ s) := by rw [h4]; simp [h5]
          rw [List.getElem?_take] at h6
          split at h6
          · simpa using h6
          · cases h6
        · rw [add_plain] at hm
          have := hN _ _ hm
          simp only at this
          omega
    exact key l 0 fun j s hj => by simpa using hj

section
variable {P : Program} {T : Ctx} {f : FuncId} (hfn : FnOk P f)
include hfn
theorem turns_keysI {it : FuncId} {kt et : TypeId} (hk : P.underlying kt = some (.int .i64))
    (hc : ∀ (Bm b nn : Nat) (D0 : DataW Unit) (R : Value → Option (DataW Unit × List MemPlace)) (W : World), Bm < W.heap.size → W.cell? ⟨Bm, 0, none⟩ = some (.map (some b)) → W.ownsMap P kt R b nn D0 → Maps.size D0 ≤ maxLen → Maps.size D0 * 8 ≤ 140737488355328 →
      Calls P f #[.func (.func it) #[] #[.pointer (some ⟨Bm, 0, none⟩)]] W fun e w' => ∃ (v : Value) (ss : List Int), e = .returned v ∧ ss.Perm (intKeys D0) ∧
        w'.ownsRow W.heap.size et 1 v ss.length ((ss.mergeSort (fun x y => decide (x ≤ y))).map encZ) ∧ (v = .slice none 0 0 ↔ ss = []) ∧ Below W.heap.size W w') : Turns P T f (GKeysI it) := by
  intro as o rs o' hG
  unfold GKeysI at hG
  split at hG
  · rename_i g k off k1 m m1 es o
    split at hG
    · rename_i hcond
      obtain ⟨rfl, rfl, rfl, rfl, hlim⟩ := hcond
      split at hG
      · rename_i ks hks
        injection hG with hG
        injection hG with e1 e2
        subst e1 e2
        refine ⟨hfn, fun γ N w vs hz hinv hv hGl => ?_⟩
        simp only [RVL, RV] at hv
        obtain ⟨u, us', rfl, ⟨xs, ys, rfl, rfl, ⟨u2, us2, rfl, ⟨b0, hb0, rfl⟩, rfl⟩⟩, rfl⟩ := hv
        obtain ⟨b1, arr, ty, hb1, hh1, hv1⟩ := hinv.obs (k, .box [.own m]) (by simp)
        have hbb : b1 = b0 := by
          have : some b1 = some b0 := by rw [← hb1]; exact hb0
          injection this
        subst hbb
        obtain ⟨bm, ents, clock, hbm, hhm, hst, hke, hve⟩ := hinv.obs (m, .map es) (by simp)
        have hne : k ≠ m := by
          have := hinv.keys
          simp only [List.map_cons, List.nodup_cons, List.mem_cons, not_or] at this
          exact this.1.1
        simp only [RVL, RV] at hv1
        obtain ⟨u3, us3, harr, ⟨ob, sl, hlk, hsl, rfl⟩, rfl⟩ := hv1
        simp only [lookup, if_neg hne, if_true, Option.some.injEq] at hlk
        subst hlk
        simp only [Ob.sl, Option.some.injEq] at hsl
        subst hsl
        have hbm' : (γ m).b = some bm := hbm
        have hcell : w.cell? ⟨b1, 0, none⟩ = some (.map (some bm)) := by
          simp only [World.cell?, hh1]
          have : arr.toList[0]? = some (slVal (γ m) .m) := by rw [harr]; rfl
          simp only [slVal, hbm'] at this
          simpa using this
        obtain ⟨hkv, hkl⟩ := keysI_eq hks
        have hlen : ents.size = es.length := by
          have := congrArg List.length hke
          simpa using this
        -- the map as the kit's laws read it
        let R : Value → Option (DataW Unit × List MemPlace) := fun _ => some (.nil, [])
        have hread : ∀ (j : Nat) (x : MapEntry), ents.toList[j]? = some x → ∃ s, ks[j]? = some s ∧ x.key = encZ s ∧ keyOf P kt x.key = some (.int .i64 s) := by
          intro j x hx
          have := congrArg (fun l => l[j]?) (hke.trans hkv)
          simp only [List.getElem?_map, hx, Option.map_some] at this
          cases hs : ks[j]? with
          | none => rw [hs] at this; simp at this
          | some s =>
            rw [hs] at this
            simp only [Option.map_some, Option.some.injEq] at this
            refine ⟨s, rfl, this, ?_⟩
            rw [this]
            exact keyOf_int_mk hk (hkl s (List.mem_of_getElem? hs))
        have hfit : Fit P kt R ents clock := ⟨by
            have hl : lim = 4294967296 := rfl
            unfold maxLen
            omega, hst, fun x hx => by
            obtain ⟨j, hj⟩ := List.mem_iff_getElem?.1 hx
            obtain ⟨s, _, _, h3⟩ := hread j x hj
            exact ⟨(.int .i64 s, .nil), by simp [rd, h3, R]⟩⟩
        have hrg : ents.toList.map (rg P kt R) = ks.map fun s => ((.int .i64 s, .nil) : Lit × DataW Unit) := by
          apply List.ext_getElem?
          intro j
          simp only [List.getElem?_map]
          cases hx : ents.toList[j]? with
          | none =>
            have h1 : es.length ≤ j := by rw [← hlen]; simpa using hx
            have h2 : ks.length = es.length := by
              have := congrArg List.length hkv
              simpa using this.symm
            rw [List.getElem?_eq_none (by omega)]
            rfl
          | some x =>
            obtain ⟨s, h1, _, h3⟩ := hread j x hx
            rw [h1]
            simp [rg, rd, h3, R]
        have hown : w.ownsMap P kt R bm es.length (.map ((ks.map fun s => ((.int .i64 s, .nil) : Lit × DataW Unit)).foldr DataW.insert [])) := ⟨ents, clock, hhm, hfit, by omega, by rw [hrg]⟩
        have hlk : ks.length = es.length := by
          have := congrArg List.length hkv
          simpa using this.symm
        have hsize : Maps.size (.map ((ks.map fun s => ((.int .i64 s, .nil) : Lit × DataW Unit)).foldr DataW.insert [])) = es.length := by
          rw [Maps.size_eq, length_sorted, List.length_map, hlk]
        have hperm0 : (intKeys (.map ((ks.map fun s => ((.int .i64 s, .nil) : Lit × DataW Unit)).foldr DataW.insert []))).Perm ks := by
          have h1 := (WideShapes.sorted_perm (ks.map fun s => ((.int .i64 s, .nil) : Lit × DataW Unit))).map fun p => Go.intOf p.1
          simp only [intKeys]
          refine h1.trans ?_
          rw [List.map_map]
          simp [Function.comp_def, Go.intOf]
        have hl : lim = 4294967296 := rfl
        refine (hc b1 bm es.length _ R w (cell_lt hcell) hcell hown (by rw [hsize]; unfold maxLen; omega) (by rw [hsize]; omega)).mono ?_
        rintro e w' ⟨v, ss, rfl, hp, hrow, _, hbel⟩
        have hch := Chg.below.2 hbel
        have hsort : ss.mergeSort (fun x y => decide (x ≤ y)) = isortI ks := by
          have h1 : ss.mergeSort (fun x y => decide (x ≤ y)) = isortI ss := isortI_merge ss
          rw [h1, ← isortI_merge ss, ← isortI_merge ks]
          exact mergeSort_of_perm_i (hp.trans hperm0)
        have hlss : ss.length = (isortI ks).length := by
          rw [(isortI_perm ks).length_eq, (hp.trans hperm0).length_eq]
        rw [hsort, hlss] at hrow
        refine ⟨γ, [v], hinv.chg hch, ?_, rfl, hch.mono fun _ _ _ hf => hf.elim, fun b i hm => .inl hm, fun id ob hlk hkd => ⟨rfl, ob, hlk, rfl⟩⟩
        simp only [RVL, RV]
        refine ⟨v, [], rfl, rd_ownsRowI hrow fun b i hm => ?_, rfl⟩
        rcases hm with hm | ⟨p, hp, hpb, _⟩
        · exact hinv.old b i hm
        · exact own_lt hinv hp hpb
      · cases hG
    · cases hG
  · cases hG
end
end Go.Ab
