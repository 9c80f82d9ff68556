/- One text of a proof that a law of this seat says true for every input: printed rules. It holds of the given program under the conditions that the row prints. -/
import Derived.Test.YticphlljahcmkaaDoorPr9
set_option linter.unusedVariables false
set_option linter.unusedSimpArgs false
set_option maxRecDepth 100000
namespace Go.Ab
open Go.Proofs
variable {glob : Nat → Option (List D)} {p : Nat → Addr} {o : Nat → Obj}

theorem join_snoc (c : UInt8) (y : List UInt8) : ∀ xs : List (List UInt8), Lib.join (xs ++ [y]) [c] = if xs = [] then y else Lib.join xs [c] ++ c :: y
  | [] => by simp [Lib.join, List.intercalate]
  | x :: xs => by
    rw [List.cons_append, join_cons, if_neg (by simp), join_cons]
    simp
def EX2 : Abs := ext EX1 87 F111
theorem EX2_ok : ∀ f, Pure Tryd.prog (mkCtx tab glob) f (EX2 f) := by
  refine ext_ok EX1_ok ?_
  refine pure_of (T_ok glob) EX1_ok Tryd.func87 (by kernel_rfl) (kp := kp87) (fr := fr87) (by kernel_rfl) fun ds rs hF => ?_
  unfold F111 at hF
  split at hF
  · split at hF
    · rename_i h
      cases hF
      exact ⟨_, ev87 _ (by omega)⟩
    · simp at hF
  · simp at hF
set_option maxHeartbeats 8000000 in
/-- ref40.join -/
theorem ev59 (l : List (List UInt8)) (hl : l.length ≤ 50) (hs : shortL 141 l = true) : fnK (mkCtx tab glob) EX2 kp59 fr59 (l.length + 2) Tryd.f59 [.sl 1 (l.map .s)] = some [.s (joinQ l)] := by
  simp [Tryd.f59, EX2, EX1]
  refine loop_rule (R := List D) (σ := Nat) (fun j => ⟨slots 23 [(3, .d (.s (joinQ (l.take j)))), (6, .d (.sl 1 (l.map .s))), (7, .d (.v (.int .i64 l.length))), (8, .d (.v (.int .i64 j)))], []⟩) (fun j => l.length - j) (fun j => j ≤ l.length) (fun j => some [.s (joinQ l)]) 0 [3, 6, 7, 8] (by simp [kp59]) (by omega) (by omega) (by simp [joinQ, Lib.join, List.intercalate]) ?_
  intro j κ' hjl hn he hr
  have hw : IntKind.i64.wrap (↑j + 1) = ↑j + 1 := wrap_i64 (by omega) (by omega)
  by_cases h : j < l.length
  · have hlen := short_at hs (s := l[j]) (List.getElem_mem h)
    have h1 : F111 [.s l[j]] = some [.s (quoteS l[j])] := by simp only [F111]; rw [if_pos (by omega)]
    have hql := quoteS_le l[j]
    have hqj := joinQ_le (l.take j) (by rw [List.length_take]; omega) (by
      unfold shortL
      rw [List.all_eq_true]
      intro x hx
      have := short_at hs (List.mem_of_mem_take hx)
      simp
      omega)
    have ht : joinQ (l.take (j + 1)) = if j = 0 then quoteS l[j] else joinQ (l.take j) ++ 32 :: quoteS l[j] := by
      unfold joinQ
      rw [List.take_succ_eq_append_getElem h, List.map_append, List.map_cons, List.map_nil, join_snoc]
      by_cases h0 : j = 0
      · subst h0
        simp
      · rw [if_neg h0, if_neg]
        intro he
        have := congrArg List.length he
        simp only [List.length_map, List.length_take, List.length_nil] at this
        omega
    cases j with
    | zero =>
      have e0 : joinQ (l.take 0) = [] := by simp [joinQ, Lib.join, List.intercalate]
      rw [if_pos rfl] at ht
      rw [e0] at hqj ⊢
      have e1 : (quoteS l[0]).length ≤ lim := by unfold lim; omega
      generalize quoteS l[0] = q at *
      simp at hw
      simp [h, h1, hw, e1]
      refine hn 1 _ (by omega) (by omega) ?_
      rw [ht]
      simp
    | succ j =>
      rw [if_neg (by omega)] at ht
      have hp : (0 : Int) < (j : Int) + 1 := by omega
      have h' : (j : Int) + 1 < (l.length : Int) := by omega
      generalize quoteS l[j + 1] = q at *
      generalize joinQ (l.take (j + 1)) = w at *
      have e1 : w.length + 1 ≤ lim := by unfold lim; omega
      have e2 : w.length + (q.length + 1) ≤ lim := by unfold lim; omega
      have e3 : w.length + 1 + q.length ≤ lim := by unfold lim; omega
      simp at hw
      simp [h, h', h1, hw, e1, e2, e3, hp]
      refine ⟨by omega, hn (j + 2) _ (by omega) (by omega) ?_⟩
      rw [ht]
      simp
      omega
  · have hj2 : j = l.length := by omega
    subst hj2
    simp [he]
/-- ref18.Has at one bit -/
theorem ev88 (E : Abs) (f : Int) (q : List UInt8) (k : Int) (h0 : 0 ≤ f) (hk : k ∈ bits8) (h1 : f < 256) : fnK (mkCtx tab glob) E kp88 fr88 0 Tryd.f88 [encA f q, .v (.int .i64 k)] = some [.v (.bool (hasA f k))] := by
  have hkp : 0 < k ∧ k ≤ 128 := by
    simp only [bits8, List.mem_cons, List.not_mem_nil, or_false] at hk
    omega
  have e1 : f.tdiv k = f / k := Int.tdiv_eq_ediv_of_nonneg h0
  have e3 : 0 ≤ f / k := Int.ediv_nonneg h0 (by omega)
  have e4 : f / k ≤ f := Int.ediv_le_self _ h0
  have e2 : (f / k).tmod 2 = f / k % 2 := Int.tmod_eq_emod_of_nonneg e3
  have e5 : IntKind.i64.wrap (f / k) = f / k := wrap_i64 (by omega) (by omega)
  have e6 : ¬ k = 0 := by omega
  have e7 : (f / k % 2 == 1) = hasA f k := by
    unfold hasA
    rw [Bool.eq_iff_iff]
    simp
  simp [Tryd.f88, encA, iceMark, e1, e2, e5, e6, e7]
def F89 : List D → Option (List D)
  | [.v (.int .u8 c)] => match letB.findIdx? (fun b => decide ((b.toNat : Int) = c)) with
    | some j => some [.v (.int .i64 (2 ^ j))]
    | none => none
  | _ => none
theorem ev89 (E : Abs) : ∀ j : Nat, j < 8 → fnK (mkCtx tab glob) E kp89 fr89 0 Tryd.f89 [.v (.int .u8 ((letB.getD j 0).toNat : Nat))] = some [.v (.int .i64 (2 ^ j))]
  | 0, _ => by kernel_rfl
  | 1, _ => by kernel_rfl
  | 2, _ => by kernel_rfl
  | 3, _ => by kernel_rfl
  | 4, _ => by kernel_rfl
  | 5, _ => by kernel_rfl
  | 6, _ => by kernel_rfl
  | 7, _ => by kernel_rfl
  | j + 8, h => by omega
theorem F89_at : ∀ j : Nat, j < 8 → F89 [.v (.int .u8 ((letB.getD j 0).toNat : Nat))] = some [.v (.int .i64 (2 ^ j))]
  | 0, _ => by kernel_rfl
  | 1, _ => by kernel_rfl
  | 2, _ => by kernel_rfl
  | 3, _ => by kernel_rfl
  | 4, _ => by kernel_rfl
  | 5, _ => by kernel_rfl
  | 6, _ => by kernel_rfl
  | 7, _ => by kernel_rfl
  | j + 8, h => by omega
def EX3 : Abs := ext (ext (fun _ _ => none) 89 F89) 88 F112
theorem EX3_ok : ∀ f, Pure Tryd.prog (mkCtx tab glob) f (EX3 f) := by
  refine ext_ok (ext_ok none_ok ?_) ?_
  · refine pure_of (T_ok glob) none_ok Tryd.func89 (by kernel_rfl) (kp := kp89) (fr := fr89) (by kernel_rfl) fun ds rs hF => ?_
    unfold F89 at hF
    split at hF
    · rename_i c
      split at hF
      · rename_i j hj
        cases hF
        obtain ⟨h1, h2, _⟩ := List.findIdx?_eq_some_iff_getElem.1 hj
        have h3 : j < 8 := h1
        have h4 : (letB[j].toNat : Int) = c := of_decide_eq_true h2
        have := ev89 (glob := glob) (fun _ _ => none) j h3
        rw [show letB.getD j 0 = letB[j] by rw [List.getD_eq_getElem?_getD, List.getElem?_eq_getElem h1]; rfl, h4] at this
        exact ⟨0, this⟩
      · simp at hF
    · simp at hF
  · refine pure_of (T_ok glob) none_ok Tryd.func88 (by kernel_rfl) (kp := kp88) (fr := fr88) (by kernel_rfl) fun ds rs hF => ?_
    unfold F112 at hF
    split at hF
    · split at hF
      · rename_i h
        cases hF
        exact ⟨0, ev88 _ _ _ _ h.1 h.2.2 h.2.1⟩
      · simp at hF
    · simp at hF
set_option maxHeartbeats 8000000 in
/-- ref18.Text -/
theorem ev60 (f : Int) (q : List UInt8) (hr : rightA f q = true) : fnK (mkCtx tab glob) EX3 kp60 fr60 10 Tryd.f60 [encA f q] = some [.s (attrT f q)] := by
  have hr' := hr
  simp only [rightA, Bool.and_eq_true, decide_eq_true_eq] at hr'
  obtain ⟨⟨h0, h1⟩, h2⟩ := hr'
  have ht : attrT f q = letsA f 8 ++ ((if q = [] then [] else [80]) ++ q) := by simp [attrT, hr]
  rw [ht]
  generalize hX : letsA f 8 ++ ((if q = [] then [] else [80]) ++ q) = X
  simp [Tryd.f60, EX3, encA, iceMark]
  refine ⟨by decide, ?_⟩
  refine loop_rule (R := List D) (σ := Nat) (fun j => ⟨slots 32 [(1, .ref (1, 1) 0), (3, .d (.s (letsA f j))), (6, .tight 1 (letB.map encB)), (7, .d (.v (.int .i64 8))), (8, .d (.v (.int .i64 j)))], [((1, 1), .box [.d (.v (.int .i64 f)), .d (.s q)])]⟩) (fun j => 8 - j) (fun j => j ≤ 8) (fun j => some [.s X]) 0 [1, 3, 6, 7, 8] (by simp [kp60]) (by omega) (by omega) (by simp [letsA, letB, encB]) ?_
  intro j κ' hjl hn he hr2
  have hw : IntKind.i64.wrap (↑j + 1) = ↑j + 1 := wrap_i64 (by omega) (by omega)
  by_cases h : j < 8
  · have h' : (j : Int) < 8 := by omega
    obtain ⟨hb1, hb2, hb3⟩ := pow_bits j h
    have hF : F112 [.st [.v (.int .i64 f), .s q], .v (.int .i64 (2 ^ j))] = some [.v (.bool (hasA f (2 ^ j)))] := by
      simp only [F112]
      rw [if_pos ⟨h0, by omega, hb1⟩]
    have hG := F89_at j h
    have hl := letsA_len f j
    have hlim : (letsA f j).length + 1 ≤ lim := by unfold lim; omega
    have hla : (letB.map encB)[j]? = some (.v (.int .u8 ((letB.getD j 0).toNat : Nat))) := by
      rw [List.getElem?_map, show letB[j]? = some (letB.getD j 0) from let_at j h]
      rfl
    have hla2 : letB.map encB = [encB 68, encB 69, encB 78, encB 110, encB 81, encB 82, encB 85, encB 86] := rfl
    have hbt := (letB.getD j 0).toNat_lt
    have hbt2 : ((letB.getD j 0).toNat : Int) < 256 := by omega
    have hls1 : hasA f (2 ^ j) = true → letsA f (j + 1) = letsA f j ++ [letB.getD j 0] := fun hh => by simp only [letsA, hh, if_true]
    have hby : bytesOf [.v (.int .u8 ((letB.getD j 0).toNat : Nat))] = some [letB.getD j 0] := bytesOf_enc [letB.getD j 0]
    generalize hL : letB.map encB = L at *
    generalize letB.getD j 0 = c at *
    cases hh : hasA f (2 ^ j) with
    | true =>
      rw [hh] at hF
      simp [h, h', hw, hF, hG, hlim, hla, hby, hbt2, fr60]
      refine hn (j + 1) _ (by omega) (by omega) ?_
      rw [hls1 hh]
      simp
    | false =>
      rw [hh] at hF
      have hls : letsA f (j + 1) = letsA f j := by simp [letsA, hh]
      simp [h, h', hw, hF, hG, hlim, hla, fr60]
      refine hn (j + 1) _ (by omega) (by omega) ?_
      rw [hls]
      simp
  · have hj : j = 8 := by omega
    subst hj
    have hl := letsA_len f 8
    generalize letsA f 8 = ls at *
    subst hX
    cases q with
    | nil => simp [he]
    | cons b q =>
      have hp : (0 : Int) < (q.length : Int) + 1 := by omega
      have e1 : 1 + (q.length + 1) ≤ lim := by unfold lim; simp at h2; omega
      have e2 : ls.length + (1 + (q.length + 1)) ≤ lim := by unfold lim; simp at h2; omega
      have e3 : ls.length + (q.length + 1 + 1) ≤ lim := by unfold lim; simp at h2; omega
      simp [he, e1, e2, e3, hp]
end Go.Ab
