/- One text of a proof that a law of this seat says true for every input: an evaluator of code over data, and that it tells the truth. It holds of the given program under the conditions that the row prints. -/
import Derived.Test.YtnpbeikcgagacaaGreatDoorAbLibs
import Derived.Test.YtnpbeikcgagacaaGreatDoorAbAnn
set_option linter.unusedSimpArgs false
set_option linter.unusedVariables false
set_option linter.unusedSectionVars false
namespace Go.Ab

/-- A proof that the simplifier writes down. -/
theorem nr {α : Sort _} {a b : α} (h : a = b) : a = b := h
section
variable {R : Type} {T : Ctx} {E : Abs}
@[simp ↓] theorem condK_true {a b : Option R} {m : Tag a} : condK true (hold a m) b = a := nr rfl
@[simp ↓] theorem condK_false {a b : Option R} {m : Tag b} : condK false a (hold b m) = b := nr rfl
@[simp] theorem condK_true' {a b : Option R} {m : Tag a} : condK true (hold a m) b = a := nr rfl
@[simp] theorem condK_false' {a b : Option R} {m : Tag b} : condK false a (hold b m) = b := nr rfl
@[simp ↓] theorem hold_app {f : St → Option R} {m : Tag f} {s : St} : hold f m s = stK s (hold f m) := nr rfl
@[simp ↓] theorem hold_app2 {f : Ex → St → Option R} {m : Tag f} {e : Ex} {s : St} : hold f m e s = stK s (hold (f e) .mk) := nr rfl
@[simp] theorem stK_eq (t : List AV) (o : Obs) {f : St → Option R} {m : Tag f} : stK ⟨t, o⟩ (hold f m) = f ⟨t, o⟩ := nr rfl
@[simp ↓] theorem opG_none (ops : List Oper) (dst : Option Tmp) (op : Op) (ty : TypeId) (pos : String) (after : Array Edge) (s : St) (κ : St → Option R) : opG T E ops ⟨dst, op, ty, pos, after, none⟩ s κ = opK T E ⟨dst, op, ty, pos, after, none⟩ s κ := nr rfl
/-- A guard, closed to the simplifier. -/
def guardK (x : Option AV) (want : Bool) (a c : Option R) : Option R :=
  match x with
  | some (.d (.v (.bool b))) => condK (b == want) a c
  | some (.d (.v (.tuple _))) => c
  | _ => none
@[simp ↓] theorem guardK_bool {a c : Option R} {m : Tag a} {m' : Tag c} (b want : Bool) : guardK (some (.d (.v (.bool b)))) want (hold a m) (hold c m') = condK (b == want) (hold a m) (hold c m') := nr rfl
@[simp ↓] theorem guardK_undef {a c : Option R} {m : Tag a} {m' : Tag c} (want : Bool) : guardK (some (.d (.v undef))) want (hold a m) (hold c m') = c := nr rfl
@[simp] theorem guardK_bool' {a c : Option R} {m : Tag a} {m' : Tag c} (b want : Bool) : guardK (some (.d (.v (.bool b)))) want (hold a m) (hold c m') = condK (b == want) (hold a m) (hold c m') := nr rfl
@[simp] theorem guardK_undef' {a c : Option R} {m : Tag a} {m' : Tag c} (want : Bool) : guardK (some (.d (.v undef))) want (hold a m) (hold c m') = c := nr rfl
@[simp ↓] theorem opG_some (ops : List Oper) (dst : Option Tmp) (op : Op) (ty : TypeId) (pos : String) (after : Array Edge) (j : Nat) (want : Bool) (s : St) (κ : St → Option R) : opG T E ops ⟨dst, op, ty, pos, after, some (j, want)⟩ s κ =
    guardK (((ops[j]?).bind (·.dst)).bind (s.t[·]?)) want (hold (opK T E ⟨dst, op, ty, pos, after, some (j, want)⟩ s κ) .mk) (hold (κ (s.put dst (.d (.v undef)))) .mk) := by
  unfold opG guardK
  simp only
  split
  · rename_i b h
    rw [h]
    cases b <;> cases want <;> rfl
  · rename_i h
    rw [h]
    rfl
  · rename_i h1 h2
    split
    · rename_i b h
      exact absurd h (h1 b)
    · rename_i x h
      exact absurd h (h2 x)
    · rfl
@[simp ↓ high] theorem opK_pick (dst : Option Tmp) (c a b : Operand) (ty : TypeId) (pos : String) (after : Array Edge) (g : Option (Nat × Bool)) (s : St) (κ : St → Option R) : opK T E ⟨dst, .pick c a b, ty, pos, after, g⟩ s κ =
    match s.get T c with
    | .d (.v (.bool t)) => condK t (hold (κ (s.put dst (s.get T a))) .mk) (hold (κ (s.put dst (s.get T b))) .mk)
    | _ => none := by
  simp only [opK]
  split
  · rename_i t h
    rw [h]
    cases t <;> rfl
  · rename_i h
    split
    · rename_i t h'
      exact absurd h' (h t)
    · rfl
@[simp ↓] theorem opsK_nil (ops : List Oper) (s : St) (κ : St → Option R) : opsK T E ops [] s κ = κ s := nr rfl
@[simp ↓] theorem opsK_cons (ops : List Oper) (o : Oper) (r : List Oper) (s : St) (κ : St → Option R) : opsK T E ops (o :: r) s κ = opG T E ops o s (hold (fun s => opsK T E ops r s κ) .mk) := nr rfl
@[simp ↓] theorem dopsK_nil (fr : List Nat) (ops : List Oper) (s : St) (κ : St → Option R) : dopsK T E fr ops [] s κ = κ s := nr rfl
/-- May a box be made here? -/
def preA (fr : List Nat) (d : Tmp) (g : Option (Nat × Bool)) (s : St) : Bool := g.isSome || (!(decide (800000 ≤ fr.headD 0) && (decide (fr.headD 0 < 900000) && fr.contains (800000 + d))) || freshB (1, d) s)
theorem preB_alloc {T : Ctx} (fr : List Nat) (d : Tmp) (t ty : TypeId) (pos : String) (after : Array Edge) (g : Option (Nat × Bool)) (s : St) : preB T fr ⟨some d, .alloc t, ty, pos, after, g⟩ s = preA fr d g s := by
  cases g with
  | some p => rfl
  | none =>
    simp only [preB, isNew, preA, Option.isSome_none, Bool.false_or]
    by_cases h1 : 800000 ≤ fr.headD 0
    · by_cases h3 : fr.headD 0 < 900000
      · by_cases h2 : fr.contains (800000 + d) = true
        · rw [if_pos ⟨h1, h3, h2⟩, decide_eq_true h1, decide_eq_true h3, h2]; rfl
        · rw [if_neg fun h => h2 h.2.2, eq_false_of_ne_true h2, Bool.and_false, Bool.and_false]; rfl
      · rw [if_neg fun h => h3 h.2.1, decide_eq_false h3, Bool.false_and, Bool.and_false]; rfl
    · rw [if_neg fun h => h1 h.1, decide_eq_false h1]; rfl
/-- May a call go ahead here? -/
def preC (T : Ctx) (fr : List Nat) (d : Tmp) (c : Call) (g : Option (Nat × Bool)) (s : St) : Bool :=
  g.isSome || (match c.callee with | .value f => !((decide (900000 ≤ fr.headD 0) && fr.contains (800000 + d)) || (decide (800000 ≤ fr.headD 0) && (decide (fr.headD 0 < 900000) && fr.contains (850000 + d)))) || callPre T c f d s | _ => true)
theorem preB_call {T : Ctx} (fr : List Nat) (d : Tmp) (c : Call) (ty : TypeId) (pos : String) (after : Array Edge) (g : Option (Nat × Bool)) (s : St) : preB T fr ⟨some d, .call c, ty, pos, after, g⟩ s = preC T fr d c g s := by
  cases g with
  | some p => rfl
  | none =>
    simp only [preB, isNew, isCallP, preC, Option.isSome_none, Bool.false_or]
    cases c.callee with
    | value f =>
      simp only
      by_cases h : (900000 ≤ fr.headD 0 ∧ fr.contains (800000 + d) = true) ∨ (800000 ≤ fr.headD 0 ∧ fr.headD 0 < 900000 ∧ fr.contains (850000 + d) = true)
      · have : ((decide (900000 ≤ fr.headD 0) && fr.contains (800000 + d)) || (decide (800000 ≤ fr.headD 0) && (decide (fr.headD 0 < 900000) && fr.contains (850000 + d)))) = true := by
          simpa only [Bool.or_eq_true, Bool.and_eq_true, decide_eq_true_eq] using h
        rw [if_pos h, this]; rfl
      · have : ((decide (900000 ≤ fr.headD 0) && fr.contains (800000 + d)) || (decide (800000 ≤ fr.headD 0) && (decide (fr.headD 0 < 900000) && fr.contains (850000 + d)))) = false := by
          rw [← Bool.not_eq_true]
          simpa only [Bool.or_eq_true, Bool.and_eq_true, decide_eq_true_eq] using h
        rw [if_neg h, this]; rfl
    | _ => rfl
@[simp ↓] theorem dopsK_cons (fr : List Nat) (ops : List Oper) (dst : Option Tmp) (op : Op) (ty : TypeId) (pos : String) (after : Array Edge) (g : Option (Nat × Bool)) (r : List Oper) (s : St) (κ : St → Option R) : dopsK T E fr ops (⟨dst, op, ty, pos, after, g⟩ :: r) s κ =
    (match op, dst with
    | .assign x, dst => opG T E ops ⟨dst, .move x, ty, pos, after, g⟩ s (hold (fun s' => if clear fr s' dst = true then dopsK T E fr ops r s' κ else none) .mk)
    | .box t x, some d => opG T E ops ⟨some d, .box t x, if fr.contains d = true then iceMark else ty, pos, after, g⟩ s (hold (fun s' => if clear fr s' (some d) = true then dopsK T E fr ops r s' κ else none) .mk)
    | .alloc t, some d => if preA fr d g s = true then opG T E ops ⟨some d, .alloc t, ty, pos, after, g⟩ s (hold (fun s' => if clear fr s' (some d) = true then dopsK T E fr ops r s' κ else none) .mk) else none
    | .buildSlice t n ps, dst => opG T E ops ⟨dst, .buildSlice t n ps, iceMark, pos, after, g⟩ s (hold (fun s' => if clear fr s' dst = true then dopsK T E fr ops r s' κ else none) .mk)
    | .slice t x lo hi mx, dst => opG T E ops ⟨dst, .slice t x lo hi mx, iceMark, pos, after, g⟩ s (hold (fun s' => if clear fr s' dst = true then dopsK T E fr ops r s' κ else none) .mk)
    | .call c, some d => if preC T fr d c g s = true then opG T E ops ⟨some d, .call c, ty, pos, after, g⟩ s (hold (fun s' => if clear fr s' (some d) = true then dopsK T E fr ops r s' κ else none) .mk) else none
    | op, dst => opG T E ops ⟨dst, op, ty, pos, after, g⟩ s (hold (fun s' => if clear fr s' dst = true then dopsK T E fr ops r s' κ else none) .mk)) := by
  have e0 : dopsK T E fr ops (⟨dst, op, ty, pos, after, g⟩ :: r) s κ = if preB T fr ⟨dst, op, ty, pos, after, g⟩ s = true then opG T E ops (mv fr ⟨dst, op, ty, pos, after, g⟩) s (fun s' => if clear fr s' dst = true then dopsK T E fr ops r s' κ else none) else none := by simp only [dopsK]
  rw [e0]
  simp only [hold]
  cases op
  case alloc t =>
    cases dst with
    | none => rfl
    | some d => rw [preB_alloc]; rfl
  case call c =>
    cases dst with
    | none => rfl
    | some d => rw [preB_call]; rfl
  case box t x =>
    cases dst with
    | none => rfl
    | some d =>
      refine (if_pos rfl).trans ?_
      simp only [mv]
      split <;> simp_all
  all_goals cases dst <;> rfl
/-- What a slot that is laid anew drops. -/
def dropX (id : Id) (ob : Option Ob) (k : Id) : AV := if k = id then (match ob with | some (.tok n xs) => .d (.sl n xs) | _ => .undef) else .own k
@[simp] theorem newBox_eq (s : St) (d : Tmp) (cs : List AV) : s.newBox d cs = { t := (subL (dropX (1, d) (lookup (1, d) s.o)) (dropR (1, d)) s.t).set d (.ref (1, d) 0), o := ((1, d), .box (subL (dropX (1, d) (lookup (1, d) s.o)) (dropR (1, d)) cs)) :: subO (dropX (1, d) (lookup (1, d) s.o)) (dropR (1, d)) (erase (1, d) s.o) } := nr rfl
@[simp] theorem newTok_eq (s : St) (d : Tmp) (n : Nat) (xs : List D) : s.newTok d n xs = { t := (subL (dropX (1, d) (lookup (1, d) s.o)) (dropR (1, d)) s.t).set d (.own (1, d)), o := ((1, d), .tok n xs) :: subO (dropX (1, d) (lookup (1, d) s.o)) (dropR (1, d)) (erase (1, d) s.o) } := nr rfl
@[simp] theorem newMap_eq (s : St) (d : Tmp) : s.newMap d = { t := (subL (dropX (1, d) (lookup (1, d) s.o)) (dropR (1, d)) s.t).set d (.own (1, d)), o := ((1, d), .map []) :: subO (dropX (1, d) (lookup (1, d) s.o)) (dropR (1, d)) (erase (1, d) s.o) } := nr rfl
@[simp] theorem newArr_eq (s : St) (d : Tmp) (g : Bool) (n : Nat) (es : List (List AV)) : s.newArr d g n es = { t := (subL (dropX (1, d) (lookup (1, d) s.o)) (dropR (1, d)) s.t).set d (.own (1, d)), o := ((1, d), .arr g n (subE (dropX (1, d) (lookup (1, d) s.o)) (dropR (1, d)) es)) :: subO (dropX (1, d) (lookup (1, d) s.o)) (dropR (1, d)) (erase (1, d) s.o) } := nr rfl
end
theorem byte_inj {b : UInt8} {n : Nat} (h : n < 256) : (b.toNat : Int) = (OfNat.ofNat n : Int) ↔ b = OfNat.ofNat n := by
  constructor
  · intro e
    apply UInt8.toNat_inj.1
    have : b.toNat = n := by
      have e' : ((b.toNat : Nat) : Int) = ((n : Nat) : Int) := e
      omega
    rw [this]
    show n = (UInt8.ofNat n).toNat
    rw [UInt8.toNat_ofNat', Nat.mod_eq_of_lt h]
  · rintro rfl
    have : (UInt8.ofNat n).toNat = n := by rw [UInt8.toNat_ofNat', Nat.mod_eq_of_lt h]
    show (((UInt8.ofNat n).toNat : Nat) : Int) = (n : Int)
    rw [this]
@[simp] theorem byte_beq {b : UInt8} {n : Nat} (h : n < 256) : ((b.toNat : Int) == (no_index (OfNat.ofNat n) : Int)) = decide (b = OfNat.ofNat n) := by
  rw [Bool.eq_iff_iff]
  simp only [beq_iff_eq, decide_eq_true_eq]
  exact byte_inj h
@[simp] theorem byte_bne {b : UInt8} {n : Nat} (h : n < 256) : ((b.toNat : Int) != (no_index (OfNat.ofNat n) : Int)) = !decide (b = OfNat.ofNat n) := by
  rw [bne, byte_beq h]
@[simp] theorem wrap_i64 {n : Int} (h1 : -9223372036854775808 ≤ n) (h2 : n ≤ 9223372036854775807) : IntKind.i64.wrap n = n := by
  rw [IntKind.wrap_i64]; omega
attribute [simp ↓] ck_skip ck_label ck_seq ck_region ck_draw ck_cond ck_block ck_loop ck_scope ck_exit ck_goto ck_ret opK St.keep atK cutK boundK
attribute [simp] fnK St.get St.put AV.data ofConst dBin intBin strBin eqD eqCells assertD isConst datas nilfix encB packD resK resD opK.buildK bldW zA AV.cells D.cells AV.cell D.cell setCells valD valA lookup update erase subL subO AV.sub dropX dropR St.grow shutO St.ice iceR bytesOf isNil eltO subE St.growA forO datasE keepT idsL AV.ids idsO pickO closedO firstRegion clear kGate kOk kfree pOk pinT undOk preA preC callPre freshB Ob.idsB TD.agg TD.ok ext slots reachN idsM subM keyOkT keyEqT findM putM delM lookA tightOf
@[simp] theorem mk_small {tab : List TI} {glob : Nat → Option (List D)} {g : TypeId} : (mkCtx tab glob).small g = false := nr rfl
@[simp] theorem mk_gf {tab : List TI} {glob : Nat → Option (List D)} {g : FuncId} : (mkCtx tab glob).gf g = false := nr rfl
@[simp] theorem mk_wr {tab : List TI} {glob : Nat → Option (List D)} {g : Nat} : (mkCtx tab glob).wr g = false := nr rfl
attribute [simp] gfOf
end Go.Ab
