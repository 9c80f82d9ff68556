/- One text of a proof that a law of this seat says true for every input: an evaluator of code over data, and that it tells the truth. It holds of the given program under the conditions that the row prints. -/
import Derived.Test.YticphlljahcmkaaDoorAbSt
import Derived.Test.YticphlljahcmkaaDoorAbEq
import Derived.Orders
set_option linter.unusedVariables false
namespace Go.Ab

/-- What a type is, as far as the evaluator asks. -/
inductive TD where
  | int (k : IntKind) | bool | str | slice (e : TypeId) | strct (fs : List (TypeId × Nat)) | ptr (e : TypeId) | iface (empty : Bool) | func | map (k e : TypeId) | arr (n : Nat) (e : TypeId) | other
deriving DecidableEq

structure Ctx where
  td : TypeId → TD
  sz : TypeId → Nat
  zero : TypeId → List D
  glob : Nat → Option (List D)
  eqt : TypeId → List EK

def TD.agg : TD → Bool
  | .strct _ | .arr _ _ => true
  | _ => false
def TD.ok : TD → Bool
  | .other => false
  | _ => true
def lim : Nat := 4294967296
/-- The mark of a box that is never written. -/
def iceMark : TypeId := 4294967295

structure St where
  t : List AV
  o : Obs

def ofConst : Value → D
  | .string b => .s b.data.toList
  | v => .v v

mutual
def AV.data (o : Obs) : AV → Option D
  | .d x => some x
  | .own k => match lookup k o with | some (.tok n xs) => some (.sl n xs) | _ => none
  | .tight n xs => some (.sl n xs)
  | .agg cs => match datas o cs with | some ds => some (.st ds) | none => none
  | .clo f as bs => match datas o as, datas o bs with | some xs, some ys => some (.fn f xs ys) | _, _ => none
  | _ => none
def datas (o : Obs) : List AV → Option (List D)
  | [] => some []
  | a :: r => match a.data o, datas o r with | some x, some y => some (x :: y) | _, _ => none
end

def St.get (T : Ctx) (s : St) : Operand → AV
  | .tmp t => s.t.getD t .undef
  | .const v => .d (ofConst v)
  | .global g => match T.glob g with | some cs => .d (.ptr cs) | none => .undef
  | .func f => .d (.fn (.func f) [] [])
def nilfix (T : Ctx) (t : TypeId) : AV → AV
  | .d (.v (.slice none 0 0)) => (match T.td t with | .slice e => .d (.sl (T.sz e) []) | _ => .d (.v (.slice none 0 0)))
  | x => x
def St.put (s : St) (d : Option Tmp) (v : AV) : St := match d with | some d => { s with t := s.t.set d v } | none => s

def subO (fo : Id → AV) (fr : Id → Nat → AV) : Obs → Obs
  | [] => []
  | (k, .box cs) :: r => (k, .box (subL fo fr cs)) :: subO fo fr r
  | (k, .tok n xs) :: r => (k, .tok n xs) :: subO fo fr r

/-- Nothing is left of an object. -/
def dropO (id : Id) (s : St) (k : Id) : AV := if k = id then (match lookup id s.o with | some (.tok n xs) => .d (.sl n xs) | _ => .undef) else .own k
def dropR (id : Id) (i : Id) (off : Nat) : AV := if i = id then .undef else .ref i off
def St.newBox (s : St) (d : Tmp) (cs : List AV) : St :=
  { t := (subL (dropO (1, d) s) (dropR (1, d)) s.t).set d (.ref (1, d) 0), o := ((1, d), .box (subL (dropO (1, d) s) (dropR (1, d)) cs)) :: subO (dropO (1, d) s) (dropR (1, d)) (erase (1, d) s.o) }
def St.newTok (s : St) (d : Tmp) (n : Nat) (xs : List D) : St :=
  { t := (subL (dropO (1, d) s) (dropR (1, d)) s.t).set d (.own (1, d)), o := ((1, d), .tok n xs) :: subO (dropO (1, d) s) (dropR (1, d)) (erase (1, d) s.o) }
/-- A slice of its own is added to: what else holds it reads as it did. -/
def shutO (id : Id) (n : Nat) (xs : List D) (k : Id) : AV := if k = id then .d (.sl n xs) else .own k
def St.grow (s : St) (d : Option Tmp) (id : Id) (n : Nat) (xs ys : List D) : St :=
  St.put { t := subL (shutO id n xs) (dropR id) s.t, o := update id (.tok n (xs ++ ys)) (subO (shutO id n xs) (dropR id) s.o) } d (.own id)
/-- A box that is written no more. -/
def iceR (id : Id) (cs : List D) (i : Id) (off : Nat) : AV := if i = id then (if off ≤ cs.length then .d (.ptr (cs.drop off)) else .undef) else .ref i off
def St.ice (s : St) (id : Id) (cs : List D) : St := { t := subL .own (iceR id cs) s.t, o := subO .own (iceR id cs) (erase id s.o) }

/-- May a value lie in one cell? -/
def AV.cell : AV → Bool
  | .d x => x.cell
  | .agg _ | .tup _ | .undef => false
  | _ => true
def AV.cells : AV → Option (List AV)
  | .agg cs => if cs.all AV.cell then some cs else none
  | .d (.st cs) => if (cs.map AV.d).all AV.cell then some (cs.map .d) else none
  | x => if x.cell then some [x] else none
def setCells (cs : List AV) (off : Nat) : List AV → List AV
  | [] => cs
  | v :: r => setCells (cs.set off v) (off + 1) r

def valD (a : Bool) (cs : List D) : D := if a then .st cs else cs.headD (.v .nilFunc)
def valA (a : Bool) (cs : List AV) : AV := if a then .agg cs else cs.headD .undef
/-- the elements' bytes -/
def bytesOf : List D → Option (List UInt8)
  | [] => some []
  | .v (.int .u8 n) :: r => match bytesOf r with | some l => if 0 ≤ n ∧ n < 256 then some (UInt8.ofNat n.toNat :: l) else none | none => none
  | _ => none
def encB (b : UInt8) : D := .v (.int .u8 b.toNat)

def intBin (op : BinOp) (k : IntKind) (a b : Int) : Option D :=
  match op with
  | .add => some (.v (.int k (k.wrap (a + b))))
  | .sub => some (.v (.int k (k.wrap (a - b))))
  | .mul => some (.v (.int k (k.wrap (a * b))))
  | .eql => some (.v (.bool (a == b)))
  | .neq => some (.v (.bool (a != b)))
  | .lss => some (.v (.bool (decide (a < b))))
  | .leq => some (.v (.bool (decide (a ≤ b))))
  | .gtr => some (.v (.bool (decide (a > b))))
  | .geq => some (.v (.bool (decide (a ≥ b))))
  | .quo => if b = 0 then none else some (.v (.int k (k.wrap (a.tdiv b))))
  | .rem => if b = 0 then none else some (.v (.int k (a.tmod b)))
  | .and => some (.v (.int k (k.wrap (BitVec.ofInt k.bits a &&& BitVec.ofInt k.bits b).toNat)))
  | .or => some (.v (.int k (k.wrap (BitVec.ofInt k.bits a ||| BitVec.ofInt k.bits b).toNat)))
  | .shl => if b < 0 then none else some (.v (.int k (k.wrap (a * 2 ^ (min b.toNat k.bits)))))
  | .shr => if b < 0 then none else some (.v (.int k (a.fdiv (2 ^ (min b.toNat k.bits)))))
  | _ => none
def strBin (op : BinOp) (a b : List UInt8) : Option D :=
  match op with
  | .add => if a.length + b.length ≤ lim then some (.s (a ++ b)) else none
  | .eql => some (.v (.bool (a == b)))
  | .neq => some (.v (.bool (!(a == b))))
  | .lss => some (.v (.bool (Op.bytesLess a b)))
  | .leq => some (.v (.bool (Op.bytesLess a b || a == b)))
  | .gtr => some (.v (.bool (!(Op.bytesLess a b || a == b))))
  | .geq => some (.v (.bool (!Op.bytesLess a b)))
  | _ => none
/-- is it nil? -/
def nilEq : D → D → Option Bool
  | .v .nilIface, .v .nilIface => some true
  | .ifc _ _, .v .nilIface => some false
  | .v .nilIface, .ifc _ _ => some false
  | .ptr _, .v (.pointer none) => some false
  | .v (.pointer none), .v (.pointer none) => some true
  | .fn _ _ _, .v .nilFunc => some false
  | .v .nilFunc, .v .nilFunc => some true
  | .v (.bool a), .v (.bool b) => some (a == b)
  | _, _ => none
def isNil : Operand → Bool
  | .const .nilIface | .const (.pointer none) | .const .nilFunc => true
  | _ => false
/-- '==' on a type -/
def eqD (td : TD) (c : Bool) (ks : List EK) (x y : D) : Option Bool :=
  match td, x, y with
  | .iface _, .v .nilIface, .v .nilIface => if c then some true else none
  | .iface _, .ifc _ _, .v .nilIface | .iface _, .v .nilIface, .ifc _ _ => some false
  | .iface _, .v (.iface _ _), .v .nilIface | .iface _, .v .nilIface, .v (.iface _ _) => some false
  | .ptr _, .ptr _, .v (.pointer none) => some false
  | .ptr _, .v (.pointer none), .v (.pointer none) => some true
  | .bool, .v (.bool a), .v (.bool b) => some (a == b)
  | .strct _, .st xs, .st ys => if ks = [] then none else eqCells ks xs ys
  | _, _, _ => none
def dBin (op : BinOp) (td : TD) (c : Bool) (ks : List EK) (x y : D) : Option D :=
  match x, y with
  | .v (.int k a), .v (.int k' b) => if k = k' ∨ op = .shl ∨ op = .shr then intBin op k a b else none
  | .s a, .s b => strBin op a b
  | x, y => match op with
    | .eql => (match eqD td c ks x y with | some b => some (.v (.bool b)) | none => none)
    | .neq => (match eqD td c ks x y with | some b => some (.v (.bool (!b))) | none => none)
    | _ => none
def isConst : Operand → Bool
  | .const _ => true
  | _ => false

section
variable {R : Type}
/-- an index: the rest only in range -/
def atK {α : Type} (xs : List α) (i : Int) (κ : α → Option R) : Option R :=
  if 0 ≤ i then match xs[i.toNat]? with | some x => κ x | none => none else none
/-- the bounds of a cut: the rest only if they are right -/
def cutK (len : Nat) (lo hi : Int) (κ : Nat → Nat → Option R) : Option R :=
  if 0 ≤ lo ∧ lo ≤ hi ∧ hi ≤ len then κ lo.toNat hi.toNat else none

/-- An oracle: what a function that only reads gives for data. -/
abbrev Abs := FuncId → List D → Option (List D)

def packD : List D → AV
  | [x] => .d x
  | xs => .tup (xs.map .d)

variable (T : Ctx) (E : Abs)

def boundK (s : St) (x : Option Operand) (dflt : Int) (κ : Int → Option R) : Option R :=
  match x with
  | none => κ dflt
  | some x => match s.get T x with | .d (.v (.int _ i)) => κ i | _ => none

def opK (op : Oper) (s : St) (κ : St → Option R) : Option R :=
  match op.op with
  | .move x => κ (s.put op.dst (nilfix T op.type (s.get T x)))
  | .assign x =>
    match op.dst with
    | some d => (match s.get T x with
      | .d (.v (.slice none 0 0)) => (match T.td op.type with | .slice e => κ (s.newTok d (T.sz e) []) | _ => none)
      | .tight n xs => κ (s.newTok d n xs)
      | v => κ (s.put (some d) v))
    | none => none
  | .pick c a b => match s.get T c with
    | .d (.v (.bool t)) => (match t with | true => κ (s.put op.dst (s.get T a)) | false => κ (s.put op.dst (s.get T b)))
    | _ => none
  | .binOp b t x y _ => match (s.get T x).data s.o, (s.get T y).data s.o with
    | some dx, some dy => (match dBin b (T.td t) (isConst x || isConst y) (T.eqt t) dx dy with | some r => κ (s.put op.dst (.d r)) | none => none)
    | _, _ => match b, s.get T x, s.get T y with
      | .eql, .ref _ _, .d (.v (.pointer none)) => (match T.td t with | .ptr _ => κ (s.put op.dst (.d (.v (.bool false)))) | _ => none)
      | .neq, .ref _ _, .d (.v (.pointer none)) => (match T.td t with | .ptr _ => κ (s.put op.dst (.d (.v (.bool true)))) | _ => none)
      | _, _, _ => none
  | .unOp u _ x => match s.get T x with
    | .d (.v (.bool b)) => (match u with | .not => κ (s.put op.dst (.d (.v (.bool (!b))))) | _ => none)
    | .d (.v (.int k n)) => (match u with | .neg => κ (s.put op.dst (.d (.v (.int k (k.wrap (0 - n)))))) | _ => none)
    | _ => none
  | .convert a b x => match T.td a, T.td b, (s.get T x).data s.o with
    | .int _, .int k, some (.v (.int _ n)) => κ (s.put op.dst (.d (.v (.int k (k.wrap n)))))
    | .str, .str, some (.s l) => κ (s.put op.dst (.d (.s l)))
    | .slice e, .str, some (.sl n xs) => (match T.td e with
      | .int .u8 => (match bytesOf xs with | some l => κ (s.put op.dst (.d (.s l))) | none => none)
      | _ => none)
    | _, _, _ => none
  | .alloc t => match op.dst with | some d => if (T.td t).ok = true then κ (s.newBox d ((T.zero t).map .d)) else none | none => none
  | .box t x => if op.type = iceMark then
      (match (nilfix T t (s.get T x)).cells with
      | some cs => (match datas s.o cs with
        | some ds => if ds.all D.cell = true then κ (s.put op.dst (.d (.ptr ds))) else none
        | none => none)
      | none => none)
    else (match op.dst, (nilfix T t (s.get T x)).cells with | some d, some cs => κ (s.newBox d cs) | _, _ => none)
  | .store t a x => match s.get T a, (nilfix T t (s.get T x)).cells with
    | .ref id off, some vs => (match lookup id s.o with
      | some (.box cs) => if off + vs.length ≤ cs.length ∧ vs.length = T.sz t ∧ (T.td t).ok = true then κ (St.put { s with o := update id (.box (setCells cs off vs)) s.o } op.dst (.d (.v undef))) else none
      | _ => none)
    | _, _ => none
  | .load t a => match s.get T a with
    | .ref id off => (match lookup id s.o with
      | some (.box cs) => if off + T.sz t ≤ cs.length ∧ ((T.td t).agg = true ∨ T.sz t = 1) ∧ (T.td t).ok = true then κ (s.put op.dst (valA (T.td t).agg ((cs.drop off).take (T.sz t)))) else none
      | _ => none)
    | .d (.ptr cs) => if T.sz t ≤ cs.length ∧ ((T.td t).agg = true ∨ T.sz t = 1) ∧ (T.td t).ok = true then κ (s.put op.dst (.d (valD (T.td t).agg (cs.take (T.sz t))))) else none
    | _ => none
  | .nilCheck x => match s.get T x with
    | .d (.ptr cs) => κ (s.put op.dst (.d (.ptr cs)))
    | .ref id off => κ (s.put op.dst (.ref id off))
    | _ => none
  | .fieldAddr t a i => match T.td t with
    | .strct fs => (match fs[i]? with
      | some (_, off) => (match s.get T a with
        | .ref id o => κ (s.put op.dst (.ref id (o + off)))
        | .d (.ptr cs) => if off ≤ cs.length then κ (s.put op.dst (.d (.ptr (cs.drop off)))) else none
        | _ => none)
      | none => none)
    | _ => none
  | .field t x i => match T.td t with
    | .strct fs => (match fs[i]? with
      | some (ft, off) => (match (s.get T x).data s.o with
        | some (.st cs) => if off + T.sz ft ≤ cs.length ∧ ((T.td ft).agg = true ∨ T.sz ft = 1) then κ (s.put op.dst (.d (valD (T.td ft).agg ((cs.drop off).take (T.sz ft))))) else none
        | _ => none)
      | none => none)
    | _ => none
  | .indexAddr t a i => match T.td t, (s.get T a).data s.o, s.get T i with
    | .slice e, some (.sl n xs), .d (.v (.int _ i)) => if n = T.sz e then atK xs i fun x => κ (s.put op.dst (.d (.ptr x.cells))) else none
    | .arr m e, some (.ptr cs), .d (.v (.int _ i)) => if 0 ≤ i ∧ i < m ∧ m * T.sz e = cs.length ∧ 1 < m then κ (s.put op.dst (.d (.ptr (cs.drop (i.toNat * T.sz e))))) else none
    | _, _, _ => none
  | .index t x i => match T.td t, s.get T x, s.get T i with
    | .str, .d (.s l), .d (.v (.int _ i)) => atK l i fun b => κ (s.put op.dst (.d (encB b)))
    | _, _, _ => none
  | .slice t x lo hi mx => match T.td t, (s.get T x).data s.o, mx with
    | .str, some (.s l), none => boundK T s lo 0 fun lo => boundK T s hi l.length fun hi => cutK l.length lo hi fun a b => κ (s.put op.dst (.d (.s ((l.take b).drop a))))
    | .slice e, some (.sl n xs), none => if n = T.sz e then boundK T s lo 0 fun lo => boundK T s hi xs.length fun hi => cutK xs.length lo hi fun a b => κ (s.put op.dst (.d (.sl n ((xs.take b).drop a)))) else none
    | _, _, _ => none
  | .makeInterface t x => match T.td t with
    | .iface _ => none
    | .other => none
    | _ => (match (nilfix T t (s.get T x)).data s.o with
      | some x => κ (s.put op.dst (.d (.ifc t x)))
      | none => (match s.get T x with
        | .ref id 0 => (match lookup id s.o with
          | some (.box cs) => (match datas s.o cs with | some ds => if ds.all D.cell then κ ((s.ice id ds).put op.dst (.d (.ifc t (.ptr ds)))) else none | none => none)
          | _ => none)
        | _ => none))
  | .build t parts => match T.td t with
    | .strct fs => (match buildK s fs parts.toList ((T.zero t).map .d) with | some cs => κ (s.put op.dst (.agg cs)) | none => none)
    | _ => none
  | .buildSlice t len parts => match T.td t with
    | .slice e => (match datas s.o (parts.toList.map fun p => nilfix T e (s.get T p.2)) with
      | some xs => if parts.toList.map (·.1) = List.range len ∧ len * T.sz e ≤ 16777216 then (match len, op.dst with
          | 0, some d => κ (s.newTok d (T.sz e) [])
          | _, _ => if xs.all (fun x => x.cells.length = T.sz e && x.cells.all D.cell) then κ (s.put op.dst (.tight (T.sz e) xs)) else none) else none
      | none => none)
    | _ => none
  | .typeAssert x _ t ok => match s.get T x, T.td t with
    | _, .iface _ => none
    | _, .other => none
    | .d (.ifc t' x), _ => if ok then
        (if t' = t then κ (s.put op.dst (.tup [.d x, .d (.v (.bool true))])) else κ (s.put op.dst (.tup [.d (valD (T.td t).agg (T.zero t)), .d (.v (.bool false))])))
        else (if t' = t then κ (s.put op.dst (.d x)) else none)
    | _, _ => none
  | .extract x i => match s.get T x with
    | .tup xs => (match xs[i]? with | some x => κ (s.put op.dst x) | none => none)
    | _ => none
  | .makeFunc f as bs => κ (s.put op.dst (.clo f (as.toList.map (s.get T)) (bs.toList.map (s.get T))))
  | .call c => match c.callee with
    | .builtin b => (match b, c.args.toList, c.argTypes.toList with
      | .len, [x], [t] => (match T.td t, (s.get T x).data s.o with
        | .str, some (.s l) => κ (s.put op.dst (.d (.v (.int .i64 l.length))))
        | .slice _, some (.sl _ xs) => κ (s.put op.dst (.d (.v (.int .i64 xs.length))))
        | _, _ => none)
      | .append, [x, y], [t, t'] => (match T.td t, T.td t', (nilfix T t' (s.get T y)).data s.o with
        | .slice e, .slice _, some (.sl n' ys) => (match s.get T x with
          | .own k => (match lookup k s.o with
            | some (.tok n xs) => if n = T.sz e ∧ n' = n ∧ xs.length + ys.length ≤ lim then κ (s.grow op.dst k n xs ys) else none
            | _ => none)
          | _ => none)
        | .slice e, .str, some (.s l) => (match s.get T x with
          | .own k => (match lookup k s.o with
            | some (.tok n xs) => if n = T.sz e ∧ n = 1 ∧ xs.length + l.length ≤ lim then κ (s.grow op.dst k n xs (l.map encB)) else none
            | _ => none)
          | _ => none)
        | _, _, _ => none)
      | _, _, _ => none)
    | .value f => (match (s.get T f).data s.o, datas s.o ((c.args.toList.zip c.argTypes.toList).map fun p => nilfix T p.2 (s.get T p.1)) with
      | some (.fn (.func f) first cap), some args => if c.args.size = c.argTypes.size then (match E f (first ++ args ++ cap) with
        | some rs => κ (s.put op.dst (packD rs))
        | none => none) else none
      | _, _ => none)
    | _ => none
  | _ => none
where
  buildK (s : St) (fs : List (TypeId × Nat)) : List (Nat × Operand) → List AV → Option (List AV)
    | [], cs => some cs
    | (i, x) :: r, cs => match fs[i]? with
      | some (ft, off) => (match (nilfix T ft (s.get T x)).cells with
        | some vs => if vs.length = T.sz ft ∧ off + vs.length ≤ cs.length then buildK s fs r (setCells cs off vs) else none
        | none => none)
      | none => none

/-- One operation of a region, with its guard. -/
def opG (ops : List Oper) (o : Oper) (s : St) (κ : St → Option R) : Option R :=
  match o.guard with
  | none => opK T E o s κ
  | some (j, want) => match ((ops[j]?).bind (·.dst)).bind (s.t[·]?) with
    | some (.d (.v (.bool b))) => (match b, want with
      | true, true | false, false => opK T E o s κ
      | _, _ => κ (s.put o.dst (.d (.v undef))))
    | some (.d (.v (.tuple _))) => κ (s.put o.dst (.d (.v undef)))
    | _ => none
def opsK (ops : List Oper) : List Oper → St → (St → Option R) → Option R
  | [], s, κ => κ s
  | o :: r, s, κ => opG T E ops o s fun s => opsK ops r s κ

end
mutual
def AV.ids : AV → List Id
  | .own k => [k]
  | .ref id _ => [id]
  | .agg cs => idsL cs
  | .tup cs => idsL cs
  | .clo _ as bs => idsL as ++ idsL bs
  | _ => []
def idsL : List AV → List Id
  | [] => []
  | x :: r => x.ids ++ idsL r
end
/-- An assignment in a drawn region only puts; a box that stays free of objects is never written. -/
def mv (fr : List Nat) (o : Oper) : Oper := match o.op, o.dst with
  | .assign x, _ => { o with op := .move x }
  | .box _ _, some d => if fr.contains d = true then { o with type := iceMark } else o
  | _, _ => o
/-- Does a box of this region lie in the slot? -/
def boxed (ops : Array Oper) (t : Tmp) : Bool := ops.any fun o => o.dst == some t && (match o.op with | .alloc _ | .box _ _ => true | _ => false)
def isMk (o : Oper) : Bool := match o.op with | .makeInterface _ _ => true | _ => false
/-- What turns objects. -/
def isB (ops : Array Oper) (fr : List Nat) (o : Oper) : Bool :=
  match o.op with
  | .alloc _ | .store _ _ _ => true
  | .box _ _ => o.type != iceMark
  | .makeInterface _ (.tmp t) => boxed ops t && !fr.contains t
  | .buildSlice _ 0 _ => true
  | .call c => (match c.callee with | .builtin .append => true | _ => false)
  | _ => false
def frOp (ops : Array Oper) (fr : List Nat) (o : Oper) : Bool :=
  (o.looksAt ops).all fr.contains && (match o.dst with | some d => fr.contains d | none => true)
/-- These two may change places. -/
def comm (ops : Array Oper) (fr : List Nat) (a i : Oper) : Bool :=
  a.apart ops i && (match isB ops fr a, isB ops fr i with
    | true, true => false
    | true, false => frOp ops fr i
    | false, true => frOp ops fr a
    | false, false => (!isMk a || frOp ops fr a) && (!isMk i || frOp ops fr i))
/-- What comes before. -/
def anc (ops : Array Oper) : Nat → Nat → List Nat
  | 0, _ => []
  | n + 1, i => match ops[i]? with
    | some o => (o.after.toList.filter (Region.binds .any)).flatMap fun e => e.on :: anc ops n e.on
    | none => []
def drawOk (fr : List Nat) (ops : Array Oper) : Bool :=
  (List.range ops.size).all fun i => match ops[i]? with
    | some oi => oi.after.toList.all (fun e => !Region.binds .any e || decide (e.on < i)) &&
      (let up := anc ops ops.size i
       (List.range i).all fun a => up.contains a || (match ops[a]? with | some oa => comm ops fr (mv fr oa) (mv fr oi) | none => true))
    | none => true
def clear (fr : List Nat) (s : St) : Option Tmp → Bool
  | some d => !fr.contains d || (match s.t[d]? with | some x => x.ids.isEmpty | none => false)
  | none => true

section
variable {R : Type} (T : Ctx) (E : Abs)
def dopsK (fr : List Nat) (ops : List Oper) : List Oper → St → (St → Option R) → Option R
  | [], s, κ => κ s
  | o :: r, s, κ => opG T E ops (mv fr o) s fun s' => if clear fr s' o.dst = true then dopsK fr ops r s' κ else none
def drawK (fr : List Nat) (ops : Array Oper) (s : St) (κ : St → Option R) : Option R :=
  if fr.all (fun d => clear fr s (some d)) = true then dopsK T E fr ops.toList ops.toList s κ else none

inductive Ex where | normal | exit (i : Nat) | ret

def iter (body : St → (Ex → St → Option R) → Option R) : Nat → St → (Ex → St → Option R) → Option R
  | 0, _, _ => none
  | n + 1, s, κ => body s fun e s => match e with | .normal => iter body n s κ | .exit i => κ (.exit i) s | .ret => κ .ret s

/-- Only these slots are looked at from here on. -/
def keepT (ks : List Nat) : Nat → List AV → List AV
  | _, [] => []
  | i, x :: r => (if ks.contains i then x else .undef) :: keepT ks (i + 1) r
def idsO (o : Obs) : List Id → List Id
  | [] => []
  | k :: r => (match lookup k o with | some (.box cs) => idsL cs | _ => []) ++ idsO o r
def pickO (ids : List Id) : Obs → Obs
  | [] => []
  | (k, x) :: r => if k.1 = 0 ∨ ids.contains k = true then (k, x) :: pickO ids r else pickO ids r
def closedO (ids : List Id) : Obs → Bool
  | [] => true
  | (_, .box cs) :: r => (idsL cs).all (fun k => k.1 == 0 || ids.contains k) && closedO ids r
  | (_, .tok _ _) :: r => closedO ids r
def St.keep (s : St) (ks : List Nat) (κ : St → Option R) : Option R :=
  let t := keepT ks 0 s.t
  let a := idsL t
  let b := a ++ idsO s.o a
  let c := b ++ idsO s.o b
  if closedO c (pickO c s.o) then κ { t := t, o := pickO c s.o } else none

def firstRegion : Code → Nat
  | .region i _ _ => i
  | .seq a _ => firstRegion a
  | .block _ c => firstRegion c
  | .loop c => firstRegion c
  | .scope c => firstRegion c
  | _ => 0

def codeK (kp fr : Nat → List Nat) (n : Nat) : Code → St → (Ex → St → Option R) → Option R
  | .skip, s, κ => κ .normal s
  | .label _, s, κ => κ .normal s
  | .region _ ops false, s, κ => opsK T E ops.toList ops.toList s (κ .normal)
  | .region id ops true, s, κ => drawK T E (fr id) ops s (κ .normal)
  | .seq a b, s, κ => codeK kp fr n a s fun e s => match e with | .normal => codeK kp fr n b s κ | .exit i => κ (.exit i) s | .ret => κ .ret s
  | .cond c a b, s, κ => match s.get T c with
    | .d (.v (.bool t)) => (match t with | true => codeK kp fr n a s κ | false => codeK kp fr n b s κ)
    | _ => none
  | .block id c, s, κ => codeK kp fr n c s fun e s => match e with | .normal => κ .normal s | .exit i => if i = id then κ .normal s else κ (.exit i) s | .ret => κ .ret s
  | .loop c, s, κ => iter (fun s κ => s.keep (kp (firstRegion c)) fun s => codeK kp fr n c s κ) n s κ
  | .scope c, s, κ => codeK kp fr n c s κ
  | .exit i, s, κ => κ (.exit i) s
  | .ret, s, κ => κ .ret s
  | _, _, _ => none
end

/-- The drawn regions' check, once for a whole code. -/
def drawsOk (fr : Nat → List Nat) : Code → Bool
  | .region id ops true => drawOk (fr id) ops
  | .seq a b => drawsOk fr a && drawsOk fr b
  | .cond _ a b => drawsOk fr a && drawsOk fr b
  | .block _ c => drawsOk fr c
  | .loop c => drawsOk fr c
  | .scope c => drawsOk fr c
  | _ => true
/-- A result: a datum; a box that is handed back is written no more. -/
def resD (s : St) (x : AV) : Option D :=
  match x with
  | .ref id off => match lookup id s.o with
    | some (.box cs) => (match datas s.o (cs.drop off) with | some ds => if ds.all D.cell then some (.ptr ds) else none | none => none)
    | _ => none
  | x => x.data s.o
def resK (T : Ctx) (s : St) : List ResultVar → Option (List D)
  | [] => some []
  | .tmp t :: r => match resD s (s.t.getD t .undef), resK T s r with | some x, some xs => some (x :: xs) | _, _ => none
  | .cell a t :: r => match s.t.getD a .undef with
    | .ref id off => (match lookup id s.o with
      | some (.box cs) => if off + T.sz t ≤ cs.length ∧ ((T.td t).agg = true ∨ T.sz t = 1) ∧ (T.td t).ok = true then (match resD s (valA (T.td t).agg ((cs.drop off).take (T.sz t))), resK T s r with | some x, some xs => some (x :: xs) | _, _ => none) else none
      | _ => none)
    | _ => none
def fnK (T : Ctx) (E : Abs) (kp fr : Nat → List Nat) (n : Nat) (f : Func) (args : List D) : Option (List D) :=
  match f.body with
  | some c => codeK T E kp fr n c { t := args.map .d ++ List.replicate (f.ntmps - args.length) (.d (.v undef)), o := [] } fun e s =>
    match e with
    | .exit _ => none
    | _ => resK T s f.results.toList
  | none => none

end Go.Ab
