/-
  The abstract machine: values without capacities and addresses, a heap of numbered objects, and a big-step reading of the model's own code.
-/
import Derived.Orders
import Derived.Calls
import Derived.Below
set_option linter.all false
namespace Go.Proofs.Ytbnlhhfobgjeaaa
open Go

/-! ### answers -/
inductive Res (α : Type) where
  | ok (a : α)
  | err (n : Nat)

def Res.bind {α β : Type} : Res α → (α → Res β) → Res β
  | .ok a, f => f a
  | .err n, _ => .err n

def ofOpt {α : Type} (n : Nat) : Option α → Res α
  | some a => .ok a
  | none => .err n

/-! ### values -/
inductive AVal where
  | dead
  | cell (vs : List AVal)
  | loc (off : Nat) (valid : Bool)
  | bool (b : Bool)
  | int (k : IntKind) (n : Int)
  | float (k : FloatKind) (bits : Nat)
  | cplx (k : FloatKind) (re im : Nat)
  | str (s : List UInt8)
  | nilp
  | ptr (o off : Nat)
  | rptr (r off : Nat)
  | nils
  | sl (o off len : Nat)
  | slc (o off len cap : Nat)
  | rsl (r off len : Nat)
  | nilm
  | map (o : Nat)
  | func (fn : Nat) (first captured : List AVal)
  | nilf
  | iface (t : Nat) (v : AVal)
  | nili
  | agg (vs : List AVal)
  | tuple (vs : List AVal)
  deriving Inhabited

inductive AObj where
  | row (esz : Nat) (fz : Bool) (vs : List AVal)
  | map (es : List (AVal × AVal))
  deriving Inhabited

/-! ### a row of objects by number -/
inductive Tr (α : Type) where
  | nil
  | node (v : Option α) (l r : Tr α)

def Tr.get {α : Type} : Tr α → Nat → Option α
  | .nil, _ => none
  | .node v l r, n => if n = 0 then v else if n % 2 = 1 then l.get (n / 2) else r.get (n / 2 - 1)

def Tr.setF {α : Type} : Nat → Tr α → Nat → Option α → Tr α
  | 0, t, _, _ => t
  | f + 1, .nil, n, x => if n = 0 then .node x .nil .nil else if n % 2 = 1 then .node none (Tr.setF f .nil (n / 2) x) .nil else .node none .nil (Tr.setF f .nil (n / 2 - 1) x)
  | f + 1, .node v l r, n, x => if n = 0 then .node x l r else if n % 2 = 1 then .node v (Tr.setF f l (n / 2) x) r else .node v l (Tr.setF f r (n / 2 - 1) x)

structure AHeap where
  objs : Tr AObj
  next : Nat

def AHeap.get (h : AHeap) (o : Nat) : Option AObj := h.objs.get o
def AHeap.set (h : AHeap) (o : Nat) (x : AObj) : AHeap := { h with objs := Tr.setF (o + 1) h.objs o (some x) }
def AHeap.del (h : AHeap) (o : Nat) : AHeap := { h with objs := Tr.setF (o + 1) h.objs o none }
def AHeap.push (h : AHeap) (x : AObj) : AHeap := { objs := Tr.setF (h.next + 1) h.objs h.next (some x), next := h.next + 1 }

/-! ### what a program is to this machine -/
structure FnAnn where
  ok : Bool := false
  locals : List Nat := []
  clear : List (Nat × List Nat) := []

abbrev Prim := List AVal → AHeap → Res (AVal × AHeap)

structure Cfg where
  P : Program
  ann : Nat → FnAnn
  eqOk : Nat → Bool
  prim : Nat → Option Prim
  ro : Nat → Option (List AVal)

/-! ### small words on lists -/
def nth : List AVal → Nat → AVal
  | [], _ => .dead
  | a :: _, 0 => a
  | _ :: l, n + 1 => nth l n

def setN : List AVal → Nat → AVal → List AVal
  | [], _, _ => []
  | _ :: l, 0, v => v :: l
  | a :: l, n + 1, v => a :: setN l n v

def nthR : List AVal → Nat → Res AVal
  | [], _ => .err 10
  | a :: _, 0 => .ok a
  | _ :: l, n + 1 => nthR l n

def takeR (vs : List AVal) (off n : Nat) : Res (List AVal) := if off + n ≤ vs.length then .ok ((vs.drop off).take n) else .err 11

def overR (vs : List AVal) (off : Nat) (cs : List AVal) : Res (List AVal) :=
  if off + cs.length ≤ vs.length then .ok (vs.take off ++ cs ++ vs.drop (off + cs.length)) else .err 12

def clearAll : List Nat → List AVal → List AVal
  | [], env => env
  | n :: l, env => clearAll l (setN env n .dead)

/-! ### constants -/
def toA1 : Value → Option AVal
  | .bool b => some (.bool b)
  | .int k n => some (.int k n)
  | .float k b => some (.float k b)
  | .complex k a b => some (.cplx k a b)
  | .string s => some (.str s.data.toList)
  | .pointer none => some .nilp
  | .slice none 0 0 => some .nils
  | .map none => some .nilm
  | .nilFunc => some .nilf
  | .nilIface => some .nili
  | _ => none

def toAs : List Value → Option (List AVal)
  | [] => some []
  | v :: l => match toA1 v, toAs l with
    | some a, some r => some (a :: r)
    | _, _ => none

def toA : Value → Option AVal
  | .agg cs => (toAs cs.toList).map .agg
  | v => toA1 v

/-- may a value stand in one cell? -/
def AVal.isCell : AVal → Bool
  | .dead | .cell _ | .loc _ _ | .agg _ | .tuple _ => false
  | _ => true

def cellsV : AVal → Res (List AVal)
  | .agg vs => .ok vs
  | v => if v.isCell then .ok [v] else .err 13

/-! ### types -/
def infoR (P : Program) (t : Nat) : Res TypeInfo := ofOpt 20 (P.info? t)
def undR (P : Program) (t : Nat) : Res TypeDesc := ofOpt 21 (P.underlying t)
def sizeR (P : Program) (t : Nat) : Res Nat := (infoR P t).bind fun i => .ok i.size
def zeroV (P : Program) (t : Nat) : Res AVal := (infoR P t).bind fun i => (ofOpt 22 i.zero).bind fun z => ofOpt 23 (toA z)
def isAggD : TypeDesc → Bool
  | .struct _ | .array _ _ => true
  | _ => false
def isAggR (P : Program) (t : Nat) : Res Bool := (undR P t).bind fun d => .ok (isAggD d)
def elemSl (P : Program) (t : Nat) : Res Nat := (undR P t).bind fun
  | .slice e => .ok e
  | _ => .err 24

/-- the part of cells that is a value of a type -/
def partR (P : Program) (t : Nat) (vs : List AVal) (off : Nat) : Res AVal :=
  (isAggR P t).bind fun
    | true => (sizeR P t).bind fun n => (takeR vs off n).bind fun cs => .ok (.agg cs)
    | false => nthR vs off

/-! ### memory -/
def rowR (c : Cfg) (h : AHeap) : AVal → Res (List AVal × Nat)
  | .ptr o off => match h.get o with
    | some (.row _ _ vs) => .ok (vs, off)
    | _ => .err 30
  | .rptr r off => match c.ro r with
    | some vs => .ok (vs, off)
    | none => .err 31
  | _ => .err 32

def loadR (c : Cfg) (h : AHeap) (t : Nat) (x : AVal) : Res AVal :=
  (rowR c h x).bind fun r => partR c.P t r.1 r.2

def storeR (c : Cfg) (h : AHeap) (t : Nat) (x v : AVal) : Res AHeap :=
  match x with
  | .ptr o off => match h.get o with
    | some (.row e f vs) => (sizeR c.P t).bind fun n => (cellsV v).bind fun cs =>
        if cs.length = n then (overR vs off cs).bind fun vs' => .ok (h.set o (.row e f vs')) else .err 33
    | _ => .err 34
  | _ => .err 35

/-- the cells of the first n elements of a slice, or of a string's bytes -/
def readSl (c : Cfg) (h : AHeap) (size n : Nat) : AVal → Res (List AVal)
  | .nils => if n = 0 then .ok [] else .err 40
  | .sl o off _ | .slc o off _ _ => if n = 0 then .ok [] else match h.get o with
    | some (.row _ _ vs) => takeR vs off (n * size)
    | _ => .err 41
  | .rsl r off _ => if n = 0 then .ok [] else match c.ro r with
    | some vs => takeR vs off (n * size)
    | none => .err 42
  | .str s => if size = 1 ∧ n ≤ s.length then .ok ((s.take n).map fun b => .int .u8 b.toNat) else .err 45
  | _ => .err 43

def lenA : AVal → Res Nat
  | .nils => .ok 0
  | .sl _ _ n | .slc _ _ n _ | .rsl _ _ n => .ok n
  | .str s => .ok s.length
  | _ => .err 44

def lenSl : AVal → Res Nat
  | .sl _ _ n | .slc _ _ n _ | .rsl _ _ n => .ok n
  | _ => .err 46

def reps (n : Nat) (l : List AVal) : List AVal := (List.replicate n l).flatten

/-! ### operators -/
def intBin (op : BinOp) (k : IntKind) (a b : Int) : Res AVal :=
  match op with
  | .add => .ok (.int k (k.wrap (a + b)))
  | .sub => .ok (.int k (k.wrap (a - b)))
  | .mul => .ok (.int k (k.wrap (a * b)))
  | .quo => if b = 0 then .err 50 else .ok (.int k (k.wrap (a.tdiv b)))
  | .rem => if b = 0 then .err 50 else .ok (.int k (a.tmod b))
  | .and => .ok (.int k (k.wrap (BitVec.ofInt k.bits a &&& BitVec.ofInt k.bits b).toNat))
  | .or => .ok (.int k (k.wrap (BitVec.ofInt k.bits a ||| BitVec.ofInt k.bits b).toNat))
  | .xor => .ok (.int k (k.wrap (BitVec.ofInt k.bits a ^^^ BitVec.ofInt k.bits b).toNat))
  | .andNot => .ok (.int k (k.wrap (BitVec.ofInt k.bits a &&& ~~~ BitVec.ofInt k.bits b).toNat))
  | .eql => .ok (.bool (a == b))
  | .neq => .ok (.bool (a != b))
  | .lss => .ok (.bool (a < b))
  | .leq => .ok (.bool (a ≤ b))
  | .gtr => .ok (.bool (a > b))
  | .geq => .ok (.bool (a ≥ b))
  | _ => .err 51

def shiftBin (op : BinOp) (k : IntKind) (a b : Int) : Res AVal :=
  if b < 0 then .err 52 else
  match op with
  | .shl => .ok (.int k (k.wrap (a * 2 ^ (min b.toNat k.bits))))
  | .shr => .ok (.int k (a.fdiv (2 ^ (min b.toNat k.bits))))
  | _ => .err 53

def strBin (op : BinOp) (x y : List UInt8) : Res AVal :=
  match op with
  | .add => if ((x.length + y.length : Nat) : Int) > IntKind.i64.max then .err 54 else .ok (.str (x ++ y))
  | .eql => .ok (.bool (x == y))
  | .neq => .ok (.bool (!(x == y)))
  | .lss => .ok (.bool (Op.bytesLess x y))
  | .leq => .ok (.bool (Op.bytesLess x y || x == y))
  | .gtr => .ok (.bool (!(Op.bytesLess x y || x == y)))
  | .geq => .ok (.bool (!Op.bytesLess x y))
  | _ => .err 55

def floatBin (op : BinOp) (k : FloatKind) (a b : Nat) : Res AVal :=
  match op with
  | .add => (ofOpt 56 (k.format.add a b)).bind fun r => .ok (.float k r)
  | .sub => (ofOpt 56 (k.format.sub a b)).bind fun r => .ok (.float k r)
  | .mul => (ofOpt 56 (k.format.mul a b)).bind fun r => .ok (.float k r)
  | .quo => (ofOpt 56 (k.format.div a b)).bind fun r => .ok (.float k r)
  | .eql => .ok (.bool (k.format.order a b == some .eq))
  | .neq => .ok (.bool (k.format.order a b != some .eq))
  | .lss => .ok (.bool (k.format.order a b == some .lt))
  | .leq => .ok (.bool (k.format.order a b == some .lt || k.format.order a b == some .eq))
  | .gtr => .ok (.bool (k.format.order a b == some .gt))
  | .geq => .ok (.bool (k.format.order a b == some .gt || k.format.order a b == some .eq))
  | _ => .err 57

def cplxBin (op : BinOp) (k : FloatKind) (a b c d : Nat) : Res AVal :=
  match op, k with
  | .add, _ => (ofOpt 58 (k.format.add a c)).bind fun r => (ofOpt 58 (k.format.add b d)).bind fun i => .ok (.cplx k r i)
  | .sub, _ => (ofOpt 58 (k.format.sub a c)).bind fun r => (ofOpt 58 (k.format.sub b d)).bind fun i => .ok (.cplx k r i)
  | .mul, .f64 =>
    (ofOpt 58 (k.format.mul a c)).bind fun ac => (ofOpt 58 (k.format.mul b d)).bind fun bd => (ofOpt 58 (k.format.sub ac bd)).bind fun re =>
    (ofOpt 58 (k.format.mul a d)).bind fun ad => (ofOpt 58 (k.format.mul b c)).bind fun bc => (ofOpt 58 (k.format.add ad bc)).bind fun im => .ok (.cplx k re im)
  | .eql, _ => .ok (.bool (k.format.order a c == some .eq && k.format.order b d == some .eq))
  | .neq, _ => .ok (.bool (!(k.format.order a c == some .eq && k.format.order b d == some .eq)))
  | _, _ => .err 59

/-- are two pointers one? (both in the heap) -/
def ptrEq (h : AHeap) (o off o' off' : Nat) : Res Bool :=
  if o = o' then .ok (off == off') else
  match h.get o, h.get o' with
  | some (.row _ false _), some (.row _ false _) => .ok false
  | _, _ => .err 60

/-- '==' of two values of one cell -/
def eq1 (h : AHeap) : AVal → AVal → Res Bool
  | .bool a, .bool b => .ok (a == b)
  | .int k a, .int k' b => if k = k' then .ok (a == b) else .err 61
  | .str a, .str b => .ok (a == b)
  | .float k a, .float k' b => if k = k' then .ok (k.format.order a b == some .eq) else .err 61
  | .cplx k a b, .cplx k' a' b' => if k = k' then .ok (k.format.order a a' == some .eq && k.format.order b b' == some .eq) else .err 61
  | .nilp, .nilp => .ok true
  | .nilp, .ptr _ _ => .ok false
  | .ptr _ _, .nilp => .ok false
  | .ptr o f, .ptr o' f' => ptrEq h o f o' f'
  | _, _ => .err 62

def sizeNonzero (P : Program) (t : Nat) : Bool := match P.info? t with | some i => i.size != 0 | none => false

/-- is '==' of two such values of the type what eq1 says? -/
def fits1 (P : Program) : TypeDesc → AVal → AVal → Bool
  | .bool, .bool _, .bool _ => true
  | .int _, .int _ _, .int _ _ => true
  | .string, .str _, .str _ => true
  | .float _, .float _ _, .float _ _ => true
  | .complex _, .cplx _ _ _, .cplx _ _ _ => true
  | .pointer _, .nilp, .nilp => true
  | .pointer _, .nilp, .ptr _ _ => true
  | .pointer _, .ptr _ _, .nilp => true
  | .pointer e, .ptr _ _, .ptr _ _ => sizeNonzero P e
  | _, _, _ => false

/-- '==' of what is no struct -/
def eqFlat (P : Program) (h : AHeap) (u : TypeDesc) (x y : AVal) : Res Bool :=
  match u with
  | .interface _ => match x, y with
    | .nili, .nili => .ok true
    | .nili, .iface _ _ => .ok false
    | .iface _ _, .nili => .ok false
    | _, _ => .err 64
  | .slice _ => match x, y with
    | .nils, .nils => .ok true
    | .nils, .sl _ _ _ | .nils, .slc _ _ _ _ | .nils, .rsl _ _ _ => .ok false
    | .sl _ _ _, .nils | .slc _ _ _ _, .nils | .rsl _ _ _, .nils => .ok false
    | _, _ => .err 64
  | .map _ _ => match x, y with
    | .nilm, .nilm => .ok true
    | .nilm, .map _ => .ok false
    | .map _, .nilm => .ok false
    | _, _ => .err 64
  | .func _ _ _ => match x, y with
    | .nilf, .nilf => .ok true
    | .nilf, .func _ _ _ => .ok false
    | .func _ _ _, .nilf => .ok false
    | _, _ => .err 64
  | u => if fits1 P u x y then eq1 h x y else .err 65

/-- field by field -/
def eqFields (P : Program) (eq : Nat → AVal → AVal → Res Bool) : List Field → List AVal → List AVal → Res Bool
  | [], _, _ => .ok true
  | f :: fs, xs, ys =>
    if f.name = "_" then eqFields P eq fs xs ys else
    (partR P f.type xs f.offset).bind fun a => (partR P f.type ys f.offset).bind fun b =>
    (eq f.type a b).bind fun r => match r with
      | true => eqFields P eq fs xs ys
      | false => .ok false

def eqIn (c : Cfg) (h : AHeap) : Nat → Nat → AVal → AVal → Res Bool
  | 0, _, _, _ => .err 63
  | d + 1, t, x, y => (undR c.P t).bind fun u =>
    match u with
    | .struct fs => match x, y with
      | .agg xs, .agg ys => if c.eqOk t then eqFields c.P (eqIn c h d) fs.toList xs ys else .err 64
      | _, _ => .err 64
    | u => eqFlat c.P h u x y

def isConstOp : Operand → Bool
  | .const _ => true
  | _ => false

/-- may two nil values of an interface be held against one another here? -/
def guardOk (c : Cfg) (xt : Nat) (x y : Operand) : AVal → AVal → Bool
  | .dead, _ => false
  | _, .dead => false
  | .nili, .nili => isConstOp x || isConstOp y
  | .agg _, .agg _ => c.eqOk xt
  | _, _ => true

def eqGuardA (c : Cfg) (op : BinOp) (xt : Nat) (x y : Operand) (a b : AVal) : Bool :=
  match op with
  | .eql | .neq => guardOk c xt x y a b
  | _ => true

def binR (c : Cfg) (h : AHeap) (op : BinOp) (xt : Nat) (x y : AVal) : Res AVal :=
  match op, x, y with
  | .shl, .int k a, .int _ b | .shr, .int k a, .int _ b => shiftBin op k a b
  | _, .int k a, .int k' b => if k = k' then intBin op k a b else .err 66
  | _, .float k a, .float k' b => if k = k' then floatBin op k a b else .err 67
  | _, .cplx k a b, .cplx k' a' b' => if k = k' then cplxBin op k a b a' b' else .err 68
  | _, .str a, .str b => strBin op a b
  | .eql, x, y => (eqIn c h 10000 xt x y).bind fun b => .ok (.bool b)
  | .neq, x, y => (eqIn c h 10000 xt x y).bind fun b => .ok (.bool (!b))
  | _, _, _ => .err 69

def unR (op : UnOp) (x : AVal) : Res AVal :=
  match op, x with
  | .neg, .int k n => .ok (.int k (k.wrap (0 - n)))
  | .xor, .int k n => .ok (.int k (k.wrap (BitVec.ofInt k.bits (if k.signed then -1 else k.max) ^^^ BitVec.ofInt k.bits n).toNat))
  | .neg, .float k b => .ok (.float k (Op.negFloat k b))
  | .neg, .cplx k a b => .ok (.cplx k (Op.negFloat k a) (Op.negFloat k b))
  | .not, .bool b => .ok (.bool (!b))
  | _, _ => .err 70

def byteOfA : AVal → Res UInt8
  | .int .u8 n => .ok (UInt8.ofNat n.toNat)
  | _ => .err 71

def bytesOfA : List AVal → Res (List UInt8)
  | [] => .ok []
  | v :: l => (byteOfA v).bind fun b => (bytesOfA l).bind fun r => .ok (b :: r)

/-- conversions that touch no memory -/
def convR (c : Cfg) (h : AHeap) (src dst : Nat) (x : AVal) : Res AVal :=
  (undR c.P src).bind fun s => (undR c.P dst).bind fun d =>
  match s, d, x with
  | _, .int k, .int _ n => .ok (.int k (k.wrap n))
  | _, .float k, .int _ n => .ok (.float k (k.nearest n))
  | _, .int k, .float s b => match (s.decode b).toInt .zero with
    | some n => if k.min ≤ n ∧ n ≤ k.max then .ok (.int k n) else .err 72
    | none => .err 72
  | _, .string, .str s => .ok (.str s)
  | .slice e, .string, .nils => (undR c.P e).bind fun
    | .int .u8 => .ok (.str [])
    | _ => .err 73
  | .slice e, .string, x => (undR c.P e).bind fun
    | .int .u8 => (lenSl x).bind fun n => (readSl c h 1 n x).bind fun cs => (bytesOfA cs).bind fun l => .ok (.str l)
    | _ => .err 74
  | _, _, _ => .err 75

/-! ### slices and places -/
def boundR (x : AVal) (y : Nat) : Res Nat :=
  match x with
  | .int _ i => if 0 ≤ i ∧ i ≤ y then .ok i.toNat else .err 80
  | _ => .err 81

def optR (env : Operand → Res AVal) : Option Operand → Res (Option AVal)
  | none => .ok none
  | some x => (env x).bind fun v => .ok (some v)

/-- the low and the high bound, where the high one may be at most 'top' and is 'len' if none is said -/
def bounds2 (len top : Nat) (lo hi : Option AVal) : Res (Nat × Nat) :=
  (match hi with | some v => boundR v top | none => .ok len).bind fun h =>
  (match lo with | some v => boundR v h | none => .ok 0).bind fun l => .ok (l, h)

def bounds3 (top : Nat) (lo : Option AVal) (hi mx : AVal) : Res (Nat × Nat × Nat) :=
  (boundR mx top).bind fun m => (boundR hi m).bind fun h =>
  (match lo with | some v => boundR v h | none => .ok 0).bind fun l => .ok (l, h, m)

/-- a slice whose capacity is known: where nothing is left the place stays -/
def slcOf (o off size l h m : Nat) : AVal := if m = l then .slc o off (h - l) 0 else .slc o (off + l * size) (h - l) (m - l)

/-- how many elements from an offset on are surely there -/
def roomOf (h : AHeap) (o off size : Nat) : Res Nat :=
  match h.get o with
  | some (.row e _ vs) => if e = size ∧ size ≠ 0 then .ok ((vs.length - off) / size) else .err 78
  | _ => .err 79

def sliceSl (h : AHeap) (size : Nat) (x : AVal) (lo hi mx : Option AVal) : Res AVal :=
  match x, mx with
  | .nils, none => (bounds2 0 0 lo hi).bind fun _ => .ok .nils
  | .sl o off len, none => (roomOf h o off size).bind fun n => (bounds2 len (max len n) lo hi).bind fun b => .ok (.sl o (off + b.1 * size) (b.2 - b.1))
  | .rsl r off len, none => (bounds2 len len lo hi).bind fun b => .ok (.rsl r (off + b.1 * size) (b.2 - b.1))
  | .slc o off len cap, none => (bounds2 len cap lo hi).bind fun b => .ok (slcOf o off size b.1 b.2 cap)
  | .sl o off len, some m => match hi with
    | some hv => (bounds3 len lo hv m).bind fun b => .ok (slcOf o off size b.1 b.2.1 b.2.2)
    | none => .err 83
  | .nils, some m => match hi with
    | some hv => (bounds3 0 lo hv m).bind fun _ => .ok .nils
    | none => .err 83
  | _, _ => .err 84

def sliceR (c : Cfg) (h : AHeap) (t : Nat) (x : AVal) (lo hi mx : Option AVal) : Res AVal :=
  (undR c.P t).bind fun d => match d with
  | .string => match x, mx with
    | .str s, none => (bounds2 s.length s.length lo hi).bind fun b => .ok (.str ((s.take b.2).drop b.1))
    | _, _ => .err 82
  | .slice e => (sizeR c.P e).bind fun size => sliceSl h size x lo hi mx
  | .array n e => (sizeR c.P e).bind fun size => match x, mx with
    | .ptr o off, none => (bounds2 n n lo hi).bind fun b => .ok (slcOf o off size b.1 b.2 n)
    | _, _ => .err 86
  | _ => .err 87

def fieldOf (P : Program) (t f : Nat) : Res Field := (undR P t).bind fun
  | .struct fs => ofOpt 88 fs.toList[f]?
  | _ => .err 89

def addOff : AVal → Nat → Res AVal
  | .ptr o off, n => .ok (.ptr o (off + n))
  | .rptr r off, n => .ok (.rptr r (off + n))
  | _, _ => .err 90

def fieldAddrR (P : Program) (t : Nat) (x : AVal) (f : Nat) : Res AVal :=
  (fieldOf P t f).bind fun fd => (sizeR P fd.type).bind fun n => if n = 0 then .err 91 else addOff x fd.offset

def fieldR (P : Program) (t : Nat) (x : AVal) (f : Nat) : Res AVal :=
  match x with
  | .agg vs => (fieldOf P t f).bind fun fd => partR P fd.type vs fd.offset
  | _ => .err 92

def idxNat (i : AVal) (len : Nat) : Res Nat :=
  match i with
  | .int _ n => if 0 ≤ n ∧ n < len then .ok n.toNat else .err 93
  | _ => .err 94

def indexAddrR (P : Program) (t : Nat) (x i : AVal) : Res AVal :=
  (undR P t).bind fun
  | .slice e => (sizeR P e).bind fun size => match x with
    | .sl o off len | .slc o off len _ => (idxNat i len).bind fun n => .ok (.ptr o (off + n * size))
    | .rsl r off len => (idxNat i len).bind fun n => .ok (.rptr r (off + n * size))
    | _ => .err 95
  | .array len e => (sizeR P e).bind fun size => (idxNat i len).bind fun n => addOff x (n * size)
  | _ => .err 96

def indexR (P : Program) (t : Nat) (x i : AVal) : Res AVal :=
  (undR P t).bind fun
  | .string => match x with
    | .str s => (idxNat i s.length).bind fun n => (ofOpt 97 s[n]?).bind fun b => .ok (.int .u8 b.toNat)
    | _ => .err 98
  | .array len e => match x with
    | .agg vs => (idxNat i len).bind fun n => (sizeR P e).bind fun size => partR P e vs (n * size)
    | _ => .err 99
  | _ => .err 100

def nilCheckR : AVal → Res AVal
  | .ptr o f => .ok (.ptr o f)
  | .rptr o f => .ok (.rptr o f)
  | _ => .err 101

def extractR (x : AVal) (i : Nat) : Res AVal :=
  match x with
  | .tuple vs => nthR vs i
  | _ => .err 102

/-! ### making -/
def fillR (place : Nat → Option (Nat × Nat)) : List AVal → List (Nat × AVal) → Res (List AVal)
  | cells, [] => .ok cells
  | cells, (i, v) :: rest => (ofOpt 103 (place i)).bind fun p => (cellsV v).bind fun cs =>
      if cs.length = p.2 then (overR cells p.1 cs).bind fun cells' => fillR place cells' rest else .err 104

def placesOf (P : Program) : List Field → Res (List (Nat × Nat))
  | [] => .ok []
  | f :: fs => (sizeR P f.type).bind fun n => (placesOf P fs).bind fun r => .ok ((f.offset, n) :: r)

def buildR (P : Program) (t : Nat) (parts : List (Nat × AVal)) : Res AVal :=
  (zeroV P t).bind fun z => (cellsV z).bind fun zs => (undR P t).bind fun
    | .struct fs => (placesOf P fs.toList).bind fun pl => (fillR (fun i => pl[i]?) zs parts).bind fun cs => .ok (.agg cs)
    | .array _ e => (sizeR P e).bind fun size => (fillR (fun i => some (i * size, size)) zs parts).bind fun cs => .ok (.agg cs)
    | _ => .err 105

def newRow (h : AHeap) (esz : Nat) (fz : Bool) (vs : List AVal) : AVal × AHeap := (.ptr h.next 0, h.push (.row esz fz vs))

def boxR (h : AHeap) (v : AVal) : Res (AVal × AHeap) :=
  (cellsV v).bind fun cs => .ok (.ptr h.next 0, h.push (.row 0 false cs))

def zeroCellsR (P : Program) (t : Nat) : Res (List AVal) := (zeroV P t).bind fun z => cellsV z

def buildSliceR (P : Program) (h : AHeap) (t len : Nat) (parts : List (Nat × AVal)) : Res (AVal × AHeap) :=
  (elemSl P t).bind fun e => (sizeR P e).bind fun size =>
    if len * size > 2 ^ 24 then .err 106 else if size = 0 then .err 107 else
    (zeroCellsR P e).bind fun z => if z.length = size then
      (fillR (fun i => some (i * size, size)) (reps len z) parts).bind fun cs =>
        .ok (.sl h.next 0 len, h.push (.row size false cs)) else .err 108

def makeSliceR (P : Program) (h : AHeap) (t : Nat) (l m : AVal) : Res (AVal × AHeap) :=
  match l, m with
  | .int _ l, .int _ m =>
    (elemSl P t).bind fun e => (infoR P e).bind fun i =>
      if IntKind.i64.wrap l = l ∧ IntKind.i64.wrap m = m ∧ 0 ≤ l ∧ l ≤ m ∧ (i.bytes : Int) * m ≤ 2 ^ 48 ∧ i.size ≠ 0 then
        (zeroCellsR P e).bind fun z => if z.length = i.size then
          .ok (.sl h.next 0 l.toNat, h.push (.row i.size false (reps m.toNat z))) else .err 109
      else .err 110
  | _, _ => .err 111

mutual
def AVal.beq : AVal → AVal → Bool
  | .dead, .dead => true
  | .cell a, .cell b => AVal.beqs a b
  | .loc a v, .loc b w => a == b && v == w
  | .bool a, .bool b => a == b
  | .int k a, .int k' b => decide (k = k') && a == b
  | .float k a, .float k' b => decide (k = k') && a == b
  | .cplx k a b, .cplx k' a' b' => decide (k = k') && a == a' && b == b'
  | .str a, .str b => a == b
  | .nilp, .nilp => true
  | .ptr a b, .ptr a' b' => a == a' && b == b'
  | .rptr a b, .rptr a' b' => a == a' && b == b'
  | .nils, .nils => true
  | .sl a b n, .sl a' b' n' => a == a' && b == b' && n == n'
  | .slc a b n m, .slc a' b' n' m' => a == a' && b == b' && n == n' && m == m'
  | .rsl a b n, .rsl a' b' n' => a == a' && b == b' && n == n'
  | .nilm, .nilm => true
  | .map a, .map b => a == b
  | .func f a b, .func g a' b' => f == g && AVal.beqs a a' && AVal.beqs b b'
  | .nilf, .nilf => true
  | .iface t v, .iface u w => t == u && AVal.beq v w
  | .nili, .nili => true
  | .agg a, .agg b => AVal.beqs a b
  | .tuple a, .tuple b => AVal.beqs a b
  | _, _ => false
def AVal.beqs : List AVal → List AVal → Bool
  | [], [] => true
  | a :: l, b :: m => AVal.beq a b && AVal.beqs l m
  | _, _ => false
end

/-! ### maps -/
def keySimple (P : Program) : Nat → Bool := fun t =>
  match P.underlying t with
  | some (.int _) | some .string | some .bool => true
  | some (.struct fs) => fs.toList.all fun f => match P.underlying f.type with
    | some (.int _) | some .string | some .bool => f.name != "_"
    | _ => false
  | _ => false

def keyFits (P : Program) (t : Nat) (k : AVal) : Bool :=
  match P.underlying t with
  | some (.struct fs) => match k with
    | .agg vs => fs.toList.all fun f => decide (f.offset < vs.length)
    | _ => false
  | _ => true

def findR (c : Cfg) (h : AHeap) (kt : Nat) (k : AVal) : List (AVal × AVal) → Nat → Res (Option (Nat × AVal))
  | [], _ => .ok none
  | e :: es, i => (eqIn c h 10000 kt k e.1).bind fun
    | true => .ok (some (i, e.2))
    | false => findR c h kt k es (i + 1)

def mapTypes (P : Program) (t : Nat) : Res (Nat × Nat) := (undR P t).bind fun
  | .map k e => if keySimple P k then .ok (k, e) else .err 120
  | _ => .err 121

def entriesR (h : AHeap) : AVal → Res (List (AVal × AVal))
  | .nilm => .ok []
  | .map o => match h.get o with
    | some (.map es) => .ok es
    | _ => .err 122
  | _ => .err 123

def lookupR (c : Cfg) (h : AHeap) (t : Nat) (x k : AVal) (ok : Bool) : Res AVal :=
  (mapTypes c.P t).bind fun kt => (entriesR h x).bind fun es => if !keyFits c.P kt.1 k then .err 126 else (findR c h kt.1 k es 0).bind fun
    | some (_, v) => .ok (if ok then .tuple [v, .bool true] else v)
    | none => (zeroV c.P kt.2).bind fun z => .ok (if ok then .tuple [z, .bool false] else z)

def setVal : List (AVal × AVal) → Nat → AVal → List (AVal × AVal)
  | [], _, _ => []
  | e :: es, 0, v => (e.1, v) :: es
  | e :: es, n + 1, v => e :: setVal es n v

def mapUpdateR (c : Cfg) (h : AHeap) (t : Nat) (x k v : AVal) : Res AHeap :=
  match x with
  | .map o => match h.get o with
    | some (.map es) => (mapTypes c.P t).bind fun kt => if !keyFits c.P kt.1 k then .err 127 else (findR c h kt.1 k es 0).bind fun
      | some (i, _) => match es[i]? with
        | some x => if AVal.beq x.1 k then .ok (h.set o (.map (setVal es i v))) else .err 119
        | none => .err 118
      | none => .ok (h.set o (.map (es ++ [(k, v)])))
    | _ => .err 124
  | _ => .err 125

/-! ### builtins -/
def notMake (P : Program) : Option Nat → Res Unit
  | some u => (undR P u).bind fun d => match d with
    | .int _ => .err 130
    | _ => .ok ()
  | none => .ok ()

def appendR (c : Cfg) (h : AHeap) (st : Nat) (xt : Option Nat) (s x : AVal) : Res (AVal × AHeap) :=
  (elemSl c.P st).bind fun e => (infoR c.P e).bind fun i =>
  (notMake c.P xt).bind fun _ =>
  (lenA x).bind fun n => (readSl c h i.size n x).bind fun new =>
  (zeroCellsR c.P e).bind fun z =>
  if i.size = 0 ∨ i.bytes = 0 ∨ z.length ≠ i.size then .err 131 else
  match s with
  | .nils => if n = 0 then .ok (.nils, h) else if n * i.bytes > 2 ^ 47 then .err 132 else .ok (.sl h.next 0 n, h.push (.row i.size false new))
  | .sl o off len => match h.get o with
    | some (.row esz fz vs) =>
      if esz = i.size then
        if off + (len + n) * i.size ≤ vs.length then (overR vs (off + len * i.size) new).bind fun vs' => .ok (.sl o off (len + n), h.set o (.row esz fz vs'))
        else if (len + n) * i.bytes > 2 ^ 47 then .err 133 else
        (takeR vs off (len * i.size)).bind fun old => .ok (.sl h.next 0 (len + n), (h.del o).push (.row i.size true (old ++ new)))
      else .err 134
    | _ => .err 135
  | .slc o off len cap => match h.get o with
    | some (.row esz fz vs) =>
      if len + n ≤ cap then (overR vs (off + len * i.size) new).bind fun vs' => .ok (.slc o off (len + n) cap, h.set o (.row esz fz vs'))
      else if (len + n) * i.bytes > 2 ^ 47 then .err 136 else
      (takeR vs off (len * i.size)).bind fun old => .ok (.sl h.next 0 (len + n), h.push (.row i.size false (old ++ new)))
    | _ => .err 137
  | .rsl r off len => if n = 0 then .ok (.rsl r off len, h) else .err 138
  | _ => .err 139

def copyR (c : Cfg) (h : AHeap) (dt : Nat) (d s : AVal) : Res (AVal × AHeap) :=
  (elemSl c.P dt).bind fun e => (sizeR c.P e).bind fun size => (lenA d).bind fun dn => (lenA s).bind fun sn =>
  (readSl c h size (min sn dn) s).bind fun cs =>
  match d with
  | .nils => .ok (.int .i64 ((min sn dn : Nat) : Int), h)
  | .sl o off _ | .slc o off _ _ => match h.get o with
    | some (.row esz fz vs) => (overR vs off cs).bind fun vs' => .ok (.int .i64 ((min sn dn : Nat) : Int), h.set o (.row esz fz vs'))
    | _ => .err 140
  | _ => .err 141

def clearR (c : Cfg) (h : AHeap) (t : Nat) (x : AVal) : Res (AVal × AHeap) :=
  (undR c.P t).bind fun
  | .slice e => match x with
    | .nils => .ok (.tuple [], h)
    | .sl o off n | .slc o off n _ => if n = 0 then .ok (.tuple [], h) else match h.get o with
      | some (.row esz fz vs) => (zeroCellsR c.P e).bind fun z => (sizeR c.P e).bind fun size => if z.length = size then
          (overR vs off (reps n z)).bind fun vs' => .ok (.tuple [], h.set o (.row esz fz vs')) else .err 142
      | _ => .err 143
    | _ => .err 144
  | _ => .err 145

def deleteR (c : Cfg) (h : AHeap) (t : Nat) (x k : AVal) : Res (AVal × AHeap) :=
  match x with
  | .map o => match h.get o with
    | some (.map es) => (mapTypes c.P t).bind fun kt => if !keyFits c.P kt.1 k then .err 128 else (findR c h kt.1 k es 0).bind fun
      | some (i, _) => .ok (.tuple [], h.set o (.map (es.eraseIdx i)))
      | none => .ok (.tuple [], h)
    | _ => .err 146
  | .nilm => (mapTypes c.P t).bind fun kt => if !keyFits c.P kt.1 k then .err 129 else .ok (.tuple [], h)
  | _ => .err 147

def lenR (c : Cfg) (h : AHeap) (t : Nat) (x : AVal) : Res AVal :=
  (undR c.P t).bind fun
  | .string => match x with
    | .str s => .ok (.int .i64 s.length)
    | _ => .err 148
  | .slice _ => match x with
    | .str _ => .err 149
    | x => (lenA x).bind fun n => .ok (.int .i64 n)
  | .map _ _ => (entriesR h x).bind fun es => .ok (.int .i64 es.length)
  | .array n _ => .ok (.int .i64 n)
  | .pointer a => (undR c.P a).bind fun
    | .array n _ => .ok (.int .i64 n)
    | _ => .err 150
  | _ => .err 151

def max2R : AVal → AVal → Res AVal
  | .int k x, .int _ y => .ok (.int k (if y > x then y else x))
  | _, _ => .err 152
def min2R : AVal → AVal → Res AVal
  | .int k x, .int _ y => .ok (.int k (if y < x then y else x))
  | _, _ => .err 153
def foldR (f : AVal → AVal → Res AVal) : AVal → List AVal → Res AVal
  | x, [] => .ok x
  | x, y :: l => (f x y).bind fun z => foldR f z l

def builtinR (c : Cfg) (h : AHeap) (b : Builtin) (ts : Array Nat) (args : List AVal) : Res (AVal × AHeap) :=
  match b, ts[0]?, args with
  | .len, some t, [x] => (lenR c h t x).bind fun v => .ok (v, h)
  | .append, some t, [s, x] => appendR c h t ts[1]? s x
  | .copy, some t, [d, s] => copyR c h t d s
  | .clear, some t, [x] => clearR c h t x
  | .delete, some t, [m, k] => deleteR c h t m k
  | .max, _, x :: l => (foldR max2R x l).bind fun v => .ok (v, h)
  | .min, _, x :: l => (foldR min2R x l).bind fun v => .ok (v, h)
  | .cap, some t, [x] => (elemSl c.P t).bind fun _ => match x with
    | .slc _ _ _ n => .ok (.int .i64 n, h)
    | .nils => .ok (.int .i64 0, h)
    | _ => .err 162
  | .complex, _, [.float k a, .float k' b] => if k = k' then .ok (.cplx k a b, h) else .err 160
  | .real, _, [.cplx k a _] => .ok (.float k a, h)
  | .imag, _, [.cplx k _ b] => .ok (.float k b, h)
  | _, _, _ => .err 161

/-! ### one operation -/
/-- what a call is answered: the function, the arguments, the heap -/
abbrev CallR := Nat → List AVal → AHeap → Res (AVal × AHeap)

/-- where steps lead: to an answer, or to a statement -/
structure Ans (γ : Type) where
  bnd : {α : Type} → Res α → (α → γ) → γ
  call : Bool → Nat → List AVal → AHeap → (AVal → AHeap → γ) → γ
  chk : Res AVal → AVal → γ → γ

def methodR (P : Program) (t : Nat) (name : String) : Res Nat :=
  (infoR P t).bind fun i => (ofOpt 170 (i.methods.find? (·.name == name))).bind fun m =>
    if m.path.isEmpty then match m.func with
      | some (f, ptr) => (undR P t).bind fun
        | .pointer _ => if ptr then .ok f else .err 171
        | _ => if ptr then .err 172 else .ok f
      | none => .err 173
    else .err 174

/-- the operands: some slots may not be read as values -/
def opnd (bad : List Nat) (env : List AVal) : Operand → Res AVal
  | .tmp t => if bad.contains t then .err 175 else .ok (nth env t)
  | .const v => ofOpt 176 (toA v)
  | .global g => if g < 1000000 then .ok (.rptr g 0) else .err 174
  | .func f => .ok (.func f [] [])

def opnds (bad : List Nat) (env : List AVal) : List Operand → Res (List AVal)
  | [] => .ok []
  | x :: l => (opnd bad env x).bind fun v => (opnds bad env l).bind fun r => .ok (v :: r)

def opndParts (bad : List Nat) (env : List AVal) : List (Nat × Operand) → Res (List (Nat × AVal))
  | [] => .ok []
  | x :: l => (opnd bad env x.2).bind fun v => (opndParts bad env l).bind fun r => .ok ((x.1, v) :: r)

def pureV (h : AHeap) (r : Res AVal) : Res (AVal × AHeap) := r.bind fun v => .ok (v, h)

/-- an operation that is no call of a Go function: its value, and what it does to the heap -/
def opR (c : Cfg) (bad : List Nat) (env : List AVal) (h : AHeap) (o : Oper) : Res (AVal × AHeap) :=
  match o.op with
  | .move x | .assign x => pureV h (opnd bad env x)
  | .pick x a b => (opnd bad env x).bind fun v => match v with
    | .bool true => pureV h (opnd bad env a)
    | .bool false => pureV h (opnd bad env b)
    | _ => .err 180
  | .alloc t => (zeroV c.P t).bind fun z => boxR h z
  | .box _ x => (opnd bad env x).bind fun v => boxR h v
  | .build t ps => (opndParts bad env ps.toList).bind fun l => pureV h (buildR c.P t l)
  | .buildSlice t n ps => (opndParts bad env ps.toList).bind fun l => buildSliceR c.P h t n l
  | .load t a => (opnd bad env a).bind fun p => pureV h (loadR c h t p)
  | .store t a x => (opnd bad env a).bind fun p => (opnd bad env x).bind fun v => (storeR c h t p v).bind fun h' => .ok (.tuple [], h')
  | .nilCheck x => (opnd bad env x).bind fun v => pureV h (nilCheckR v)
  | .binOp op xt x y _ => (opnd bad env x).bind fun a => (opnd bad env y).bind fun b =>
      if eqGuardA c op xt x y a b then pureV h (binR c h op xt a b) else .err 181
  | .unOp op _ x => (opnd bad env x).bind fun v => pureV h (unR op v)
  | .convert s d x => (opnd bad env x).bind fun v => (undR c.P s).bind fun _ => (undR c.P d).bind fun u => match u, v with
      | .slice el, .str b => (undR c.P el).bind fun w => match w with
        | .int .u8 => .ok (.sl h.next 0 b.length, h.push (.row 1 true (b.map fun x => .int .u8 x.toNat)))
        | _ => .err 182
      | .slice el, .sl o off n => (undR c.P el).bind fun w => match w with
        | .int .u8 => match h.get o with
          | some (.row e _ vs) => if s = d then .ok (.sl o off n, h.set o (.row e true vs)) else .err 184
          | _ => .err 185
        | _ => .err 183
      | _, v => pureV h (convR c h s d v)
  | .makeInterface t x => (opnd bad env x).bind fun v => (undR c.P t).bind fun d => match d with
      | .interface _ => .err 183
      | _ => .ok (.iface t v, h)
  | .makeFunc fn first cap => match fn with
      | .func f => (opnds bad env first.toList).bind fun a => (opnds bad env cap.toList).bind fun b => .ok (.func f a b, h)
      | _ => .err 184
  | .makeMap _ r => match r with
      | none => .ok (.map h.next, h.push (.map []))
      | some _ => .err 185
  | .makeSlice t l m => (opnd bad env l).bind fun a => (opnd bad env m).bind fun b => makeSliceR c.P h t a b
  | .slice t x lo hi mx => (opnd bad env x).bind fun v => (optR (opnd bad env) lo).bind fun a => (optR (opnd bad env) hi).bind fun b => (optR (opnd bad env) mx).bind fun m => pureV h (sliceR c h t v a b m)
  | .fieldAddr t x f => (opnd bad env x).bind fun v => pureV h (fieldAddrR c.P t v f)
  | .field t x f => (opnd bad env x).bind fun v => pureV h (fieldR c.P t v f)
  | .indexAddr t x i => (opnd bad env x).bind fun v => (opnd bad env i).bind fun n => pureV h (indexAddrR c.P t v n)
  | .index t x i => (opnd bad env x).bind fun v => (opnd bad env i).bind fun n => pureV h (indexR c.P t v n)
  | .lookup t x k ok => (opnd bad env x).bind fun m => (opnd bad env k).bind fun v => pureV h (lookupR c h t m v ok)
  | .mapUpdate t m k x => (opnd bad env m).bind fun a => (opnd bad env k).bind fun b => (opnd bad env x).bind fun v => (mapUpdateR c h t a b v).bind fun h' => .ok (.tuple [], h')
  | .extract x i => (opnd bad env x).bind fun v => pureV h (extractR v i)
  | .call x => match x.callee with
    | .builtin b => (opnds bad env x.args.toList).bind fun args => builtinR c h b x.argTypes args
    | _ => .err 187
  | _ => .err 186

/-- what is called: the function and the arguments -/
def calleeR (c : Cfg) (bad : List Nat) (env : List AVal) (x : Call) : Res (Nat × List AVal) :=
  (opnds bad env x.args.toList).bind fun args =>
  match x.callee with
  | .value f => (opnd bad env f).bind fun v => match v with
    | .func f first captured => .ok (f, first ++ args ++ captured)
    | _ => .err 177
  | .invoke r name => (opnd bad env r).bind fun v => match v with
    | .iface t v => (methodR c.P t name).bind fun f => .ok (f, v :: args)
    | _ => .err 178
  | .builtin _ => .err 179

/-- is it a call of a Go function? -/
def callOf (o : Oper) : Option Call :=
  match o.op with
  | .call x => match x.callee with
    | .builtin _ => none
    | _ => some x
  | _ => none

/-! ### cells of the frame -/
def lookN : List (Nat × Nat) → Nat → Option Nat
  | [], _ => none
  | (a, b) :: l, t => if a = t then some b else lookN l t

/-- the slot of the cell that an operand points into -/
def slotOf (loc : List Nat) (al : List (Nat × Nat)) : Operand → Option (Nat × Nat)
  | .tmp t => if loc.contains t then some (t, t) else match lookN al t with
    | some s => some (t, s)
    | none => none
  | _ => none

/-- slots that point into cells of the frame, with the slot of the cell, of a region's operations in their order -/
def aliasPairs (loc : List Nat) : List Oper → List (Nat × Nat) → List (Nat × Nat)
  | [], acc => acc
  | o :: l, acc => match (match o.op with | .move x | .nilCheck x | .fieldAddr _ x _ | .indexAddr _ x _ => slotOf loc acc x | _ => none), o.dst with
    | some ts, some d => aliasPairs loc l ((d, ts.2) :: acc)
    | _, _ => aliasPairs loc l acc

/-- the state inside a region; 'base': the heap behind the last thing that acted -/
structure RS where
  env : List AVal
  h : AHeap
  base : AHeap
  hist : List (Nat × AHeap)
  reads : List (Nat × (AHeap → Res AVal) × AVal)

def putD (env : List AVal) (o : Oper) (v : AVal) : List AVal :=
  match o.dst with
  | some d => setN env d v
  | none => env

/-- what kind of step an operation is, as cells of the frame go -/
inductive How where
  | plain
  | alias_ (t s : Nat)
  | make (s : Nat)
  | load_ (t s : Nat)
  | store_ (t s : Nat)

def how (loc : List Nat) (al : List (Nat × Nat)) (o : Oper) : How :=
  match o.op with
  | .alloc _ | .box _ _ => match o.dst with
    | some d => if loc.contains d then .make d else .plain
    | none => .plain
  | .move x | .nilCheck x | .fieldAddr _ x _ | .indexAddr _ x _ => match slotOf loc al x with
    | some p => .alias_ p.1 p.2
    | none => .plain
  | .load _ x => match slotOf loc al x with
    | some p => .load_ p.1 p.2
    | none => .plain
  | .store _ x _ => match slotOf loc al x with
    | some p => .store_ p.1 p.2
    | none => .plain
  | _ => .plain

/-- where a slot points into its cell: the offset, and whether that was worked out -/
def baseOff (env : List AVal) (t s : Nat) : Res (Nat × Bool) :=
  match decide (t = s) with
  | true => match nth env s with
    | .cell _ => .ok (0, true)
    | _ => .err 192
  | false => match nth env t with
    | .loc off valid => .ok (off, valid)
    | _ => .err 193

def cellAt (env : List AVal) (t s : Nat) : Res (List AVal × Nat) :=
  match nth env s with
  | .cell vs => (baseOff env t s).bind fun b => match b.2 with
    | true => .ok (vs, b.1)
    | false => .err 192
  | _ => .err 194

/-- how far an operation points on -/
def stepOff (P : Program) (bad : List Nat) (env : List AVal) (o : Oper) : Res Nat :=
  match o.op with
  | .move _ | .nilCheck _ => .ok 0
  | .fieldAddr t _ f => (fieldOf P t f).bind fun fd => (sizeR P fd.type).bind fun n => if n = 0 then .err 191 else .ok fd.offset
  | .indexAddr t _ i => (undR P t).bind fun d => match d with
    | .array len e => (sizeR P e).bind fun size => (opnd bad env i).bind fun iv => (idxNat iv len).bind fun n => .ok (n * size)
    | _ => .err 190
  | _ => .err 189

def aliasR (P : Program) (bad : List Nat) (env : List AVal) (t s : Nat) (o : Oper) : Res (Nat × Bool) :=
  (baseOff env t s).bind fun b => match b.2 with
    | true => (stepOff P bad env o).bind fun n => .ok (b.1 + n, true)
    | false => .err 197

/-- what a cell of the frame is made with -/
def makeCells (P : Program) (bad : List Nat) (env : List AVal) (o : Oper) : Res (List AVal) :=
  match o.op with
  | .alloc t => zeroCellsR P t
  | .box _ x => (opnd bad env x).bind fun v => cellsV v
  | _ => .err 188

def loadCell (P : Program) (env : List AVal) (t s : Nat) (o : Oper) : Res AVal :=
  match o.op with
  | .load ty _ => (cellAt env t s).bind fun vo => partR P ty vo.1 vo.2
  | _ => .err 198

def storeCell (P : Program) (bad : List Nat) (env : List AVal) (t s : Nat) (o : Oper) : Res (List AVal) :=
  match o.op with
  | .store ty _ x => (cellAt env t s).bind fun vo => (opnd bad env x).bind fun v => (sizeR P ty).bind fun n => (cellsV v).bind fun cs =>
      if cs.length = n then overR vo.1 vo.2 cs else .err 200
  | _ => .err 199

/-- is the operation carried out? -/
def wantedR (ops : Array Oper) (env : List AVal) (o : Oper) : Res Bool :=
  match o.guard with
  | none => .ok true
  | some (j, want) => match (ops[j]?).bind (·.dst) with
    | some d => match nth env d with
      | .bool b => .ok (b == want)
      | .tuple [] => .ok false
      | _ => .err 195
    | none => .err 196

/-- what may be passed over -/
def ifG {α : Type} (ops : Array Oper) (env : List AVal) (o : Oper) (other : α) (r : Res α) : Res α :=
  match o.guard with
  | none => r
  | some _ => (wantedR ops env o).bind fun b => match b with
    | true => r
    | false => .ok other

/-- is an operation's slot one that it may write? -/
def opOk (loc : List Nat) (al : List (Nat × Nat)) (o : Oper) : Bool :=
  match how loc al o with
  | .make d => loc.contains d
  | .alias_ _ s => match o.dst with
    | some d => !loc.contains d && (lookN al d == some s)
    | none => false
  | _ => match o.dst with
    | some d => !loc.contains d
    | none => true

/-- the slots that point into a cell -/
def aliasTo (al : List (Nat × Nat)) (s : Nat) : List Nat := (al.filter fun p => p.2 == s).map (·.1)

/-- one step of a region, with what follows it -/
def stepK {γ : Type} (A : Ans γ) (c : Cfg) (loc : List Nat) (al : List (Nat × Nat)) (bad : List Nat) (ops : Array Oper) (o : Oper) (s : RS) (K : RS → γ) : γ :=
  match callOf o with
  | some x => match o.guard with
    | none => A.bnd (calleeR c bad s.env x) fun fa => A.call true fa.1 fa.2 s.h fun v h => K { s with env := putD s.env o v, h := h }
    | some _ => A.bnd (wantedR ops s.env o) fun b => A.bnd (match b with | true => calleeR c bad s.env x | false => .ok (0, [])) fun fa =>
        A.call b fa.1 fa.2 s.h fun v h => K { s with env := putD s.env o v, h := h }
  | none => match how loc al o with
    | .plain => A.bnd (ifG ops s.env o (.tuple [], s.h) (opR c bad s.env s.h o)) fun r => K { s with env := putD s.env o r.1, h := r.2 }
    | .alias_ t sl => A.bnd (ifG ops s.env o (0, false) (aliasR c.P bad s.env t sl o)) fun n => K { s with env := putD s.env o (.loc n.1 n.2) }
    | .make d => match o.guard with
      | none => A.bnd (makeCells c.P bad s.env o) fun vs => K { s with env := setN (clearAll (aliasTo al d) s.env) d (.cell vs) }
      | some _ => A.bnd (.err 197 : Res Unit) (fun _ => K s)
    | .load_ t sl => A.bnd (ifG ops s.env o (.tuple []) (loadCell c.P s.env t sl o)) fun v => K { s with env := putD s.env o v }
    | .store_ t sl => match o.guard, o.dst with
      | none, none => A.bnd (storeCell c.P bad s.env t sl o) fun vs => K { s with env := setN s.env sl (.cell vs) }
      | _, _ => A.bnd (.err 201 : Res Unit) (fun _ => K s)

/-- a region whose order is that of the text -/
def runText {γ : Type} (A : Ans γ) (c : Cfg) (loc : List Nat) (al : List (Nat × Nat)) (bad : List Nat) (ops : Array Oper) : List Oper → RS → (RS → γ) → γ
  | [], s, K => K s
  | o :: l, s, K => stepK A c loc al bad ops o s fun s' => runText A c loc al bad ops l s' K

/-! ### a region whose order is drawn -/
inductive Kind where
  | pure | read | alloc | imp
  deriving DecidableEq

def kindOf (P : Program) (loc : List Nat) (al : List (Nat × Nat)) (o : Oper) : Kind :=
  match how loc al o with
  | .plain => match o.op with
    | .alloc _ | .box _ _ | .buildSlice .. | .makeMap .. | .makeSlice .. => .alloc
    | .convert s d _ => match P.underlying s, P.underlying d with
      | some .string, some (.slice _) => .alloc
      | _, some (.slice _) => .imp
      | some (.slice _), _ => .read
      | some (.int _), _ | some .string, _ | some (.float _), _ => .pure
      | _, _ => .imp
    | .load .. | .lookup .. | .slice .. => .read
    | .binOp op .. => match op with | .eql | .neq => .read | _ => .pure
    | .call x => match x.callee with
      | .builtin b => match b with
        | .len => .read
        | .max | .min | .complex | .real | .imag => .pure
        | _ => .imp
      | _ => .imp
    | .move _ | .assign _ | .pick .. | .build .. | .nilCheck _ | .unOp .. | .makeInterface .. | .makeFunc .. | .fieldAddr .. | .field .. | .indexAddr .. | .index .. | .extract .. => .pure
    | _ => .imp
  | _ => .pure

/-- comes operation i surely ahead of operation j? -/
def befB (bef : Array Nat) (i j : Nat) : Bool := (bef.getD j 0).testBit i

def chkHist {γ : Type} (A : Ans γ) (bef : Array Nat) (i : Nat) (rd : AHeap → Res AVal) (v : AVal) : List (Nat × AHeap) → γ → γ
  | [], K => K
  | (j, h) :: l, K => match befB bef j i with
    | true => chkHist A bef i rd v l K
    | false => A.chk (rd h) v (chkHist A bef i rd v l K)

def chkReads {γ : Type} (A : Ans γ) (bef : Array Nat) (i : Nat) (h : AHeap) : List (Nat × (AHeap → Res AVal) × AVal) → γ → γ
  | [], K => K
  | (j, rd, v) :: l, K => match befB bef j i with
    | true => chkReads A bef i h l K
    | false => A.chk (rd h) v (chkReads A bef i h l K)

/-- what an operation reads, at a heap -/
def readAt (c : Cfg) (bad : List Nat) (ops : Array Oper) (env : List AVal) (o : Oper) (h : AHeap) : Res AVal :=
  ifG ops env o (.tuple []) ((opR c bad env h o).bind fun r => .ok r.1)

def stepD {γ : Type} (A : Ans γ) (c : Cfg) (loc : List Nat) (al : List (Nat × Nat)) (bad : List Nat) (ops : Array Oper) (bef : Array Nat) (i : Nat) (o : Oper) (s : RS) (K : RS → γ) : γ :=
  match kindOf c.P loc al o with
  | .read => A.bnd (readAt c bad ops s.env o s.base) fun v =>
      chkHist A bef i (readAt c bad ops s.env o) v s.hist
        (K { s with env := putD s.env o v, reads := (i, readAt c bad ops s.env o, v) :: s.reads })
  | .imp => stepK A c loc al bad ops o s fun s' => chkReads A bef i s'.h s'.reads (K { s' with hist := (i, s.base) :: s'.hist, base := s'.h })
  | .pure => stepK A c loc al bad ops o s K
  | .alloc => match o.guard with
    | none => stepK A c loc al bad ops o s K
    | some _ => A.bnd (.err 203 : Res Unit) (fun _ => K s)

def runDraw {γ : Type} (A : Ans γ) (c : Cfg) (loc : List Nat) (al : List (Nat × Nat)) (bad : List Nat) (ops : Array Oper) (bef : Array Nat) : Nat → List Oper → RS → (RS → γ) → γ
  | _, [], s, K => K s
  | i, o :: l, s, K => stepD A c loc al bad ops bef i o s fun s' => runDraw A c loc al bad ops bef (i + 1) l s' K

/-! ### what a drawn region must be like -/
/-- the slots that an operation names -/
def namesOf (loc : List Nat) (al : List (Nat × Nat)) (ops : Array Oper) (o : Oper) : List Nat :=
  o.looksAt ops ++ match how loc al o with
    | .load_ _ s | .store_ _ s => [s]
    | _ => []

/-- the slots that an operation writes -/
def writesOf (loc : List Nat) (al : List (Nat × Nat)) (o : Oper) : List Nat :=
  o.dst.toList ++ match how loc al o with
    | .make d => aliasTo al d
    | .store_ _ s => [s]
    | _ => []

def apartB (a b : List Nat) : Bool := a.all fun t => !b.contains t

def regionOk (P : Program) (loc : List Nat) (ops : Array Oper) : Bool :=
  let bef := Region.before ops
  let al := aliasPairs loc ops.toList []
  let l := ops.toList.zipIdx
  (l.all fun x => x.1.after.all fun e => !Region.binds .any e || decide (e.on < x.2)) &&
  l.all fun x => l.all fun y => !decide (x.2 < y.2) || befB bef x.2 y.2 ||
    (apartB (writesOf loc al x.1) (namesOf loc al ops y.1) && apartB (writesOf loc al x.1) (writesOf loc al y.1) && apartB (writesOf loc al y.1) (namesOf loc al ops x.1) &&
     !(decide (kindOf P loc al x.1 = .imp) && decide (kindOf P loc al y.1 = .imp)) && !(decide (kindOf P loc al x.1 = .alloc) && decide (kindOf P loc al y.1 = .imp)))

/-! ### the whole -/
inductive AExit where
  | normal | ret
  | exit (id : Nat)
  | goto (l : Nat)

def clearOf (an : FnAnn) (id : Nat) : List Nat :=
  match an.clear.find? (·.1 == id) with
  | some x => x.2
  | none => []

def rs0 (env : List AVal) (h : AHeap) : RS := ⟨env, h, h, [], []⟩

def regionK {γ : Type} (A : Ans γ) (c : Cfg) (an : FnAnn) (id : Nat) (ops : Array Oper) (draw : Bool) (env : List AVal) (h : AHeap) (K : List AVal → AHeap → γ) : γ :=
  let al := aliasPairs an.locals ops.toList []
  let als := al.map (·.1)
  let fin := fun (s : RS) => K (clearAll (clearOf an id) (clearAll als s.env)) s.h
  match draw with
  | false => runText A c an.locals al (als ++ an.locals) ops ops.toList (rs0 env h) fin
  | true => runDraw A c an.locals al (als ++ an.locals) ops (Region.before ops) 0 ops.toList (rs0 env h) fin

/-- what a region must be like -/
def regOk (P : Program) (loc : List Nat) (ops : Array Oper) (draw : Bool) : Bool :=
  let al := aliasPairs loc ops.toList []
  ((ops.toList.all (opOk loc al)) && al.all fun p => loc.contains p.2) && (!draw || regionOk P loc ops)

/-- what code must be like -/
def codeOk (P : Program) (loc : List Nat) : Code → Bool
  | .seq a b => codeOk P loc a && codeOk P loc b
  | .cond _ a b => codeOk P loc a && codeOk P loc b
  | .block _ a => codeOk P loc a
  | .loop a => codeOk P loc a
  | .scope a => codeOk P loc a
  | .region _ ops draw => regOk P loc ops draw
  | _ => true

def sameRes (r : Res AVal) (v : AVal) : Bool :=
  match r with
  | .ok u => AVal.beq u v
  | .err _ => false

/-- steps that lead to an answer -/
def ansR (C : CallR) (α : Type) : Ans (Res α) where
  bnd := fun m K => m.bind K
  call := fun b f args h K => match b with
    | true => (C f args h).bind fun r => K r.1 r.2
    | false => K (.tuple []) h
  chk := fun r v K => match sameRes r v with
    | true => K
    | false => .err 202

def resultsR (c : Cfg) (loc : List Nat) (env : List AVal) (h : AHeap) : List ResultVar → Res (List AVal)
  | [] => .ok []
  | .tmp t :: l => (opnd loc env (.tmp t)).bind fun v => (resultsR c loc env h l).bind fun r => .ok (v :: r)
  | .cell a t :: l => (match loc.contains a with
      | true => (cellAt env a a).bind fun vo => partR c.P t vo.1 0
      | false => loadR c h t (nth env a)).bind fun v => (resultsR c loc env h l).bind fun r => .ok (v :: r)

def packR : List AVal → AVal
  | [v] => v
  | l => .tuple l

mutual
def exec (c : Cfg) : Nat → Nat → Code → List AVal → AHeap → Res (AExit × List AVal × AHeap)
  | 0, _, _, _, _ => .err 300
  | k + 1, f, code, env, h =>
    match code with
    | .skip | .label _ => .ok (.normal, env, h)
    | .seq a b => (exec c k f a env h).bind fun r => match r.1 with
      | .normal => exec c k f b r.2.1 r.2.2
      | e => .ok (e, r.2.1, r.2.2)
    | .cond x a b => (opnd (c.ann f).locals env x).bind fun v => match v with
      | .bool t => match t with
        | true => exec c k f a env h
        | false => exec c k f b env h
      | _ => .err 301
    | .block id a => (exec c k f a env h).bind fun r => match r.1 with
      | .exit id' => if id' = id then .ok (.normal, r.2.1, r.2.2) else .ok (.exit id', r.2.1, r.2.2)
      | e => .ok (e, r.2.1, r.2.2)
    | .loop a => (exec c k f a env h).bind fun r => match r.1 with
      | .normal => exec c k f (.loop a) r.2.1 r.2.2
      | e => .ok (e, r.2.1, r.2.2)
    | .scope a => scopeE c k f a a env h
    | .region id ops draw => regionK (ansR (callF c k) (AExit × List AVal × AHeap)) c (c.ann f) id ops draw env h fun env h => .ok (.normal, env, h)
    | .exit id => .ok (.exit id, env, h)
    | .goto l => .ok (.goto l, env, h)
    | .ret => .ok (.ret, env, h)
    | _ => .err 302
def scopeE (c : Cfg) : Nat → Nat → Code → Code → List AVal → AHeap → Res (AExit × List AVal × AHeap)
  | 0, _, _, _, _, _ => .err 303
  | k + 1, f, body, cur, env, h => (exec c k f cur env h).bind fun r => match r.1 with
    | .goto l => match findLabel body l with
      | some rest => scopeE c k f body rest r.2.1 r.2.2
      | none => .ok (.goto l, r.2.1, r.2.2)
    | e => .ok (e, r.2.1, r.2.2)
def callF (c : Cfg) : Nat → Nat → List AVal → AHeap → Res (AVal × AHeap)
  | 0, _, _, _ => .err 304
  | k + 1, f, args, h =>
    match c.prim f with
    | some g => g args h
    | none => match (c.ann f).ok, c.P.funcs[f]? with
      | true, some fn => match fn.body with
        | some code => (exec c k f code (args ++ List.replicate (fn.ntmps - args.length) .dead) h).bind fun r => match r.1 with
          | .normal | .ret => (resultsR c (c.ann f).locals r.2.1 r.2.2 fn.results.toList).bind fun vs => .ok (packR vs, r.2.2)
          | _ => .err 305
        | none => .err 306
      | _, _ => .err 307
end

end Go.Proofs.Ytbnlhhfobgjeaaa
