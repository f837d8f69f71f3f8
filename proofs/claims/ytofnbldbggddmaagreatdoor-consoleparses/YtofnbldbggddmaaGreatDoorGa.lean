/-
  A part of the proof of ConsoleParses, over the seat YtofnbldbggddmaaGreatDoor: for every input the law returns true, and the input reads as it did.
-/
import Derived.Orders
import Derived.Calls
import Derived.Below
import Derived.Laws.Sem
import Derived.Laws.Cells
import Derived.Laws.Tables
import Derived.Laws.Entries
import Derived.Laws.CopyRow
import Derived.Laws.Strings
set_option linter.all false
namespace Go.Proofs.YtofnbldbggddmaaGreatDoor
open Go

/-! ### answers -/
inductive Res (α : Type) where
  | ok (a : α)
  | err (n : Nat)

def Res.bind {α β : Type} : Res α → (α → Res β) → Res β
  | .ok a, f => f a
  | .err n, _ => .err n

def ofOpt {α : Type} (n : Nat) : Option α → Res α
  | some a => .ok a
  | none => .err n

/-! ### values -/
inductive AVal where
  | dead
  | cell (vs : List AVal)
  | loc (off : Nat) (valid : Bool)
  | bool (b : Bool)
  | int (k : IntKind) (n : Int)
  | float (k : FloatKind) (bits : Nat)
  | cplx (k : FloatKind) (re im : Nat)
  | str (s : List UInt8)
  | nilp
  | ptr (o off : Nat)
  | rptr (r off : Nat)
  | nils
  | sl (o off len : Nat)
  | slc (o off len cap : Nat)
  | rsl (r off len : Nat)
  | nilm
  | map (o : Nat)
  | func (fn : Nat) (first captured : List AVal)
  | nilf
  | iface (t : Nat) (v : AVal)
  | nili
  | agg (vs : List AVal)
  | tuple (vs : List AVal)
  deriving Inhabited

inductive AObj where
  | row (esz : Nat) (fz : Bool) (vs : List AVal)
  | map (es : List (AVal × AVal))
  /-- a strings.Builder, of a type: its buffer, and how many bytes are in it -/
  | bld (T : Nat) (q : Option (Nat × Nat))
  /-- a builder's buffer, of a type -/
  | buf (T : Nat) (bs : List UInt8)
  deriving Inhabited

/-! ### a row of objects by number -/
inductive Tr (α : Type) where
  | nil
  | node (v : Option α) (l r : Tr α)

def Tr.get {α : Type} : Tr α → Nat → Option α
  | .nil, _ => none
  | .node v l r, n => if n = 0 then v else if n % 2 = 1 then l.get (n / 2) else r.get (n / 2 - 1)

def Tr.setF {α : Type} : Nat → Tr α → Nat → Option α → Tr α
  | 0, t, _, _ => t
  | f + 1, .nil, n, x => if n = 0 then .node x .nil .nil else if n % 2 = 1 then .node none (Tr.setF f .nil (n / 2) x) .nil else .node none .nil (Tr.setF f .nil (n / 2 - 1) x)
  | f + 1, .node v l r, n, x => if n = 0 then .node x l r else if n % 2 = 1 then .node v (Tr.setF f l (n / 2) x) r else .node v l (Tr.setF f r (n / 2 - 1) x)

structure AHeap where
  objs : Tr AObj
  next : Nat

def AHeap.get (h : AHeap) (o : Nat) : Option AObj := h.objs.get o
def AHeap.set (h : AHeap) (o : Nat) (x : AObj) : AHeap := { h with objs := Tr.setF (o + 1) h.objs o (some x) }
def AHeap.del (h : AHeap) (o : Nat) : AHeap := { h with objs := Tr.setF (o + 1) h.objs o none }
def AHeap.push (h : AHeap) (x : AObj) : AHeap := { objs := Tr.setF (h.next + 1) h.objs h.next (some x), next := h.next + 1 }

/-! ### what a program is to this machine -/
structure FnAnn where
  ok : Bool := false
  locals : List Nat := []
  clear : List (Nat × List Nat) := []

abbrev Prim := List AVal → AHeap → Res (AVal × AHeap)

structure Cfg where
  P : Program
  ann : Nat → FnAnn
  eqOk : Nat → Bool
  prim : Nat → Option Prim
  ro : Nat → Option (List AVal)
  /-- the types of builders -/
  bld : Nat → Bool := fun _ => false

/-! ### small words on lists -/
def nth : List AVal → Nat → AVal
  | [], _ => .dead
  | a :: _, 0 => a
  | _ :: l, n + 1 => nth l n

def setN : List AVal → Nat → AVal → List AVal
  | [], _, _ => []
  | _ :: l, 0, v => v :: l
  | a :: l, n + 1, v => a :: setN l n v

def nthR : List AVal → Nat → Res AVal
  | [], _ => .err 10
  | a :: _, 0 => .ok a
  | _ :: l, n + 1 => nthR l n

def takeR (vs : List AVal) (off n : Nat) : Res (List AVal) := if off + n ≤ vs.length then .ok ((vs.drop off).take n) else .err 11

def overR (vs : List AVal) (off : Nat) (cs : List AVal) : Res (List AVal) :=
  if off + cs.length ≤ vs.length then .ok (vs.take off ++ cs ++ vs.drop (off + cs.length)) else .err 12

def clearAll : List Nat → List AVal → List AVal
  | [], env => env
  | n :: l, env => clearAll l (setN env n .dead)

/-! ### constants -/
def toA1 : Value → Option AVal
  | .bool b => some (.bool b)
  | .int k n => some (.int k n)
  | .float k b => some (.float k b)
  | .complex k a b => some (.cplx k a b)
  | .string s => some (.str s.data.toList)
  | .pointer none => some .nilp
  | .slice none 0 0 => some .nils
  | .map none => some .nilm
  | .nilFunc => some .nilf
  | .nilIface => some .nili
  | _ => none

def toAs : List Value → Option (List AVal)
  | [] => some []
  | v :: l => match toA1 v, toAs l with
    | some a, some r => some (a :: r)
    | _, _ => none

def toA : Value → Option AVal
  | .agg cs => (toAs cs.toList).map .agg
  | v => toA1 v

/-- may a value stand in one cell? -/
def AVal.isCell : AVal → Bool
  | .dead | .cell _ | .loc _ _ | .agg _ | .tuple _ => false
  | _ => true

def cellsV : AVal → Res (List AVal)
  | .agg vs => .ok vs
  | v => if v.isCell then .ok [v] else .err 13

/-! ### types -/
def infoR (P : Program) (t : Nat) : Res TypeInfo := ofOpt 20 (P.info? t)
def undR (P : Program) (t : Nat) : Res TypeDesc := ofOpt 21 (P.underlying t)
def sizeR (P : Program) (t : Nat) : Res Nat := (infoR P t).bind fun i => .ok i.size
def zeroV (P : Program) (t : Nat) : Res AVal := (infoR P t).bind fun i => (ofOpt 22 i.zero).bind fun z => ofOpt 23 (toA z)
def isAggD : TypeDesc → Bool
  | .struct _ | .array _ _ => true
  | _ => false
def isAggR (P : Program) (t : Nat) : Res Bool := (undR P t).bind fun d => .ok (isAggD d)
def elemSl (P : Program) (t : Nat) : Res Nat := (undR P t).bind fun
  | .slice e => .ok e
  | _ => .err 24

/-- the part of cells that is a value of a type -/
def partR (P : Program) (t : Nat) (vs : List AVal) (off : Nat) : Res AVal :=
  (isAggR P t).bind fun
    | true => (sizeR P t).bind fun n => (takeR vs off n).bind fun cs => .ok (.agg cs)
    | false => nthR vs off

/-! ### memory -/
def rowR (c : Cfg) (h : AHeap) : AVal → Res (List AVal × Nat)
  | .ptr o off => match h.get o with
    | some (.row _ _ vs) => .ok (vs, off)
    | _ => .err 30
  | .rptr r off => match c.ro r with
    | some vs => .ok (vs, off)
    | none => .err 31
  | _ => .err 32

def loadR (c : Cfg) (h : AHeap) (t : Nat) (x : AVal) : Res AVal :=
  (rowR c h x).bind fun r => partR c.P t r.1 r.2

def storeR (c : Cfg) (h : AHeap) (t : Nat) (x v : AVal) : Res AHeap :=
  match x with
  | .ptr o off => match h.get o with
    | some (.row e f vs) => (sizeR c.P t).bind fun n => (cellsV v).bind fun cs =>
        if cs.length = n then (overR vs off cs).bind fun vs' => .ok (h.set o (.row e f vs')) else .err 33
    | _ => .err 34
  | _ => .err 35

/-- the cells of the first n elements of a slice, or of a string's bytes -/
def readSl (c : Cfg) (h : AHeap) (size n : Nat) : AVal → Res (List AVal)
  | .nils => if n = 0 then .ok [] else .err 40
  | .sl o off _ | .slc o off _ _ => if n = 0 then .ok [] else match h.get o with
    | some (.row _ _ vs) => takeR vs off (n * size)
    | _ => .err 41
  | .rsl r off _ => if n = 0 then .ok [] else match c.ro r with
    | some vs => takeR vs off (n * size)
    | none => .err 42
  | .str s => if size = 1 ∧ n ≤ s.length then .ok ((s.take n).map fun b => .int .u8 b.toNat) else .err 45
  | _ => .err 43

def lenA : AVal → Res Nat
  | .nils => .ok 0
  | .sl _ _ n | .slc _ _ n _ | .rsl _ _ n => .ok n
  | .str s => .ok s.length
  | _ => .err 44

def lenSl : AVal → Res Nat
  | .sl _ _ n | .slc _ _ n _ | .rsl _ _ n => .ok n
  | _ => .err 46

def reps (n : Nat) (l : List AVal) : List AVal := (List.replicate n l).flatten

/-! ### operators -/
def intBin (op : BinOp) (k : IntKind) (a b : Int) : Res AVal :=
  match op with
  | .add => .ok (.int k (k.wrap (a + b)))
  | .sub => .ok (.int k (k.wrap (a - b)))
  | .mul => .ok (.int k (k.wrap (a * b)))
  | .quo => if b = 0 then .err 50 else .ok (.int k (k.wrap (a.tdiv b)))
  | .rem => if b = 0 then .err 50 else .ok (.int k (a.tmod b))
  | .and => .ok (.int k (k.wrap (BitVec.ofInt k.bits a &&& BitVec.ofInt k.bits b).toNat))
  | .or => .ok (.int k (k.wrap (BitVec.ofInt k.bits a ||| BitVec.ofInt k.bits b).toNat))
  | .xor => .ok (.int k (k.wrap (BitVec.ofInt k.bits a ^^^ BitVec.ofInt k.bits b).toNat))
  | .andNot => .ok (.int k (k.wrap (BitVec.ofInt k.bits a &&& ~~~ BitVec.ofInt k.bits b).toNat))
  | .eql => .ok (.bool (a == b))
  | .neq => .ok (.bool (a != b))
  | .lss => .ok (.bool (a < b))
  | .leq => .ok (.bool (a ≤ b))
  | .gtr => .ok (.bool (a > b))
  | .geq => .ok (.bool (a ≥ b))
  | _ => .err 51

def shiftBin (op : BinOp) (k : IntKind) (a b : Int) : Res AVal :=
  if b < 0 then .err 52 else
  match op with
  | .shl => .ok (.int k (k.wrap (a * 2 ^ (min b.toNat k.bits))))
  | .shr => .ok (.int k (a.fdiv (2 ^ (min b.toNat k.bits))))
  | _ => .err 53

def strBin (op : BinOp) (x y : List UInt8) : Res AVal :=
  match op with
  | .add => if ((x.length + y.length : Nat) : Int) > IntKind.i64.max then .err 54 else .ok (.str (x ++ y))
  | .eql => .ok (.bool (x == y))
  | .neq => .ok (.bool (!(x == y)))
  | .lss => .ok (.bool (Op.bytesLess x y))
  | .leq => .ok (.bool (Op.bytesLess x y || x == y))
  | .gtr => .ok (.bool (!(Op.bytesLess x y || x == y)))
  | .geq => .ok (.bool (!Op.bytesLess x y))
  | _ => .err 55

def floatBin (op : BinOp) (k : FloatKind) (a b : Nat) : Res AVal :=
  match op with
  | .add => (ofOpt 56 (k.format.add a b)).bind fun r => .ok (.float k r)
  | .sub => (ofOpt 56 (k.format.sub a b)).bind fun r => .ok (.float k r)
  | .mul => (ofOpt 56 (k.format.mul a b)).bind fun r => .ok (.float k r)
  | .quo => (ofOpt 56 (k.format.div a b)).bind fun r => .ok (.float k r)
  | .eql => .ok (.bool (k.format.order a b == some .eq))
  | .neq => .ok (.bool (k.format.order a b != some .eq))
  | .lss => .ok (.bool (k.format.order a b == some .lt))
  | .leq => .ok (.bool (k.format.order a b == some .lt || k.format.order a b == some .eq))
  | .gtr => .ok (.bool (k.format.order a b == some .gt))
  | .geq => .ok (.bool (k.format.order a b == some .gt || k.format.order a b == some .eq))
  | _ => .err 57

def cplxBin (op : BinOp) (k : FloatKind) (a b c d : Nat) : Res AVal :=
  match op, k with
  | .add, _ => (ofOpt 58 (k.format.add a c)).bind fun r => (ofOpt 58 (k.format.add b d)).bind fun i => .ok (.cplx k r i)
  | .sub, _ => (ofOpt 58 (k.format.sub a c)).bind fun r => (ofOpt 58 (k.format.sub b d)).bind fun i => .ok (.cplx k r i)
  | .mul, .f64 =>
    (ofOpt 58 (k.format.mul a c)).bind fun ac => (ofOpt 58 (k.format.mul b d)).bind fun bd => (ofOpt 58 (k.format.sub ac bd)).bind fun re =>
    (ofOpt 58 (k.format.mul a d)).bind fun ad => (ofOpt 58 (k.format.mul b c)).bind fun bc => (ofOpt 58 (k.format.add ad bc)).bind fun im => .ok (.cplx k re im)
  | .eql, _ => .ok (.bool (k.format.order a c == some .eq && k.format.order b d == some .eq))
  | .neq, _ => .ok (.bool (!(k.format.order a c == some .eq && k.format.order b d == some .eq)))
  | _, _ => .err 59

/-- are two pointers one? (both in the heap) -/
def ptrEq (h : AHeap) (o off o' off' : Nat) : Res Bool :=
  if o = o' then .ok (off == off') else
  match h.get o, h.get o' with
  | some (.row _ false _), some (.row _ false _) => .ok false
  | _, _ => .err 60

/-- '==' of two values of one cell -/
def eq1 (h : AHeap) : AVal → AVal → Res Bool
  | .bool a, .bool b => .ok (a == b)
  | .int k a, .int k' b => if k = k' then .ok (a == b) else .err 61
  | .str a, .str b => .ok (a == b)
  | .float k a, .float k' b => if k = k' then .ok (k.format.order a b == some .eq) else .err 61
  | .cplx k a b, .cplx k' a' b' => if k = k' then .ok (k.format.order a a' == some .eq && k.format.order b b' == some .eq) else .err 61
  | .nilp, .nilp => .ok true
  | .nilp, .ptr _ _ => .ok false
  | .ptr _ _, .nilp => .ok false
  | .ptr o f, .ptr o' f' => ptrEq h o f o' f'
  | _, _ => .err 62

def sizeNonzero (P : Program) (t : Nat) : Bool := match P.info? t with | some i => i.size != 0 | none => false

/-- is '==' of two such values of the type what eq1 says? -/
def fits1 (P : Program) : TypeDesc → AVal → AVal → Bool
  | .bool, .bool _, .bool _ => true
  | .int _, .int _ _, .int _ _ => true
  | .string, .str _, .str _ => true
  | .float _, .float _ _, .float _ _ => true
  | .complex _, .cplx _ _ _, .cplx _ _ _ => true
  | .pointer _, .nilp, .nilp => true
  | .pointer _, .nilp, .ptr _ _ => true
  | .pointer _, .ptr _ _, .nilp => true
  | .pointer e, .ptr _ _, .ptr _ _ => sizeNonzero P e
  | _, _, _ => false

/-- '==' of what is no struct -/
def eqFlat (P : Program) (h : AHeap) (u : TypeDesc) (x y : AVal) : Res Bool :=
  match u with
  | .interface _ => match x, y with
    | .nili, .nili => .ok true
    | .nili, .iface _ _ => .ok false
    | .iface _ _, .nili => .ok false
    | _, _ => .err 64
  | .slice _ => match x, y with
    | .nils, .nils => .ok true
    | .nils, .sl _ _ _ | .nils, .slc _ _ _ _ | .nils, .rsl _ _ _ => .ok false
    | .sl _ _ _, .nils | .slc _ _ _ _, .nils | .rsl _ _ _, .nils => .ok false
    | _, _ => .err 64
  | .map _ _ => match x, y with
    | .nilm, .nilm => .ok true
    | .nilm, .map _ => .ok false
    | .map _, .nilm => .ok false
    | _, _ => .err 64
  | .func _ _ _ => match x, y with
    | .nilf, .nilf => .ok true
    | .nilf, .func _ _ _ => .ok false
    | .func _ _ _, .nilf => .ok false
    | _, _ => .err 64
  | u => if fits1 P u x y then eq1 h x y else .err 65

/-- field by field -/
def eqFields (P : Program) (eq : Nat → AVal → AVal → Res Bool) : List Field → List AVal → List AVal → Res Bool
  | [], _, _ => .ok true
  | f :: fs, xs, ys =>
    if f.name = "_" then eqFields P eq fs xs ys else
    (partR P f.type xs f.offset).bind fun a => (partR P f.type ys f.offset).bind fun b =>
    (eq f.type a b).bind fun r => match r with
      | true => eqFields P eq fs xs ys
      | false => .ok false

def eqIn (c : Cfg) (h : AHeap) : Nat → Nat → AVal → AVal → Res Bool
  | 0, _, _, _ => .err 63
  | d + 1, t, x, y => (undR c.P t).bind fun u =>
    match u with
    | .struct fs => match x, y with
      | .agg xs, .agg ys => if c.eqOk t then eqFields c.P (eqIn c h d) fs.toList xs ys else .err 64
      | _, _ => .err 64
    | u => eqFlat c.P h u x y

def isConstOp : Operand → Bool
  | .const _ => true
  | _ => false

/-- may two nil values of an interface be held against one another here? -/
def guardOk (c : Cfg) (xt : Nat) (x y : Operand) : AVal → AVal → Bool
  | .dead, _ => false
  | _, .dead => false
  | .nili, .nili => isConstOp x || isConstOp y
  | .agg _, .agg _ => c.eqOk xt
  | _, _ => true

def eqGuardA (c : Cfg) (op : BinOp) (xt : Nat) (x y : Operand) (a b : AVal) : Bool :=
  match op with
  | .eql | .neq => guardOk c xt x y a b
  | _ => true

def binR (c : Cfg) (h : AHeap) (op : BinOp) (xt : Nat) (x y : AVal) : Res AVal :=
  match op, x, y with
  | .shl, .int k a, .int _ b | .shr, .int k a, .int _ b => shiftBin op k a b
  | _, .int k a, .int k' b => if k = k' then intBin op k a b else .err 66
  | _, .float k a, .float k' b => if k = k' then floatBin op k a b else .err 67
  | _, .cplx k a b, .cplx k' a' b' => if k = k' then cplxBin op k a b a' b' else .err 68
  | _, .str a, .str b => strBin op a b
  | .eql, x, y => (eqIn c h 10000 xt x y).bind fun b => .ok (.bool b)
  | .neq, x, y => (eqIn c h 10000 xt x y).bind fun b => .ok (.bool (!b))
  | _, _, _ => .err 69

def unR (op : UnOp) (x : AVal) : Res AVal :=
  match op, x with
  | .neg, .int k n => .ok (.int k (k.wrap (0 - n)))
  | .xor, .int k n => .ok (.int k (k.wrap (BitVec.ofInt k.bits (if k.signed then -1 else k.max) ^^^ BitVec.ofInt k.bits n).toNat))
  | .neg, .float k b => .ok (.float k (Op.negFloat k b))
  | .neg, .cplx k a b => .ok (.cplx k (Op.negFloat k a) (Op.negFloat k b))
  | .not, .bool b => .ok (.bool (!b))
  | _, _ => .err 70

def byteOfA : AVal → Res UInt8
  | .int .u8 n => .ok (UInt8.ofNat n.toNat)
  | _ => .err 71

def bytesOfA : List AVal → Res (List UInt8)
  | [] => .ok []
  | v :: l => (byteOfA v).bind fun b => (bytesOfA l).bind fun r => .ok (b :: r)

/-- conversions that touch no memory -/
def convR (c : Cfg) (h : AHeap) (src dst : Nat) (x : AVal) : Res AVal :=
  (undR c.P src).bind fun s => (undR c.P dst).bind fun d =>
  match s, d, x with
  | _, .int k, .int _ n => .ok (.int k (k.wrap n))
  | _, .float k, .int _ n => .ok (.float k (k.nearest n))
  | _, .int k, .float s b => match (s.decode b).toInt .zero with
    | some n => if k.min ≤ n ∧ n ≤ k.max then .ok (.int k n) else .err 72
    | none => .err 72
  | _, .string, .str s => .ok (.str s)
  | .slice e, .string, .nils => (undR c.P e).bind fun
    | .int .u8 => .ok (.str [])
    | _ => .err 73
  | .slice e, .string, x => (undR c.P e).bind fun
    | .int .u8 => (lenSl x).bind fun n => (readSl c h 1 n x).bind fun cs => (bytesOfA cs).bind fun l => .ok (.str l)
    | _ => .err 74
  | _, _, _ => .err 75

/-! ### slices and places -/
def boundR (x : AVal) (y : Nat) : Res Nat :=
  match x with
  | .int _ i => if 0 ≤ i ∧ i ≤ y then .ok i.toNat else .err 80
  | _ => .err 81

def optR (env : Operand → Res AVal) : Option Operand → Res (Option AVal)
  | none => .ok none
  | some x => (env x).bind fun v => .ok (some v)

/-- the low and the high bound, where the high one may be at most 'top' and is 'len' if none is said -/
def bounds2 (len top : Nat) (lo hi : Option AVal) : Res (Nat × Nat) :=
  (match hi with | some v => boundR v top | none => .ok len).bind fun h =>
  (match lo with | some v => boundR v h | none => .ok 0).bind fun l => .ok (l, h)

def bounds3 (top : Nat) (lo : Option AVal) (hi mx : AVal) : Res (Nat × Nat × Nat) :=
  (boundR mx top).bind fun m => (boundR hi m).bind fun h =>
  (match lo with | some v => boundR v h | none => .ok 0).bind fun l => .ok (l, h, m)

/-- a slice whose capacity is known: where nothing is left the place stays -/
def slcOf (o off size l h m : Nat) : AVal := if m = l then .slc o off (h - l) 0 else .slc o (off + l * size) (h - l) (m - l)

/-- how many elements from an offset on are surely there -/
def roomOf (h : AHeap) (o off size : Nat) : Res Nat :=
  match h.get o with
  | some (.row e _ vs) => if e = size ∧ size ≠ 0 then .ok ((vs.length - off) / size) else .err 78
  | _ => .err 79

def sliceSl (h : AHeap) (size : Nat) (x : AVal) (lo hi mx : Option AVal) : Res AVal :=
  match x, mx with
  | .nils, none => (bounds2 0 0 lo hi).bind fun _ => .ok .nils
  | .sl o off len, none => (roomOf h o off size).bind fun n => (bounds2 len (max len n) lo hi).bind fun b => .ok (.sl o (off + b.1 * size) (b.2 - b.1))
  | .rsl r off len, none => (bounds2 len len lo hi).bind fun b => .ok (.rsl r (off + b.1 * size) (b.2 - b.1))
  | .slc o off len cap, none => (bounds2 len cap lo hi).bind fun b => .ok (slcOf o off size b.1 b.2 cap)
  | .sl o off len, some m => match hi with
    | some hv => (bounds3 len lo hv m).bind fun b => .ok (slcOf o off size b.1 b.2.1 b.2.2)
    | none => .err 83
  | .nils, some m => match hi with
    | some hv => (bounds3 0 lo hv m).bind fun _ => .ok .nils
    | none => .err 83
  | _, _ => .err 84

def sliceR (c : Cfg) (h : AHeap) (t : Nat) (x : AVal) (lo hi mx : Option AVal) : Res AVal :=
  (undR c.P t).bind fun d => match d with
  | .string => match x, mx with
    | .str s, none => (bounds2 s.length s.length lo hi).bind fun b => .ok (.str ((s.take b.2).drop b.1))
    | _, _ => .err 82
  | .slice e => (sizeR c.P e).bind fun size => sliceSl h size x lo hi mx
  | .array n e => (sizeR c.P e).bind fun size => match x, mx with
    | .ptr o off, none => (bounds2 n n lo hi).bind fun b => .ok (slcOf o off size b.1 b.2 n)
    | _, _ => .err 86
  | _ => .err 87

def fieldOf (P : Program) (t f : Nat) : Res Field := (undR P t).bind fun
  | .struct fs => ofOpt 88 fs.toList[f]?
  | _ => .err 89

def addOff : AVal → Nat → Res AVal
  | .ptr o off, n => .ok (.ptr o (off + n))
  | .rptr r off, n => .ok (.rptr r (off + n))
  | _, _ => .err 90

def fieldAddrR (P : Program) (t : Nat) (x : AVal) (f : Nat) : Res AVal :=
  (fieldOf P t f).bind fun fd => (sizeR P fd.type).bind fun n => if n = 0 then .err 91 else addOff x fd.offset

def fieldR (P : Program) (t : Nat) (x : AVal) (f : Nat) : Res AVal :=
  match x with
  | .agg vs => (fieldOf P t f).bind fun fd => partR P fd.type vs fd.offset
  | _ => .err 92

def idxNat (i : AVal) (len : Nat) : Res Nat :=
  match i with
  | .int _ n => if 0 ≤ n ∧ n < len then .ok n.toNat else .err 93
  | _ => .err 94

def indexAddrR (P : Program) (t : Nat) (x i : AVal) : Res AVal :=
  (undR P t).bind fun
  | .slice e => (sizeR P e).bind fun size => match x with
    | .sl o off len | .slc o off len _ => (idxNat i len).bind fun n => .ok (.ptr o (off + n * size))
    | .rsl r off len => (idxNat i len).bind fun n => .ok (.rptr r (off + n * size))
    | _ => .err 95
  | .array len e => (sizeR P e).bind fun size => (idxNat i len).bind fun n => addOff x (n * size)
  | _ => .err 96

def indexR (P : Program) (t : Nat) (x i : AVal) : Res AVal :=
  (undR P t).bind fun
  | .string => match x with
    | .str s => (idxNat i s.length).bind fun n => (ofOpt 97 s[n]?).bind fun b => .ok (.int .u8 b.toNat)
    | _ => .err 98
  | .array len e => match x with
    | .agg vs => (idxNat i len).bind fun n => (sizeR P e).bind fun size => partR P e vs (n * size)
    | _ => .err 99
  | _ => .err 100

def nilCheckR : AVal → Res AVal
  | .ptr o f => .ok (.ptr o f)
  | .rptr o f => .ok (.rptr o f)
  | _ => .err 101

def extractR (x : AVal) (i : Nat) : Res AVal :=
  match x with
  | .tuple vs => nthR vs i
  | _ => .err 102

/-! ### making -/
def fillR (place : Nat → Option (Nat × Nat)) : List AVal → List (Nat × AVal) → Res (List AVal)
  | cells, [] => .ok cells
  | cells, (i, v) :: rest => (ofOpt 103 (place i)).bind fun p => (cellsV v).bind fun cs =>
      if cs.length = p.2 then (overR cells p.1 cs).bind fun cells' => fillR place cells' rest else .err 104

def placesOf (P : Program) : List Field → Res (List (Nat × Nat))
  | [] => .ok []
  | f :: fs => (sizeR P f.type).bind fun n => (placesOf P fs).bind fun r => .ok ((f.offset, n) :: r)

def buildR (P : Program) (t : Nat) (parts : List (Nat × AVal)) : Res AVal :=
  (zeroV P t).bind fun z => (cellsV z).bind fun zs => (undR P t).bind fun
    | .struct fs => (placesOf P fs.toList).bind fun pl => (fillR (fun i => pl[i]?) zs parts).bind fun cs => .ok (.agg cs)
    | .array _ e => (sizeR P e).bind fun size => (fillR (fun i => some (i * size, size)) zs parts).bind fun cs => .ok (.agg cs)
    | _ => .err 105

def newRow (h : AHeap) (esz : Nat) (fz : Bool) (vs : List AVal) : AVal × AHeap := (.ptr h.next 0, h.push (.row esz fz vs))

def boxR (h : AHeap) (v : AVal) : Res (AVal × AHeap) :=
  (cellsV v).bind fun cs => .ok (.ptr h.next 0, h.push (.row 0 false cs))

def bldR (h : AHeap) (t : Nat) (z : AVal) : Res (AVal × AHeap) :=
  match z with
  | .agg [.nilp, .nils] => .ok (.ptr h.next 0, h.push (.bld t none))
  | _ => .err 190

def zeroCellsR (P : Program) (t : Nat) : Res (List AVal) := (zeroV P t).bind fun z => cellsV z

def buildSliceR (P : Program) (h : AHeap) (t len : Nat) (parts : List (Nat × AVal)) : Res (AVal × AHeap) :=
  (elemSl P t).bind fun e => (sizeR P e).bind fun size =>
    if len * size > 2 ^ 24 then .err 106 else if size = 0 then .err 107 else
    (zeroCellsR P e).bind fun z => if z.length = size then
      (fillR (fun i => some (i * size, size)) (reps len z) parts).bind fun cs =>
        .ok (.sl h.next 0 len, h.push (.row size false cs)) else .err 108

def makeSliceR (P : Program) (h : AHeap) (t : Nat) (l m : AVal) : Res (AVal × AHeap) :=
  match l, m with
  | .int _ l, .int _ m =>
    (elemSl P t).bind fun e => (infoR P e).bind fun i =>
      if IntKind.i64.wrap l = l ∧ IntKind.i64.wrap m = m ∧ 0 ≤ l ∧ l ≤ m ∧ (i.bytes : Int) * m ≤ 2 ^ 48 ∧ i.size ≠ 0 then
        (zeroCellsR P e).bind fun z => if z.length = i.size then
          .ok (.sl h.next 0 l.toNat, h.push (.row i.size false (reps m.toNat z))) else .err 109
      else .err 110
  | _, _ => .err 111

mutual
def AVal.beq : AVal → AVal → Bool
  | .dead, .dead => true
  | .cell a, .cell b => AVal.beqs a b
  | .loc a v, .loc b w => a == b && v == w
  | .bool a, .bool b => a == b
  | .int k a, .int k' b => decide (k = k') && a == b
  | .float k a, .float k' b => decide (k = k') && a == b
  | .cplx k a b, .cplx k' a' b' => decide (k = k') && a == a' && b == b'
  | .str a, .str b => a == b
  | .nilp, .nilp => true
  | .ptr a b, .ptr a' b' => a == a' && b == b'
  | .rptr a b, .rptr a' b' => a == a' && b == b'
  | .nils, .nils => true
  | .sl a b n, .sl a' b' n' => a == a' && b == b' && n == n'
  | .slc a b n m, .slc a' b' n' m' => a == a' && b == b' && n == n' && m == m'
  | .rsl a b n, .rsl a' b' n' => a == a' && b == b' && n == n'
  | .nilm, .nilm => true
  | .map a, .map b => a == b
  | .func f a b, .func g a' b' => f == g && AVal.beqs a a' && AVal.beqs b b'
  | .nilf, .nilf => true
  | .iface t v, .iface u w => t == u && AVal.beq v w
  | .nili, .nili => true
  | .agg a, .agg b => AVal.beqs a b
  | .tuple a, .tuple b => AVal.beqs a b
  | _, _ => false
def AVal.beqs : List AVal → List AVal → Bool
  | [], [] => true
  | a :: l, b :: m => AVal.beq a b && AVal.beqs l m
  | _, _ => false
end

/-! ### maps -/
def keySimple (P : Program) : Nat → Bool := fun t =>
  match P.underlying t with
  | some (.int _) | some .string | some .bool => true
  | some (.struct fs) => fs.toList.all fun f => match P.underlying f.type with
    | some (.int _) | some .string | some .bool => f.name != "_"
    | _ => false
  | _ => false

def keyFits (P : Program) (t : Nat) (k : AVal) : Bool :=
  match P.underlying t with
  | some (.struct fs) => match k with
    | .agg vs => fs.toList.all fun f => decide (f.offset < vs.length)
    | _ => false
  | _ => true

def findR (c : Cfg) (h : AHeap) (kt : Nat) (k : AVal) : List (AVal × AVal) → Nat → Res (Option (Nat × AVal))
  | [], _ => .ok none
  | e :: es, i => (eqIn c h 10000 kt k e.1).bind fun
    | true => .ok (some (i, e.2))
    | false => findR c h kt k es (i + 1)

def mapTypes (P : Program) (t : Nat) : Res (Nat × Nat) := (undR P t).bind fun
  | .map k e => if keySimple P k then .ok (k, e) else .err 120
  | _ => .err 121

def entriesR (h : AHeap) : AVal → Res (List (AVal × AVal))
  | .nilm => .ok []
  | .map o => match h.get o with
    | some (.map es) => .ok es
    | _ => .err 122
  | _ => .err 123

def lookupR (c : Cfg) (h : AHeap) (t : Nat) (x k : AVal) (ok : Bool) : Res AVal :=
  (mapTypes c.P t).bind fun kt => (entriesR h x).bind fun es => if !keyFits c.P kt.1 k then .err 126 else (findR c h kt.1 k es 0).bind fun
    | some (_, v) => .ok (if ok then .tuple [v, .bool true] else v)
    | none => (zeroV c.P kt.2).bind fun z => .ok (if ok then .tuple [z, .bool false] else z)

def setVal : List (AVal × AVal) → Nat → AVal → List (AVal × AVal)
  | [], _, _ => []
  | e :: es, 0, v => (e.1, v) :: es
  | e :: es, n + 1, v => e :: setVal es n v

def mapUpdateR (c : Cfg) (h : AHeap) (t : Nat) (x k v : AVal) : Res AHeap :=
  match x with
  | .map o => match h.get o with
    | some (.map es) => (mapTypes c.P t).bind fun kt => if !keyFits c.P kt.1 k then .err 127 else (findR c h kt.1 k es 0).bind fun
      | some (i, _) => match es[i]? with
        | some x => if AVal.beq x.1 k then .ok (h.set o (.map (setVal es i v))) else .err 119
        | none => .err 118
      | none => .ok (h.set o (.map (es ++ [(k, v)])))
    | _ => .err 124
  | _ => .err 125

/-! ### builtins -/
def notMake (P : Program) : Option Nat → Res Unit
  | some u => (undR P u).bind fun d => match d with
    | .int _ => .err 130
    | _ => .ok ()
  | none => .ok ()

def appendG (c : Cfg) (h : AHeap) (st : Nat) (s x : AVal) : Res (AVal × AHeap) :=
  (elemSl c.P st).bind fun e => (infoR c.P e).bind fun i =>
  (lenA x).bind fun n => (readSl c h i.size n x).bind fun new =>
  (zeroCellsR c.P e).bind fun z =>
  if i.size = 0 ∨ i.bytes = 0 ∨ z.length ≠ i.size then .err 131 else
  match s with
  | .nils => if n = 0 then .ok (.nils, h) else if n * i.bytes > 2 ^ 47 then .err 132 else .ok (.sl h.next 0 n, h.push (.row i.size false new))
  | .sl o off len => match h.get o with
    | some (.row esz fz vs) =>
      if esz = i.size then
        if off + (len + n) * i.size ≤ vs.length then (overR vs (off + len * i.size) new).bind fun vs' => .ok (.sl o off (len + n), h.set o (.row esz fz vs'))
        else if (len + n) * i.bytes > 2 ^ 47 then .err 133 else
        (takeR vs off (len * i.size)).bind fun old => .ok (.sl h.next 0 (len + n), (h.del o).push (.row i.size true (old ++ new)))
      else .err 134
    | _ => .err 135
  | .slc o off len cap => match h.get o with
    | some (.row esz fz vs) =>
      if len + n ≤ cap then (overR vs (off + len * i.size) new).bind fun vs' => .ok (.slc o off (len + n) cap, h.set o (.row esz fz vs'))
      else if (len + n) * i.bytes > 2 ^ 47 then .err 136 else
      (takeR vs off (len * i.size)).bind fun old => .ok (.sl h.next 0 (len + n), h.push (.row i.size false (old ++ new)))
    | _ => .err 137
  | .rsl r off len => if n = 0 then .ok (.rsl r off len, h) else .err 138
  | _ => .err 139

/-- append(s, make(..)...): where there is no room for it -/
def appMakeR (c : Cfg) (h : AHeap) (st : Nat) (xt : Option Nat) (s x : AVal) : Res (AVal × AHeap) :=
  match xt with
  | some u => (undR c.P u).bind fun d => match d with
    | .int _ => match s, x with
      | .slc o off len cap, .int _ l =>
        (elemSl c.P st).bind fun e => (infoR c.P e).bind fun i => (zeroCellsR c.P e).bind fun z =>
        if i.size = 0 ∨ i.bytes = 0 ∨ z.length ≠ i.size ∨ l < 0 ∨ IntKind.i64.wrap l ≠ l ∨ len + l.toNat ≤ cap ∨ (len + l.toNat) * i.bytes > 2 ^ 47 then .err 131 else
        match h.get o with
        | some (.row _ _ vs) => (takeR vs off (len * i.size)).bind fun old => .ok (.sl h.next 0 (len + l.toNat), h.push (.row i.size false (old ++ reps l.toNat z)))
        | _ => .err 137
      | _, _ => .err 130
    | _ => .err 130
  | none => .err 130

def mk2 {α : Type} : Res Unit → α → α → α
  | .ok _, _, b => b
  | .err _, a, _ => a

def appendR (c : Cfg) (h : AHeap) (st : Nat) (xt : Option Nat) (s x : AVal) : Res (AVal × AHeap) :=
  mk2 (notMake c.P xt) (appMakeR c h st xt s x) (appendG c h st s x)

def copyR (c : Cfg) (h : AHeap) (dt : Nat) (d s : AVal) : Res (AVal × AHeap) :=
  (elemSl c.P dt).bind fun e => (sizeR c.P e).bind fun size => (lenA d).bind fun dn => (lenA s).bind fun sn =>
  (readSl c h size (min sn dn) s).bind fun cs =>
  match d with
  | .nils => .ok (.int .i64 ((min sn dn : Nat) : Int), h)
  | .sl o off _ | .slc o off _ _ => match h.get o with
    | some (.row esz fz vs) => (overR vs off cs).bind fun vs' => .ok (.int .i64 ((min sn dn : Nat) : Int), h.set o (.row esz fz vs'))
    | _ => .err 140
  | _ => .err 141

def clearR (c : Cfg) (h : AHeap) (t : Nat) (x : AVal) : Res (AVal × AHeap) :=
  (undR c.P t).bind fun
  | .slice e => match x with
    | .nils => .ok (.tuple [], h)
    | .sl o off n | .slc o off n _ => if n = 0 then .ok (.tuple [], h) else match h.get o with
      | some (.row esz fz vs) => (zeroCellsR c.P e).bind fun z => (sizeR c.P e).bind fun size => if z.length = size then
          (overR vs off (reps n z)).bind fun vs' => .ok (.tuple [], h.set o (.row esz fz vs')) else .err 142
      | _ => .err 143
    | _ => .err 144
  | _ => .err 145

def deleteR (c : Cfg) (h : AHeap) (t : Nat) (x k : AVal) : Res (AVal × AHeap) :=
  match x with
  | .map o => match h.get o with
    | some (.map es) => (mapTypes c.P t).bind fun kt => if !keyFits c.P kt.1 k then .err 128 else (findR c h kt.1 k es 0).bind fun
      | some (i, _) => .ok (.tuple [], h.set o (.map (es.eraseIdx i)))
      | none => .ok (.tuple [], h)
    | _ => .err 146
  | .nilm => (mapTypes c.P t).bind fun kt => if !keyFits c.P kt.1 k then .err 129 else .ok (.tuple [], h)
  | _ => .err 147

def lenR (c : Cfg) (h : AHeap) (t : Nat) (x : AVal) : Res AVal :=
  (undR c.P t).bind fun
  | .string => match x with
    | .str s => .ok (.int .i64 s.length)
    | _ => .err 148
  | .slice _ => match x with
    | .str _ => .err 149
    | x => (lenA x).bind fun n => .ok (.int .i64 n)
  | .map _ _ => (entriesR h x).bind fun es => .ok (.int .i64 es.length)
  | .array n _ => .ok (.int .i64 n)
  | .pointer a => (undR c.P a).bind fun
    | .array n _ => .ok (.int .i64 n)
    | _ => .err 150
  | _ => .err 151

def max2R : AVal → AVal → Res AVal
  | .int k x, .int _ y => .ok (.int k (if y > x then y else x))
  | _, _ => .err 152
def min2R : AVal → AVal → Res AVal
  | .int k x, .int _ y => .ok (.int k (if y < x then y else x))
  | _, _ => .err 153
def foldR (f : AVal → AVal → Res AVal) : AVal → List AVal → Res AVal
  | x, [] => .ok x
  | x, y :: l => (f x y).bind fun z => foldR f z l

def builtinR (c : Cfg) (h : AHeap) (b : Builtin) (ts : Array Nat) (args : List AVal) : Res (AVal × AHeap) :=
  match b, ts[0]?, args with
  | .len, some t, [x] => (lenR c h t x).bind fun v => .ok (v, h)
  | .append, some t, [s, x] => appendR c h t ts[1]? s x
  | .copy, some t, [d, s] => copyR c h t d s
  | .clear, some t, [x] => clearR c h t x
  | .delete, some t, [m, k] => deleteR c h t m k
  | .max, _, x :: l => (foldR max2R x l).bind fun v => .ok (v, h)
  | .min, _, x :: l => (foldR min2R x l).bind fun v => .ok (v, h)
  | .cap, some t, [x] => (elemSl c.P t).bind fun _ => match x with
    | .slc _ _ _ n => .ok (.int .i64 n, h)
    | .nils => .ok (.int .i64 0, h)
    | _ => .err 162
  | .complex, _, [.float k a, .float k' b] => if k = k' then .ok (.cplx k a b, h) else .err 160
  | .real, _, [.cplx k a _] => .ok (.float k a, h)
  | .imag, _, [.cplx k _ b] => .ok (.float k b, h)
  | _, _, _ => .err 161

/-! ### one operation -/
/-- what a call is answered: the function, the arguments, the heap -/
abbrev CallR := Nat → List AVal → AHeap → Res (AVal × AHeap)

/-- where steps lead: to an answer, or to a statement -/
structure Ans (γ : Type) where
  bnd : {α : Type} → Res α → (α → γ) → γ
  call : Bool → Nat → List AVal → AHeap → (AVal → AHeap → γ) → γ
  chk : Res AVal → AVal → γ → γ

def methodR (P : Program) (t : Nat) (name : String) : Res Nat :=
  (infoR P t).bind fun i => (ofOpt 170 (i.methods.find? (·.name == name))).bind fun m =>
    if m.path.isEmpty then match m.func with
      | some (f, ptr) => (undR P t).bind fun
        | .pointer _ => if ptr then .ok f else .err 171
        | _ => if ptr then .err 172 else .ok f
      | none => .err 173
    else .err 174

/-- the operands: some slots may not be read as values -/
def opnd (bad : List Nat) (env : List AVal) : Operand → Res AVal
  | .tmp t => if bad.contains t then .err 175 else .ok (nth env t)
  | .const v => ofOpt 176 (toA v)
  | .global g => if g < 1000000 then .ok (.rptr g 0) else .err 174
  | .func f => .ok (.func f [] [])

def opnds (bad : List Nat) (env : List AVal) : List Operand → Res (List AVal)
  | [] => .ok []
  | x :: l => (opnd bad env x).bind fun v => (opnds bad env l).bind fun r => .ok (v :: r)

def opndParts (bad : List Nat) (env : List AVal) : List (Nat × Operand) → Res (List (Nat × AVal))
  | [] => .ok []
  | x :: l => (opnd bad env x.2).bind fun v => (opndParts bad env l).bind fun r => .ok ((x.1, v) :: r)

def pureV (h : AHeap) (r : Res AVal) : Res (AVal × AHeap) := r.bind fun v => .ok (v, h)

/-- an operation that is no call of a Go function: its value, and what it does to the heap -/
def opR (c : Cfg) (bad : List Nat) (env : List AVal) (h : AHeap) (o : Oper) : Res (AVal × AHeap) :=
  match o.op with
  | .move x | .assign x => pureV h (opnd bad env x)
  | .pick x a b => (opnd bad env x).bind fun v => match v with
    | .bool true => pureV h (opnd bad env a)
    | .bool false => pureV h (opnd bad env b)
    | _ => .err 180
  | .alloc t => (zeroV c.P t).bind fun z => if c.bld t then bldR h t z else boxR h z
  | .box _ x => (opnd bad env x).bind fun v => boxR h v
  | .build t ps => (opndParts bad env ps.toList).bind fun l => pureV h (buildR c.P t l)
  | .buildSlice t n ps => (opndParts bad env ps.toList).bind fun l => buildSliceR c.P h t n l
  | .load t a => (opnd bad env a).bind fun p => pureV h (loadR c h t p)
  | .store t a x => (opnd bad env a).bind fun p => (opnd bad env x).bind fun v => (storeR c h t p v).bind fun h' => .ok (.tuple [], h')
  | .nilCheck x => (opnd bad env x).bind fun v => pureV h (nilCheckR v)
  | .binOp op xt x y _ => (opnd bad env x).bind fun a => (opnd bad env y).bind fun b =>
      if eqGuardA c op xt x y a b then pureV h (binR c h op xt a b) else .err 181
  | .unOp op _ x => (opnd bad env x).bind fun v => pureV h (unR op v)
  | .convert s d x => (opnd bad env x).bind fun v => (undR c.P s).bind fun _ => (undR c.P d).bind fun u => match u, v with
      | .slice el, .str b => (undR c.P el).bind fun w => match w with
        | .int .u8 => .ok (.sl h.next 0 b.length, h.push (.row 1 true (b.map fun x => .int .u8 x.toNat)))
        | _ => .err 182
      | .slice el, .sl o off n => (undR c.P el).bind fun w => match w with
        | .int .u8 => match h.get o with
          | some (.row e _ vs) => if s = d then .ok (.sl o off n, h.set o (.row e true vs)) else .err 184
          | _ => .err 185
        | _ => .err 183
      | _, v => pureV h (convR c h s d v)
  | .makeInterface t x => (opnd bad env x).bind fun v => (undR c.P t).bind fun d => match d with
      | .interface _ => .err 183
      | _ => .ok (.iface t v, h)
  | .makeFunc fn first cap => match fn with
      | .func f => (opnds bad env first.toList).bind fun a => (opnds bad env cap.toList).bind fun b => .ok (.func f a b, h)
      | _ => .err 184
  | .makeMap _ r => match r with
      | none => .ok (.map h.next, h.push (.map []))
      | some _ => .err 185
  | .makeSlice t l m => (opnd bad env l).bind fun a => (opnd bad env m).bind fun b => makeSliceR c.P h t a b
  | .slice t x lo hi mx => (opnd bad env x).bind fun v => (optR (opnd bad env) lo).bind fun a => (optR (opnd bad env) hi).bind fun b => (optR (opnd bad env) mx).bind fun m => pureV h (sliceR c h t v a b m)
  | .fieldAddr t x f => (opnd bad env x).bind fun v => pureV h (fieldAddrR c.P t v f)
  | .field t x f => (opnd bad env x).bind fun v => pureV h (fieldR c.P t v f)
  | .indexAddr t x i => (opnd bad env x).bind fun v => (opnd bad env i).bind fun n => pureV h (indexAddrR c.P t v n)
  | .index t x i => (opnd bad env x).bind fun v => (opnd bad env i).bind fun n => pureV h (indexR c.P t v n)
  | .lookup t x k ok => (opnd bad env x).bind fun m => (opnd bad env k).bind fun v => pureV h (lookupR c h t m v ok)
  | .mapUpdate t m k x => (opnd bad env m).bind fun a => (opnd bad env k).bind fun b => (opnd bad env x).bind fun v => (mapUpdateR c h t a b v).bind fun h' => .ok (.tuple [], h')
  | .extract x i => (opnd bad env x).bind fun v => pureV h (extractR v i)
  | .call x => match x.callee with
    | .builtin b => (opnds bad env x.args.toList).bind fun args => builtinR c h b x.argTypes args
    | _ => .err 187
  | _ => .err 186

/-- what is called: the function and the arguments -/
def calleeR (c : Cfg) (bad : List Nat) (env : List AVal) (x : Call) : Res (Nat × List AVal) :=
  (opnds bad env x.args.toList).bind fun args =>
  match x.callee with
  | .value f => (opnd bad env f).bind fun v => match v with
    | .func f first captured => .ok (f, first ++ args ++ captured)
    | _ => .err 177
  | .invoke r name => (opnd bad env r).bind fun v => match v with
    | .iface t v => (methodR c.P t name).bind fun f => .ok (f, v :: args)
    | _ => .err 178
  | .builtin _ => .err 179

/-- is it a call of a Go function? -/
def callOf (o : Oper) : Option Call :=
  match o.op with
  | .call x => match x.callee with
    | .builtin _ => none
    | _ => some x
  | _ => none

/-! ### cells of the frame -/
def lookN : List (Nat × Nat) → Nat → Option Nat
  | [], _ => none
  | (a, b) :: l, t => if a = t then some b else lookN l t

/-- the slot of the cell that an operand points into -/
def slotOf (loc : List Nat) (al : List (Nat × Nat)) : Operand → Option (Nat × Nat)
  | .tmp t => if loc.contains t then some (t, t) else match lookN al t with
    | some s => some (t, s)
    | none => none
  | _ => none

/-- slots that point into cells of the frame, with the slot of the cell, of a region's operations in their order -/
def aliasPairs (loc : List Nat) : List Oper → List (Nat × Nat) → List (Nat × Nat)
  | [], acc => acc
  | o :: l, acc => match (match o.op with | .move x | .nilCheck x | .fieldAddr _ x _ | .indexAddr _ x _ => slotOf loc acc x | _ => none), o.dst with
    | some ts, some d => aliasPairs loc l ((d, ts.2) :: acc)
    | _, _ => aliasPairs loc l acc

/-- the state inside a region; 'base': the heap behind the last thing that acted -/
structure RS where
  env : List AVal
  h : AHeap
  base : AHeap
  hist : List (Nat × AHeap)
  reads : List (Nat × (AHeap → Res AVal) × AVal)

def putD (env : List AVal) (o : Oper) (v : AVal) : List AVal :=
  match o.dst with
  | some d => setN env d v
  | none => env

/-- what kind of step an operation is, as cells of the frame go -/
inductive How where
  | plain
  | alias_ (t s : Nat)
  | make (s : Nat)
  | load_ (t s : Nat)
  | store_ (t s : Nat)

def how (loc : List Nat) (al : List (Nat × Nat)) (o : Oper) : How :=
  match o.op with
  | .alloc _ | .box _ _ => match o.dst with
    | some d => if loc.contains d then .make d else .plain
    | none => .plain
  | .move x | .nilCheck x | .fieldAddr _ x _ | .indexAddr _ x _ => match slotOf loc al x with
    | some p => .alias_ p.1 p.2
    | none => .plain
  | .load _ x => match slotOf loc al x with
    | some p => .load_ p.1 p.2
    | none => .plain
  | .store _ x _ => match slotOf loc al x with
    | some p => .store_ p.1 p.2
    | none => .plain
  | _ => .plain

/-- where a slot points into its cell: the offset, and whether that was worked out -/
def baseOff (env : List AVal) (t s : Nat) : Res (Nat × Bool) :=
  match decide (t = s) with
  | true => match nth env s with
    | .cell _ => .ok (0, true)
    | _ => .err 192
  | false => match nth env t with
    | .loc off valid => .ok (off, valid)
    | _ => .err 193

def cellAt (env : List AVal) (t s : Nat) : Res (List AVal × Nat) :=
  match nth env s with
  | .cell vs => (baseOff env t s).bind fun b => match b.2 with
    | true => .ok (vs, b.1)
    | false => .err 192
  | _ => .err 194

/-- how far an operation points on -/
def stepOff (P : Program) (bad : List Nat) (env : List AVal) (o : Oper) : Res Nat :=
  match o.op with
  | .move _ | .nilCheck _ => .ok 0
  | .fieldAddr t _ f => (fieldOf P t f).bind fun fd => (sizeR P fd.type).bind fun n => if n = 0 then .err 191 else .ok fd.offset
  | .indexAddr t _ i => (undR P t).bind fun d => match d with
    | .array len e => (sizeR P e).bind fun size => (opnd bad env i).bind fun iv => (idxNat iv len).bind fun n => .ok (n * size)
    | _ => .err 190
  | _ => .err 189

def aliasR (P : Program) (bad : List Nat) (env : List AVal) (t s : Nat) (o : Oper) : Res (Nat × Bool) :=
  (baseOff env t s).bind fun b => match b.2 with
    | true => (stepOff P bad env o).bind fun n => .ok (b.1 + n, true)
    | false => .err 197

/-- what a cell of the frame is made with -/
def makeCells (P : Program) (bad : List Nat) (env : List AVal) (o : Oper) : Res (List AVal) :=
  match o.op with
  | .alloc t => zeroCellsR P t
  | .box _ x => (opnd bad env x).bind fun v => cellsV v
  | _ => .err 188

def loadCell (P : Program) (env : List AVal) (t s : Nat) (o : Oper) : Res AVal :=
  match o.op with
  | .load ty _ => (cellAt env t s).bind fun vo => partR P ty vo.1 vo.2
  | _ => .err 198

def storeCell (P : Program) (bad : List Nat) (env : List AVal) (t s : Nat) (o : Oper) : Res (List AVal) :=
  match o.op with
  | .store ty _ x => (cellAt env t s).bind fun vo => (opnd bad env x).bind fun v => (sizeR P ty).bind fun n => (cellsV v).bind fun cs =>
      if cs.length = n then overR vo.1 vo.2 cs else .err 200
  | _ => .err 199

/-- is the operation carried out? -/
def wantedR (ops : Array Oper) (env : List AVal) (o : Oper) : Res Bool :=
  match o.guard with
  | none => .ok true
  | some (j, want) => match (ops[j]?).bind (·.dst) with
    | some d => match nth env d with
      | .bool b => .ok (b == want)
      | .tuple [] => .ok false
      | _ => .err 195
    | none => .err 196

/-- what may be passed over -/
def ifG {α : Type} (ops : Array Oper) (env : List AVal) (o : Oper) (other : α) (r : Res α) : Res α :=
  match o.guard with
  | none => r
  | some _ => (wantedR ops env o).bind fun b => match b with
    | true => r
    | false => .ok other

/-- is an operation's slot one that it may write? -/
def opOk (loc : List Nat) (al : List (Nat × Nat)) (o : Oper) : Bool :=
  match how loc al o with
  | .make d => loc.contains d
  | .alias_ _ s => match o.dst with
    | some d => !loc.contains d && (lookN al d == some s)
    | none => false
  | _ => match o.dst with
    | some d => !loc.contains d
    | none => true

/-- the slots that point into a cell -/
def aliasTo (al : List (Nat × Nat)) (s : Nat) : List Nat := (al.filter fun p => p.2 == s).map (·.1)

/-- one step of a region, with what follows it -/
def stepK {γ : Type} (A : Ans γ) (c : Cfg) (loc : List Nat) (al : List (Nat × Nat)) (bad : List Nat) (ops : Array Oper) (o : Oper) (s : RS) (K : RS → γ) : γ :=
  match callOf o with
  | some x => match o.guard with
    | none => A.bnd (calleeR c bad s.env x) fun fa => A.call true fa.1 fa.2 s.h fun v h => K { s with env := putD s.env o v, h := h }
    | some _ => A.bnd (wantedR ops s.env o) fun b => A.bnd (match b with | true => calleeR c bad s.env x | false => .ok (0, [])) fun fa =>
        A.call b fa.1 fa.2 s.h fun v h => K { s with env := putD s.env o v, h := h }
  | none => match how loc al o with
    | .plain => A.bnd (ifG ops s.env o (.tuple [], s.h) (opR c bad s.env s.h o)) fun r => K { s with env := putD s.env o r.1, h := r.2 }
    | .alias_ t sl => A.bnd (ifG ops s.env o (0, false) (aliasR c.P bad s.env t sl o)) fun n => K { s with env := putD s.env o (.loc n.1 n.2) }
    | .make d => match o.guard with
      | none => A.bnd (makeCells c.P bad s.env o) fun vs => K { s with env := setN (clearAll (aliasTo al d) s.env) d (.cell vs) }
      | some _ => A.bnd (.err 197 : Res Unit) (fun _ => K s)
    | .load_ t sl => A.bnd (ifG ops s.env o (.tuple []) (loadCell c.P s.env t sl o)) fun v => K { s with env := putD s.env o v }
    | .store_ t sl => match o.guard, o.dst with
      | none, none => A.bnd (storeCell c.P bad s.env t sl o) fun vs => K { s with env := setN s.env sl (.cell vs) }
      | _, _ => A.bnd (.err 201 : Res Unit) (fun _ => K s)

/-- a region whose order is that of the text -/
def runText {γ : Type} (A : Ans γ) (c : Cfg) (loc : List Nat) (al : List (Nat × Nat)) (bad : List Nat) (ops : Array Oper) : List Oper → RS → (RS → γ) → γ
  | [], s, K => K s
  | o :: l, s, K => stepK A c loc al bad ops o s fun s' => runText A c loc al bad ops l s' K

/-! ### a region whose order is drawn -/
inductive Kind where
  | pure | read | alloc | imp
  deriving DecidableEq

def kindOf (P : Program) (loc : List Nat) (al : List (Nat × Nat)) (o : Oper) : Kind :=
  match how loc al o with
  | .plain => match o.op with
    | .alloc _ | .box _ _ | .buildSlice .. | .makeMap .. | .makeSlice .. => .alloc
    | .convert s d _ => match P.underlying s, P.underlying d with
      | some .string, some (.slice _) => .alloc
      | _, some (.slice _) => .imp
      | some (.slice _), _ => .read
      | some (.int _), _ | some .string, _ | some (.float _), _ => .pure
      | _, _ => .imp
    | .load .. | .lookup .. | .slice .. => .read
    | .binOp op .. => match op with | .eql | .neq => .read | _ => .pure
    | .call x => match x.callee with
      | .builtin b => match b with
        | .len => .read
        | .max | .min | .complex | .real | .imag => .pure
        | _ => .imp
      | _ => .imp
    | .move _ | .assign _ | .pick .. | .build .. | .nilCheck _ | .unOp .. | .makeInterface .. | .makeFunc .. | .fieldAddr .. | .field .. | .indexAddr .. | .index .. | .extract .. => .pure
    | _ => .imp
  | _ => .pure

/-- comes operation i surely ahead of operation j? -/
def befB (bef : Array Nat) (i j : Nat) : Bool := (bef.getD j 0).testBit i

def chkHist {γ : Type} (A : Ans γ) (bef : Array Nat) (i : Nat) (rd : AHeap → Res AVal) (v : AVal) : List (Nat × AHeap) → γ → γ
  | [], K => K
  | (j, h) :: l, K => match befB bef j i with
    | true => chkHist A bef i rd v l K
    | false => A.chk (rd h) v (chkHist A bef i rd v l K)

def chkReads {γ : Type} (A : Ans γ) (bef : Array Nat) (i : Nat) (h : AHeap) : List (Nat × (AHeap → Res AVal) × AVal) → γ → γ
  | [], K => K
  | (j, rd, v) :: l, K => match befB bef j i with
    | true => chkReads A bef i h l K
    | false => A.chk (rd h) v (chkReads A bef i h l K)

/-- what an operation reads, at a heap -/
def readAt (c : Cfg) (bad : List Nat) (ops : Array Oper) (env : List AVal) (o : Oper) (h : AHeap) : Res AVal :=
  ifG ops env o (.tuple []) ((opR c bad env h o).bind fun r => .ok r.1)

def stepD {γ : Type} (A : Ans γ) (c : Cfg) (loc : List Nat) (al : List (Nat × Nat)) (bad : List Nat) (ops : Array Oper) (bef : Array Nat) (i : Nat) (o : Oper) (s : RS) (K : RS → γ) : γ :=
  match kindOf c.P loc al o with
  | .read => A.bnd (readAt c bad ops s.env o s.base) fun v =>
      chkHist A bef i (readAt c bad ops s.env o) v s.hist
        (K { s with env := putD s.env o v, reads := (i, readAt c bad ops s.env o, v) :: s.reads })
  | .imp => stepK A c loc al bad ops o s fun s' => chkReads A bef i s'.h s'.reads (K { s' with hist := (i, s.base) :: s'.hist, base := s'.h })
  | .pure => stepK A c loc al bad ops o s K
  | .alloc => match o.guard with
    | none => stepK A c loc al bad ops o s K
    | some _ => A.bnd (.err 203 : Res Unit) (fun _ => K s)

def runDraw {γ : Type} (A : Ans γ) (c : Cfg) (loc : List Nat) (al : List (Nat × Nat)) (bad : List Nat) (ops : Array Oper) (bef : Array Nat) : Nat → List Oper → RS → (RS → γ) → γ
  | _, [], s, K => K s
  | i, o :: l, s, K => stepD A c loc al bad ops bef i o s fun s' => runDraw A c loc al bad ops bef (i + 1) l s' K

/-! ### what a drawn region must be like -/
/-- the slots that an operation names -/
def namesOf (loc : List Nat) (al : List (Nat × Nat)) (ops : Array Oper) (o : Oper) : List Nat :=
  o.looksAt ops ++ match how loc al o with
    | .load_ _ s | .store_ _ s => [s]
    | _ => []

/-- the slots that an operation writes -/
def writesOf (loc : List Nat) (al : List (Nat × Nat)) (o : Oper) : List Nat :=
  o.dst.toList ++ match how loc al o with
    | .make d => aliasTo al d
    | .store_ _ s => [s]
    | _ => []

/-- the cell of the frame whose address alone an operation takes -/
def baseSlot (loc : List Nat) (al : List (Nat × Nat)) (o : Oper) : Option Nat :=
  match o.guard with
  | some _ => none
  | none => match how loc al o with
    | .alias_ t s => if t = s then some s else none
    | _ => none

def makesB (loc : List Nat) (al : List (Nat × Nat)) (o : Oper) : Bool :=
  match how loc al o with
  | .make _ => true
  | _ => false

/-- the slots whose contents an operation looks at -/
def namesX (loc : List Nat) (al : List (Nat × Nat)) (ops : Array Oper) (o : Oper) : List Nat :=
  match baseSlot loc al o with
  | some s => if ops.toList.any (makesB loc al) then namesOf loc al ops o else (namesOf loc al ops o).filter fun t => !(t == s)
  | none => namesOf loc al ops o

def apartB (a b : List Nat) : Bool := a.all fun t => !b.contains t

def regionOk (P : Program) (loc : List Nat) (ops : Array Oper) : Bool :=
  let bef := Region.before ops
  let al := aliasPairs loc ops.toList []
  let l := ops.toList.zipIdx
  (l.all fun x => x.1.after.all fun e => !Region.binds .any e || decide (e.on < x.2)) &&
  l.all fun x => l.all fun y => !decide (x.2 < y.2) || befB bef x.2 y.2 ||
    (apartB (writesOf loc al x.1) (namesX loc al ops y.1) && apartB (writesOf loc al x.1) (writesOf loc al y.1) && apartB (writesOf loc al y.1) (namesX loc al ops x.1) &&
     !(decide (kindOf P loc al x.1 = .imp) && decide (kindOf P loc al y.1 = .imp)) && !(decide (kindOf P loc al x.1 = .alloc) && decide (kindOf P loc al y.1 = .imp)))

/-! ### the whole -/
inductive AExit where
  | normal | ret
  | exit (id : Nat)
  | goto (l : Nat)

def clearOf (an : FnAnn) (id : Nat) : List Nat :=
  match an.clear.find? (·.1 == id) with
  | some x => x.2
  | none => []

def rs0 (env : List AVal) (h : AHeap) : RS := ⟨env, h, h, [], []⟩

def regionK {γ : Type} (A : Ans γ) (c : Cfg) (an : FnAnn) (id : Nat) (ops : Array Oper) (draw : Bool) (env : List AVal) (h : AHeap) (K : List AVal → AHeap → γ) : γ :=
  let al := aliasPairs an.locals ops.toList []
  let als := al.map (·.1)
  let fin := fun (s : RS) => K (clearAll (clearOf an id) (clearAll als s.env)) s.h
  match draw with
  | false => runText A c an.locals al (als ++ an.locals) ops ops.toList (rs0 env h) fin
  | true => runDraw A c an.locals al (als ++ an.locals) ops (Region.before ops) 0 ops.toList (rs0 env h) fin

/-- what a region must be like -/
def regOk (P : Program) (loc : List Nat) (ops : Array Oper) (draw : Bool) : Bool :=
  let al := aliasPairs loc ops.toList []
  ((ops.toList.all (opOk loc al)) && al.all fun p => loc.contains p.2) && (!draw || regionOk P loc ops)

/-- what code must be like -/
def codeOk (P : Program) (loc : List Nat) : Code → Bool
  | .seq a b => codeOk P loc a && codeOk P loc b
  | .cond _ a b => codeOk P loc a && codeOk P loc b
  | .block _ a => codeOk P loc a
  | .loop a => codeOk P loc a
  | .scope a => codeOk P loc a
  | .region _ ops draw => regOk P loc ops draw
  | _ => true

def sameRes (r : Res AVal) (v : AVal) : Bool :=
  match r with
  | .ok u => AVal.beq u v
  | .err _ => false

/-- steps that lead to an answer -/
def ansR (C : CallR) (α : Type) : Ans (Res α) where
  bnd := fun m K => m.bind K
  call := fun b f args h K => match b with
    | true => (C f args h).bind fun r => K r.1 r.2
    | false => K (.tuple []) h
  chk := fun r v K => match sameRes r v with
    | true => K
    | false => .err 202

def resultsR (c : Cfg) (loc : List Nat) (env : List AVal) (h : AHeap) : List ResultVar → Res (List AVal)
  | [] => .ok []
  | .tmp t :: l => (opnd loc env (.tmp t)).bind fun v => (resultsR c loc env h l).bind fun r => .ok (v :: r)
  | .cell a t :: l => (match loc.contains a with
      | true => (cellAt env a a).bind fun vo => partR c.P t vo.1 0
      | false => loadR c h t (nth env a)).bind fun v => (resultsR c loc env h l).bind fun r => .ok (v :: r)

def packR : List AVal → AVal
  | [v] => v
  | l => .tuple l

mutual
def exec (c : Cfg) : Nat → Nat → Code → List AVal → AHeap → Res (AExit × List AVal × AHeap)
  | 0, _, _, _, _ => .err 300
  | k + 1, f, code, env, h =>
    match code with
    | .skip | .label _ => .ok (.normal, env, h)
    | .seq a b => (exec c k f a env h).bind fun r => match r.1 with
      | .normal => exec c k f b r.2.1 r.2.2
      | e => .ok (e, r.2.1, r.2.2)
    | .cond x a b => (opnd (c.ann f).locals env x).bind fun v => match v with
      | .bool t => match t with
        | true => exec c k f a env h
        | false => exec c k f b env h
      | _ => .err 301
    | .block id a => (exec c k f a env h).bind fun r => match r.1 with
      | .exit id' => if id' = id then .ok (.normal, r.2.1, r.2.2) else .ok (.exit id', r.2.1, r.2.2)
      | e => .ok (e, r.2.1, r.2.2)
    | .loop a => (exec c k f a env h).bind fun r => match r.1 with
      | .normal => exec c k f (.loop a) r.2.1 r.2.2
      | e => .ok (e, r.2.1, r.2.2)
    | .scope a => scopeE c k f a a env h
    | .region id ops draw => regionK (ansR (callF c k) (AExit × List AVal × AHeap)) c (c.ann f) id ops draw env h fun env h => .ok (.normal, env, h)
    | .exit id => .ok (.exit id, env, h)
    | .goto l => .ok (.goto l, env, h)
    | .ret => .ok (.ret, env, h)
    | _ => .err 302
def scopeE (c : Cfg) : Nat → Nat → Code → Code → List AVal → AHeap → Res (AExit × List AVal × AHeap)
  | 0, _, _, _, _, _ => .err 303
  | k + 1, f, body, cur, env, h => (exec c k f cur env h).bind fun r => match r.1 with
    | .goto l => match findLabel body l with
      | some rest => scopeE c k f body rest r.2.1 r.2.2
      | none => .ok (.goto l, r.2.1, r.2.2)
    | e => .ok (e, r.2.1, r.2.2)
def callF (c : Cfg) : Nat → Nat → List AVal → AHeap → Res (AVal × AHeap)
  | 0, _, _, _ => .err 304
  | k + 1, f, args, h =>
    match c.prim f with
    | some g => g args h
    | none => match (c.ann f).ok, c.P.funcs[f]? with
      | true, some fn => match fn.body with
        | some code => (exec c k f code (args ++ List.replicate (fn.ntmps - args.length) .dead) h).bind fun r => match r.1 with
          | .normal | .ret => (resultsR c (c.ann f).locals r.2.1 r.2.2 fn.results.toList).bind fun vs => .ok (packR vs, r.2.2)
          | _ => .err 305
        | none => .err 306
      | _, _ => .err 307
end

end Go.Proofs.YtofnbldbggddmaaGreatDoor
namespace Go.Proofs.YtofnbldbggddmaaGreatDoor
open Go Go.RowKit

/-- where an object lies: its block, its first cell there, how many cells from there on, and the size of its elements -/
structure Ent where
  blk : Nat
  base : Nat
  K : Nat
  esz : Nat

abbrev Inj := Nat → Option Ent
abbrev RoMap := Nat → Option (Nat × Nat)

def oneC : Value → Bool
  | .agg _ | .tuple _ => false
  | _ => true

theorem oneC_eq (v : Value) : v.oneCell' = oneC v := by cases v <;> rfl

mutual
def VRel (ι : Inj) (ρ : RoMap) : AVal → Value → Prop
  | .dead, _ => True
  | .cell _, _ => False
  | .loc _ _, _ => False
  | .bool b, v => v = .bool b
  | .int k n, v => v = .int k n
  | .float k b, v => v = .float k b
  | .cplx k a b, v => v = .complex k a b
  | .str s, v => v = .string ⟨s.toArray⟩
  | .nilp, v => v = .pointer none
  | .ptr o off, v => ∃ e, ι o = some e ∧ v = .pointer (some ⟨e.blk, e.base + off, none⟩)
  | .rptr r off, v => ∃ e, ρ r = some e ∧ v = .pointer (some ⟨e.1, e.2 + off, none⟩)
  | .nils, v => v = .slice none 0 0
  | .sl o off len, v => ∃ e x cap, ι o = some e ∧ v = .slice (some ⟨e.blk, x, none⟩) len cap ∧ cap * e.esz + off = e.K ∧ len ≤ cap ∧ (x = e.base + off ∨ cap = 0)
  | .slc o off len cap, v => ∃ e x, ι o = some e ∧ v = .slice (some ⟨e.blk, x, none⟩) len cap ∧ len ≤ cap ∧ (x = e.base + off ∨ cap = 0)
  | .rsl r off len, v => ∃ e x cap, ρ r = some e ∧ v = .slice (some ⟨e.1, x, none⟩) len cap ∧ len ≤ cap ∧ (x = e.2 + off ∨ len = 0)
  | .nilm, v => v = .map none
  | .map o, v => ∃ e, ι o = some e ∧ v = .map (some e.blk)
  | .func f a b, v => ∃ a' b', v = .func (.func f) a' b' ∧ VRels ι ρ a a'.toList ∧ VRels ι ρ b b'.toList
  | .nilf, v => v = .nilFunc
  | .iface t x, v => ∃ y, v = .iface t y ∧ VRel ι ρ x y
  | .nili, v => v = .nilIface
  | .agg l, v => ∃ a, v = .agg a ∧ VRels ι ρ l a.toList ∧ ∀ x ∈ a.toList, oneC x = true
  | .tuple l, v => ∃ a, v = .tuple a ∧ VRels ι ρ l a.toList
def VRels (ι : Inj) (ρ : RoMap) : List AVal → List Value → Prop
  | [], l => l = []
  | a :: as, l => ∃ v vs, l = v :: vs ∧ VRel ι ρ a v ∧ VRels ι ρ as vs
end

def Sub (ι ι' : Inj) : Prop := ∀ o e, ι o = some e → ι' o = some e

theorem Sub.refl (ι : Inj) : Sub ι ι := fun _ _ h => h
theorem Sub.trans {a b c : Inj} (h : Sub a b) (k : Sub b c) : Sub a c := fun o e x => k o e (h o e x)

mutual
theorem VRel.mono {ι ι' : Inj} {ρ : RoMap} (hs : Sub ι ι') : ∀ (a : AVal) (v : Value), VRel ι ρ a v → VRel ι' ρ a v
  | .dead, _, _ => by simp [VRel]
  | .cell _, _, h => by simp [VRel] at h
  | .loc _ _, _, h => by simp [VRel] at h
  | .bool _, _, h => by simpa [VRel] using h
  | .int _ _, _, h => by simpa [VRel] using h
  | .float _ _, _, h => by simpa [VRel] using h
  | .cplx _ _ _, _, h => by simpa [VRel] using h
  | .str _, _, h => by simpa [VRel] using h
  | .nilp, _, h => by simpa [VRel] using h
  | .ptr _ _, _, h => by obtain ⟨e, he, r⟩ := h; exact ⟨e, hs _ _ he, r⟩
  | .rptr _ _, _, h => h
  | .nils, _, h => by simpa [VRel] using h
  | .sl _ _ _, _, h => by obtain ⟨e, x, cap, he, r⟩ := h; exact ⟨e, x, cap, hs _ _ he, r⟩
  | .slc _ _ _ _, _, h => by obtain ⟨e, x, he, r⟩ := h; exact ⟨e, x, hs _ _ he, r⟩
  | .rsl _ _ _, _, h => h
  | .nilm, _, h => by simpa [VRel] using h
  | .map _, _, h => by obtain ⟨e, he, r⟩ := h; exact ⟨e, hs _ _ he, r⟩
  | .func _ a b, _, h => by obtain ⟨a', b', r, h1, h2⟩ := h; exact ⟨a', b', r, VRels.mono hs a _ h1, VRels.mono hs b _ h2⟩
  | .nilf, _, h => by simpa [VRel] using h
  | .iface _ x, _, h => by obtain ⟨y, r, h1⟩ := h; exact ⟨y, r, VRel.mono hs x _ h1⟩
  | .nili, _, h => by simpa [VRel] using h
  | .agg l, _, h => by obtain ⟨a, r, h1, h2⟩ := h; exact ⟨a, r, VRels.mono hs l _ h1, h2⟩
  | .tuple l, _, h => by obtain ⟨a, r, h1⟩ := h; exact ⟨a, r, VRels.mono hs l _ h1⟩
theorem VRels.mono {ι ι' : Inj} {ρ : RoMap} (hs : Sub ι ι') : ∀ (l : List AVal) (vs : List Value), VRels ι ρ l vs → VRels ι' ρ l vs
  | [], _, h => h
  | a :: as, _, h => by obtain ⟨v, vs, r, h1, h2⟩ := h; exact ⟨v, vs, r, VRel.mono hs a v h1, VRels.mono hs as vs h2⟩
end

/-! ### lists of values -/
theorem VRels.length {ι : Inj} {ρ : RoMap} : ∀ {l : List AVal} {vs : List Value}, VRels ι ρ l vs → l.length = vs.length
  | [], _, h => by simp [VRels] at h; simp [h]
  | _ :: as, _, h => by obtain ⟨v, vs, rfl, _, h2⟩ := h; simp [VRels.length h2]

theorem VRels.get {ι : Inj} {ρ : RoMap} : ∀ {l : List AVal} {vs : List Value}, VRels ι ρ l vs → ∀ {j : Nat} {a : AVal}, l[j]? = some a → ∃ v, vs[j]? = some v ∧ VRel ι ρ a v
  | [], _, _, j, a, h => by simp at h
  | b :: as, _, h, j, a, hj => by
    obtain ⟨v, vs, rfl, h1, h2⟩ := h
    cases j with
    | zero => simp at hj; subst hj; exact ⟨v, by simp, h1⟩
    | succ j => simp at hj; obtain ⟨u, hu, hr⟩ := h2.get hj; exact ⟨u, by simpa using hu, hr⟩

theorem VRels.of_get {ι : Inj} {ρ : RoMap} : ∀ {l : List AVal} {vs : List Value}, l.length = vs.length → (∀ (j : Nat) (a : AVal), l[j]? = some a → ∃ v, vs[j]? = some v ∧ VRel ι ρ a v) → VRels ι ρ l vs
  | [], vs, hl, _ => by simp at hl; simp [VRels]; exact List.eq_nil_of_length_eq_zero hl.symm
  | a :: as, [], hl, _ => by simp at hl
  | a :: as, v :: vs, hl, h => by
    refine ⟨v, vs, rfl, ?_, VRels.of_get (by simpa using hl) ?_⟩
    · obtain ⟨u, hu, hr⟩ := h 0 a rfl; simp at hu; subst hu; exact hr
    · intro j b hb; obtain ⟨u, hu, hr⟩ := h (j + 1) b (by simpa using hb); exact ⟨u, by simpa using hu, hr⟩

theorem VRels.append {ι : Inj} {ρ : RoMap} : ∀ {l m : List AVal} {vs ws : List Value}, VRels ι ρ l vs → VRels ι ρ m ws → VRels ι ρ (l ++ m) (vs ++ ws)
  | [], m, _, ws, h, k => by simp [VRels] at h; subst h; simpa using k
  | a :: as, m, _, ws, h, k => by obtain ⟨v, vs, rfl, h1, h2⟩ := h; exact ⟨v, vs ++ ws, rfl, h1, h2.append k⟩

theorem VRels.take {ι : Inj} {ρ : RoMap} {l : List AVal} {vs : List Value} (h : VRels ι ρ l vs) (n : Nat) : VRels ι ρ (l.take n) (vs.take n) := by
  refine VRels.of_get (by simp [h.length]) fun j a hj => ?_
  rw [List.getElem?_take] at hj ⊢
  split at hj
  · rename_i hlt; simp only [hlt, if_true]; exact h.get hj
  · simp at hj

theorem VRels.drop {ι : Inj} {ρ : RoMap} {l : List AVal} {vs : List Value} (h : VRels ι ρ l vs) (n : Nat) : VRels ι ρ (l.drop n) (vs.drop n) := by
  refine VRels.of_get (by simp [h.length]) fun j a hj => ?_
  rw [List.getElem?_drop] at hj ⊢
  exact h.get hj

/-- what may stand in one cell is one cell -/
theorem VRel.one {ι : Inj} {ρ : RoMap} {a : AVal} {v : Value} (h : VRel ι ρ a v) (hc : a.isCell = true) : oneC v = true := by
  cases a <;> simp [AVal.isCell] at hc <;> simp only [VRel] at h
  all_goals first
    | (subst h; rfl)
    | (obtain ⟨_, _, rfl⟩ := h; rfl)
    | (obtain ⟨_, _, _, _, rfl, _⟩ := h; rfl)
    | (obtain ⟨_, _, _, rfl, _⟩ := h; rfl)
    | (obtain ⟨_, _, rfl, _⟩ := h; rfl)
    | (obtain ⟨_, rfl, _⟩ := h; rfl)

theorem VRel.cells {ι : Inj} {ρ : RoMap} {a : AVal} {v : Value} {cs : List AVal} (h : VRel ι ρ a v) (hc : cellsV a = .ok cs) :
    VRels ι ρ cs v.cells.toList ∧ ∀ x ∈ v.cells.toList, oneC x = true := by
  by_cases ha : ∃ l, a = .agg l
  · obtain ⟨l, rfl⟩ := ha
    simp [cellsV] at hc; subst hc
    obtain ⟨b, rfl, h1, h2⟩ := h
    exact ⟨h1, h2⟩
  · have hcell : a.isCell = true ∧ cs = [a] := by
      cases a <;> simp_all [cellsV, AVal.isCell]
    obtain ⟨hcell, rfl⟩ := hcell
    have ho := h.one hcell
    have hv : v.cells = #[v] := by cases v <;> simp_all [Value.cells, oneC]
    rw [hv]
    exact ⟨⟨v, [], rfl, h, rfl⟩, by simp [ho]⟩

/-! ### slots -/
theorem nth_eq (l : List AVal) (n : Nat) : nth l n = l[n]?.getD .dead := by
  induction l generalizing n with
  | nil => simp [nth]
  | cons a l ih => cases n <;> simp [nth, ih]

theorem setN_eq (l : List AVal) (n : Nat) (v : AVal) : setN l n v = l.set n v := by
  induction l generalizing n with
  | nil => simp [setN]
  | cons a l ih => cases n <;> simp [setN, ih]

theorem nth_setN (l : List AVal) (n m : Nat) (v : AVal) : nth (setN l n v) m = if n = m ∧ n < l.length then v else nth l m := by
  rw [nth_eq, nth_eq, setN_eq, List.getElem?_set]
  by_cases h : n = m
  · subst h
    by_cases h2 : n < l.length <;> simp [h2]
  · simp [h]

theorem length_setN (l : List AVal) (n : Nat) (v : AVal) : (setN l n v).length = l.length := by rw [setN_eq]; simp

theorem length_clearAll (ns : List Nat) (l : List AVal) : (clearAll ns l).length = l.length := by
  induction ns generalizing l with
  | nil => rfl
  | cons n ns ih => simp [clearAll, ih, length_setN]

theorem nth_clearAll (ns : List Nat) (l : List AVal) (m : Nat) : nth (clearAll ns l) m = .dead ∨ (nth (clearAll ns l) m = nth l m ∧ m ∉ ns) := by
  induction ns generalizing l with
  | nil => right; simp [clearAll]
  | cons n ns ih =>
    simp only [clearAll]
    rcases ih (setN l n .dead) with h | ⟨h, hm⟩
    · exact .inl h
    · rw [nth_setN] at h
      split at h
      · exact .inl h
      · rename_i hn
        by_cases hnm : n = m
        · subst hnm
          left
          rw [h, nth_eq]
          have : ¬ n < l.length := fun hl => hn ⟨rfl, hl⟩
          simp [Nat.not_lt.1 this]
        · exact .inr ⟨h, by simp [hm]; omega⟩

/-! ### objects -/
def ObjRel (ι : Inj) (ρ : RoMap) (w : World) (e : Ent) : AObj → Prop
  | .row esz fz vs => ∃ c T fr, w.heap[e.blk]? = some (.cells c T fr) ∧ e.esz = esz ∧ c.size = e.base + e.K ∧ vs.length ≤ e.K ∧ (fz = false → fr = (0, 0)) ∧
      (fr = (0, 0) ∨ c.size ≤ fr.1) ∧ (∀ v ∈ c.toList, oneC v = true) ∧ ∀ (j : Nat) (a : AVal), vs[j]? = some a → ∃ v, c[e.base + j]? = some v ∧ VRel ι ρ a v
  | .map es => ∃ ents clock, w.heap[e.blk]? = some (.map ents clock) ∧ ents.size = es.length ∧ e.base = 0 ∧
      ∀ (j : Nat) (x : AVal × AVal), es[j]? = some x → ∃ y : MapEntry, ents[j]? = some y ∧ VRel ι ρ x.1 y.key ∧ VRel ι ρ x.2 y.val
  | .bld T q => ∃ p v, w.heap[e.blk]? = some (.cells #[p, v] T (0, 0)) ∧ e.base = 0 ∧ (p = .pointer none ∨ p = .pointer (some ⟨e.blk, 0, none⟩)) ∧
      ((q = none ∧ v = .slice none 0 0) ∨ ∃ o n e' cap, q = some (o, n) ∧ ι o = some e' ∧ v = .slice (some ⟨e'.blk, 0, none⟩) n cap ∧ e'.K = cap ∧ n ≤ cap)
  | .buf T bs => ∃ c, w.heap[e.blk]? = some (.cells c T (0, 0)) ∧ e.base = 0 ∧ c.size = e.K ∧ bs.length ≤ e.K ∧ (∀ v ∈ c.toList, oneC v = true) ∧
      ∀ (j : Nat) (a : UInt8), bs[j]? = some a → c[j]? = some (.int .u8 a.toNat)

theorem ObjRel.mono {ι ι' : Inj} {ρ : RoMap} {w w' : World} {e : Ent} {x : AObj} (hs : Sub ι ι') (hw : w'.heap[e.blk]? = w.heap[e.blk]?) (h : ObjRel ι ρ w e x) : ObjRel ι' ρ w' e x := by
  cases x with
  | row esz fz vs =>
    obtain ⟨c, T, fr, h1, h2, h3, h4, h5, h6, h7, h8⟩ := h
    exact ⟨c, T, fr, by rw [hw, h1], h2, h3, h4, h5, h6, h7, fun j a hj => let ⟨v, hv, hr⟩ := h8 j a hj; ⟨v, hv, hr.mono hs⟩⟩
  | map es =>
    obtain ⟨ents, clock, h1, h2, h3, h4⟩ := h
    exact ⟨ents, clock, by rw [hw, h1], h2, h3, fun j x hj => let ⟨y, hy, hr, hr'⟩ := h4 j x hj; ⟨y, hy, hr.mono hs, hr'.mono hs⟩⟩
  | bld T q =>
    obtain ⟨p, v, h1, h2, h3, h4⟩ := h
    exact ⟨p, v, by rw [hw, h1], h2, h3, h4.imp id fun ⟨o, n, e', cap, g1, g2, g3⟩ => ⟨o, n, e', cap, g1, hs _ _ g2, g3⟩⟩
  | buf T bs =>
    obtain ⟨c, h1, h2⟩ := h
    exact ⟨c, by rw [hw, h1], h2⟩

theorem ObjRel.lt {ι : Inj} {ρ : RoMap} {w : World} {e : Ent} {x : AObj} (h : ObjRel ι ρ w e x) : e.blk < w.heap.size := by
  cases x with
  | row esz fz vs => obtain ⟨c, T, fr, h1, _⟩ := h; exact (Array.getElem?_eq_some_iff.1 h1).1
  | map es => obtain ⟨_, _, h1, _⟩ := h; exact (Array.getElem?_eq_some_iff.1 h1).1
  | bld T q => obtain ⟨_, _, h1, _⟩ := h; exact (Array.getElem?_eq_some_iff.1 h1).1
  | buf T bs => obtain ⟨_, h1, _⟩ := h; exact (Array.getElem?_eq_some_iff.1 h1).1

/-- the blocks that belong to the heap's objects -/
def Own (ι : Inj) (h : AHeap) (b : Nat) : Prop := ∃ o x e, h.get o = some x ∧ ι o = some e ∧ e.blk = b

/-- what is fixed through a run: the program's reading, the read-only memory, and where the call's own memory begins -/
structure Fix where
  c : Cfg
  ρ : RoMap
  w0 : World

def Fix.N (F : Fix) : Nat := F.w0.heap.size

structure Fix.Ok (F : Fix) : Prop where
  eqs : ∀ t, F.c.eqOk t = true → F.c.P.stoodInHeld t = false ∧ F.c.P.eqGuardType F.c.P.depth t = false
  glob : ∀ g, g < 1000000 → F.ρ g = some (g, 0)
  ro : ∀ r vs, F.c.ro r = some vs → ∃ e, F.ρ r = some e ∧ e.1 < F.N ∧ ∀ (j : Nat) (a : AVal), vs[j]? = some a → ∃ v, F.w0.cell? ⟨e.1, e.2 + j, none⟩ = some v ∧ oneC v = true ∧ VRel (fun _ => none) F.ρ a v

structure Rel (F : Fix) (ι : Inj) (h : AHeap) (w : World) : Prop where
  below : Below F.N F.w0 w
  obj : ∀ o x, h.get o = some x → ∃ e, ι o = some e ∧ F.N ≤ e.blk ∧ ObjRel ι F.ρ w e x
  inj : ∀ o o' x x' e e', h.get o = some x → h.get o' = some x' → ι o = some e → ι o' = some e' → e.blk = e'.blk → o = o'
  lt : ∀ o x, h.get o = some x → o < h.next

/-- what stays: all but some blocks -/
structure Keep (B : Nat → Prop) (w w' : World) : Prop where
  os : w'.os = w.os
  tape : w'.tape = w.tape
  output : w'.output = w.output
  size : w.heap.size ≤ w'.heap.size
  block : ∀ k, k < w.heap.size → ¬ B k → w'.heap[k]? = w.heap[k]?

theorem Keep.refl (B : Nat → Prop) (w : World) : Keep B w w := ⟨rfl, rfl, rfl, Nat.le_refl _, fun _ _ _ => rfl⟩

theorem Keep.trans {B B' : Nat → Prop} {a b c : World} (h : Keep B a b) (k : Keep B' b c) (hB : ∀ j, B' j → B j ∨ a.heap.size ≤ j) : Keep B a c :=
  ⟨k.os.trans h.os, k.tape.trans h.tape, k.output.trans h.output, Nat.le_trans h.size k.size, fun j hj hb =>
    (k.block j (Nat.lt_of_lt_of_le hj h.size) fun hb' => (hB j hb').elim hb (fun h => by omega)).trans (h.block j hj hb)⟩

theorem Keep.mono {B B' : Nat → Prop} {a b : World} (h : Keep B a b) (hB : ∀ j, j < a.heap.size → B j → B' j) : Keep B' a b :=
  ⟨h.os, h.tape, h.output, h.size, fun j hj hb => h.block j hj fun hx => hb (hB j hj hx)⟩

theorem Keep.below {B : Nat → Prop} {N : Nat} {w0 a b : World} (h : Keep B a b) (hb : Below N w0 a) (hN : N ≤ w0.heap.size) (hB : ∀ j, B j → N ≤ j) : Below N w0 b :=
  ⟨h.os.trans hb.os, h.tape.trans hb.tape, h.output.trans hb.output, Nat.le_trans hb.size h.size, fun j hj =>
    (h.block j (Nat.lt_of_lt_of_le (Nat.lt_of_lt_of_le hj hN) hb.size) fun hx => by have := hB j hx; omega).trans (hb.block j hj)⟩

/-- between two states of the heap: what new numbers there are, and how the blocks that belong to it grow -/
structure Step (ι : Inj) (h : AHeap) (w : World) (ι' : Inj) (h' : AHeap) (w' : World) : Prop where
  sub : Sub ι ι'
  dom : ∀ o : Nat, ι' o = none ∨ ι o = ι' o ∨ (h.next ≤ o ∧ o < h'.next)
  next : h.next ≤ h'.next
  keep : Keep (Own ι h) w w'
  own : ∀ b, Own ι' h' b → Own ι h b ∨ w.heap.size ≤ b

/-- no number that is to come has a place -/
def Fresh (ι : Inj) (lo hi : Nat) : Prop := ∀ o, lo ≤ o → o < hi → ι o = none

theorem Step.refl (ι : Inj) (h : AHeap) (w : World) : Step ι h w ι h w :=
  ⟨Sub.refl _, fun _ => .inr (.inl rfl), Nat.le_refl _, Keep.refl _ _, fun _ hb => .inl hb⟩

theorem Step.trans {ι₁ ι₂ ι₃ : Inj} {h₁ h₂ h₃ : AHeap} {w₁ w₂ w₃ : World} (a : Step ι₁ h₁ w₁ ι₂ h₂ w₂) (b : Step ι₂ h₂ w₂ ι₃ h₃ w₃) : Step ι₁ h₁ w₁ ι₃ h₃ w₃ := by
  refine ⟨a.sub.trans b.sub, fun o => ?_, Nat.le_trans a.next b.next, a.keep.trans b.keep a.own, fun k hk => ?_⟩
  · rcases b.dom o with h | h | h
    · exact .inl h
    · rcases a.dom o with h' | h' | h'
      · left; rw [← h]; exact h'
      · right; left; rw [h', h]
      · exact .inr (.inr ⟨h'.1, Nat.lt_of_lt_of_le h'.2 b.next⟩)
    · exact .inr (.inr ⟨Nat.le_trans a.next h.1, h.2⟩)
  · rcases b.own k hk with h | h
    · exact a.own k h
    · exact .inr (Nat.le_trans a.keep.size h)

theorem Fresh.left {ι : Inj} {a b c : Nat} (h : Fresh ι a c) (hb : b ≤ c) : Fresh ι a b := fun o h1 h2 => h o h1 (by omega)

theorem Step.fresh {ι₁ ι₂ : Inj} {h₁ h₂ : AHeap} {w₁ w₂ : World} {c : Nat} (a : Step ι₁ h₁ w₁ ι₂ h₂ w₂) (h : Fresh ι₁ h₁.next c) : Fresh ι₂ h₂.next c := by
  intro o h1 h2
  rcases a.dom o with h' | h' | h'
  · exact h'
  · rw [← h']; exact h o (Nat.le_trans a.next h1) h2
  · omega

theorem Rel.own_ge {F : Fix} {ι : Inj} {h : AHeap} {w : World} (r : Rel F ι h w) : ∀ b, Own ι h b → F.N ≤ b := by
  rintro b ⟨o, x, e, h1, h2, rfl⟩
  obtain ⟨e', h3, h4, _⟩ := r.obj o x h1
  rw [h2] at h3; cases h3; exact h4

theorem Rel.own_lt {F : Fix} {ι : Inj} {h : AHeap} {w : World} (r : Rel F ι h w) : ∀ b, Own ι h b → b < w.heap.size := by
  rintro b ⟨o, x, e, h1, h2, rfl⟩
  obtain ⟨e', h3, _, h4⟩ := r.obj o x h1
  rw [h2] at h3; cases h3; exact h4.lt

end Go.Proofs.YtofnbldbggddmaaGreatDoor
namespace Go.Proofs.YtofnbldbggddmaaGreatDoor
open Go Go.RowKit

/-! ### the heap by number -/
theorem Tr.get_setF {α : Type} : ∀ (f : Nat) (t : Tr α) (n : Nat) (x : Option α) (m : Nat), n < f → (Tr.setF f t n x).get m = if m = n then x else t.get m
  | 0, _, _, _, _, h => by omega
  | f + 1, .nil, n, x, m, h => by
    have e1 := Tr.get_setF f (.nil : Tr α) (n / 2) x (m / 2)
    have e2 := Tr.get_setF f (.nil : Tr α) (n / 2 - 1) x (m / 2 - 1)
    simp only [Tr.setF]
    by_cases hn : n = 0
    · subst hn; simp only [if_true, Tr.get]
      by_cases hm : m = 0
      · simp [hm]
      · simp only [hm, if_false]; split <;> rfl
    · simp only [hn, if_false]
      by_cases ho : n % 2 = 1
      · simp only [ho, if_true, Tr.get]
        rw [e1 (by omega)]
        by_cases hm : m = 0
        · subst hm; simp [Ne.symm hn]
        · simp only [hm, if_false]
          by_cases hmo : m % 2 = 1
          · simp only [hmo, if_true, Tr.get]
            have : (m / 2 = n / 2) = (m = n) := by apply propext; omega
            simp only [this]
          · simp only [hmo, if_false]
            rw [if_neg (by omega)]
      · simp only [ho, if_false, Tr.get]
        rw [e2 (by omega)]
        by_cases hm : m = 0
        · subst hm; simp [Ne.symm hn]
        · simp only [hm, if_false]
          by_cases hmo : m % 2 = 1
          · simp only [hmo, if_true]
            rw [if_neg (by omega)]
          · simp only [hmo, if_false, Tr.get]
            have : (m / 2 - 1 = n / 2 - 1) = (m = n) := by apply propext; omega
            simp only [this]
  | f + 1, .node v l r, n, x, m, h => by
    have e1 := Tr.get_setF f l (n / 2) x (m / 2)
    have e2 := Tr.get_setF f r (n / 2 - 1) x (m / 2 - 1)
    simp only [Tr.setF]
    by_cases hn : n = 0
    · subst hn; simp only [if_true, Tr.get]
      by_cases hm : m = 0
      · simp [hm]
      · simp [hm]
    · simp only [hn, if_false]
      by_cases ho : n % 2 = 1
      · simp only [ho, if_true, Tr.get]
        rw [e1 (by omega)]
        by_cases hm : m = 0
        · subst hm; simp [Ne.symm hn]
        · simp only [hm, if_false]
          by_cases hmo : m % 2 = 1
          · simp only [hmo, if_true]
            have : (m / 2 = n / 2) = (m = n) := by apply propext; omega
            simp only [this]
          · simp only [hmo, if_false]
            rw [if_neg (by omega)]
      · simp only [ho, if_false, Tr.get]
        rw [e2 (by omega)]
        by_cases hm : m = 0
        · subst hm; simp [Ne.symm hn]
        · simp only [hm, if_false]
          by_cases hmo : m % 2 = 1
          · simp only [hmo, if_true]
            rw [if_neg (by omega)]
          · simp only [hmo, if_false]
            have : (m / 2 - 1 = n / 2 - 1) = (m = n) := by apply propext; omega
            simp only [this]

theorem AHeap.get_set (h : AHeap) (o : Nat) (x : AObj) (p : Nat) : (h.set o x).get p = if p = o then some x else h.get p := by
  simp [AHeap.get, AHeap.set, Tr.get_setF]
theorem AHeap.get_del (h : AHeap) (o p : Nat) : (h.del o).get p = if p = o then none else h.get p := by
  simp [AHeap.get, AHeap.del, Tr.get_setF]
theorem AHeap.get_push (h : AHeap) (x : AObj) (p : Nat) : (h.push x).get p = if p = h.next then some x else h.get p := by
  simp [AHeap.get, AHeap.push, Tr.get_setF]
@[simp] theorem AHeap.next_set (h : AHeap) (o : Nat) (x : AObj) : (h.set o x).next = h.next := rfl
@[simp] theorem AHeap.next_del (h : AHeap) (o : Nat) : (h.del o).next = h.next := rfl
@[simp] theorem AHeap.next_push (h : AHeap) (x : AObj) : (h.push x).next = h.next + 1 := rfl

/-! ### new places -/
def upd (ι : Inj) (o : Nat) (e : Ent) : Inj := fun p => if p = o then some e else ι p

theorem upd_self (ι : Inj) (o : Nat) (e : Ent) : upd ι o e o = some e := by simp [upd]
theorem upd_sub {ι : Inj} {o : Nat} (e : Ent) (h : ι o = none) : Sub ι (upd ι o e) := by
  intro p f hp
  unfold upd
  split
  · rename_i h'; rw [h', h] at hp; cases hp
  · exact hp

/-- a new block, and an object that lies there -/
theorem Rel.push {F : Fix} {ι : Inj} {h : AHeap} {w : World} (r : Rel F ι h w) (fr : Fresh ι h.next (h.next + 1)) (ob : Obj) (x : AObj) (e : Ent)
    (he : e.blk = w.heap.size) (hx : ObjRel (upd ι h.next e) F.ρ { w with heap := w.heap.push ob } e x) :
    Rel F (upd ι h.next e) (h.push x) { w with heap := w.heap.push ob } ∧ Step ι h w (upd ι h.next e) (h.push x) { w with heap := w.heap.push ob } := by
  have hnone : ι h.next = none := fr _ (Nat.le_refl _) (Nat.lt_succ_self _)
  have hs := upd_sub e hnone
  have hold : ∀ k, k < w.heap.size → ({ w with heap := w.heap.push ob } : World).heap[k]? = w.heap[k]? := by
    intro k hk; simp [Array.getElem?_push, Nat.ne_of_lt hk]
  have hkeep : Keep (Own ι h) w { w with heap := w.heap.push ob } := ⟨rfl, rfl, rfl, by simp, fun k hk _ => hold k hk⟩
  have hobj : ∀ o y, (h.push x).get o = some y → (o = h.next ∧ y = x) ∨ (o ≠ h.next ∧ h.get o = some y) := by
    intro o y ho
    rw [AHeap.get_push] at ho
    split at ho
    · left; simp_all
    · right; exact ⟨by assumption, ho⟩
  refine ⟨⟨hkeep.below r.below (Nat.le_refl _) r.own_ge, ?_, ?_, ?_⟩, ⟨hs, ?_, by simp, hkeep, ?_⟩⟩
  · intro o y ho
    rcases hobj o y ho with ⟨rfl, rfl⟩ | ⟨hne, ho'⟩
    · refine ⟨e, upd_self _ _ _, ?_, hx⟩
      rw [he]; exact r.below.size
    · obtain ⟨f, h1, h2, h3⟩ := r.obj o y ho'
      refine ⟨f, by simp [upd, hne, h1], h2, h3.mono hs (hold _ h3.lt)⟩
  · intro o o' y y' f f' h1 h2 h3 h4 h5
    rcases hobj o y h1 with ⟨rfl, rfl⟩ | ⟨hne, h1'⟩ <;> rcases hobj o' y' h2 with ⟨h6, h7⟩ | ⟨hne', h2'⟩
    · exact h6.symm
    · exfalso
      obtain ⟨g, g1, _, g3⟩ := r.obj o' y' h2'
      simp [upd, hne', g1] at h4; subst h4
      simp [upd] at h3; subst h3
      have := g3.lt; omega
    · exfalso
      obtain ⟨g, g1, _, g3⟩ := r.obj o y h1'
      subst h6
      simp [upd, hne, g1] at h3; subst h3
      simp [upd] at h4; subst h4
      have := g3.lt; omega
    · simp [upd, hne] at h3
      simp [upd, hne'] at h4
      exact r.inj o o' y y' f f' h1' h2' h3 h4 h5
  · intro o y ho
    rcases hobj o y ho with ⟨rfl, rfl⟩ | ⟨_, ho'⟩
    · simp
    · have := r.lt o y ho'; simp; omega
  · intro o
    by_cases ho : o = h.next
    · subst ho; right; right; simp
    · right; left; simp [upd, ho]
  · rintro b ⟨o, y, f, h1, h2, rfl⟩
    rcases hobj o y h1 with ⟨rfl, rfl⟩ | ⟨hne, h1'⟩
    · right; simp [upd] at h2; subst h2; omega
    · left; exact ⟨o, y, f, h1', by simpa [upd, hne] using h2, rfl⟩

/-- an object is another one now -/
theorem Rel.set {F : Fix} {ι : Inj} {h : AHeap} {w w' : World} (r : Rel F ι h w) {o : Nat} {x : AObj} {e : Ent} (y : AObj) (ho : h.get o = some x) (he : ι o = some e)
    (hk : Keep (fun b => b = e.blk) w w') (hy : ObjRel ι F.ρ w' e y) : Rel F ι (h.set o y) w' ∧ Step ι h w ι (h.set o y) w' := by
  obtain ⟨e', h1, h2, h3⟩ := r.obj o x ho
  rw [he] at h1; cases h1
  have hkeep : Keep (Own ι h) w w' := hk.mono fun j _ hj => ⟨o, x, e, ho, he, hj.symm⟩
  have hobj : ∀ p z, (h.set o y).get p = some z → (p = o ∧ z = y) ∨ (p ≠ o ∧ h.get p = some z) := by
    intro p z hp
    rw [AHeap.get_set] at hp
    split at hp
    · left; simp_all
    · right; exact ⟨by assumption, hp⟩
  refine ⟨⟨hkeep.below r.below (Nat.le_refl _) r.own_ge, ?_, ?_, ?_⟩, ⟨Sub.refl _, fun p => .inr (.inl rfl), by simp, hkeep, ?_⟩⟩
  · intro p z hp
    rcases hobj p z hp with ⟨rfl, rfl⟩ | ⟨hne, hp'⟩
    · exact ⟨e, he, h2, hy⟩
    · obtain ⟨f, f1, f2, f3⟩ := r.obj p z hp'
      refine ⟨f, f1, f2, f3.mono (Sub.refl _) (hk.block _ f3.lt fun hb => ?_)⟩
      exact hne (r.inj p o z x f e hp' ho f1 he hb)
  · intro p p' z z' f f' a1 a2 a3 a4 a5
    rcases hobj p z a1 with ⟨rfl, rfl⟩ | ⟨_, a1'⟩ <;> rcases hobj p' z' a2 with ⟨h6, h7⟩ | ⟨_, a2'⟩
    · exact h6.symm
    · exact r.inj _ _ _ _ _ _ ho a2' a3 a4 a5
    · subst h6; exact r.inj _ _ _ _ _ _ a1' ho a3 a4 a5
    · exact r.inj _ _ _ _ _ _ a1' a2' a3 a4 a5
  · intro p z hp
    rcases hobj p z hp with ⟨rfl, rfl⟩ | ⟨_, hp'⟩
    · exact r.lt _ _ ho
    · exact r.lt _ _ hp'
  · rintro b ⟨p, z, f, a1, a2, rfl⟩
    left
    rcases hobj p z a1 with ⟨rfl, rfl⟩ | ⟨_, a1'⟩
    · exact ⟨_, x, f, ho, a2, rfl⟩
    · exact ⟨p, z, f, a1', a2, rfl⟩

/-- the heap's reading does not hang on how much was drawn -/
theorem Rel.drawn {F : Fix} {ι : Inj} {h : AHeap} {w : World} (r : Rel F ι h w) (n : Nat) : Rel F ι h { w with drawn := n } :=
  ⟨⟨r.below.os, r.below.tape, r.below.output, r.below.size, r.below.block⟩, fun o x ho => let ⟨e, h1, h2, h3⟩ := r.obj o x ho; ⟨e, h1, h2, h3.mono (Sub.refl _) rfl⟩, r.inj, r.lt⟩
theorem Step.drawn (ι : Inj) (h : AHeap) (w : World) (n : Nat) : Step ι h w ι h { w with drawn := n } :=
  ⟨Sub.refl _, fun _ => .inr (.inl rfl), Nat.le_refl _, ⟨rfl, rfl, rfl, Nat.le_refl _, fun _ _ _ => rfl⟩, fun _ hb => .inl hb⟩

/-- an object goes -/
theorem Rel.del {F : Fix} {ι : Inj} {h : AHeap} {w : World} (r : Rel F ι h w) (o : Nat) : Rel F ι (h.del o) w := by
  have hobj : ∀ p z, (h.del o).get p = some z → h.get p = some z := by
    intro p z hp; rw [AHeap.get_del] at hp; split at hp
    · cases hp
    · exact hp
  exact ⟨r.below, fun p z hp => r.obj p z (hobj p z hp), fun p p' z z' e e' h1 h2 => r.inj p p' z z' e e' (hobj _ _ h1) (hobj _ _ h2), fun p z hp => r.lt p z (hobj p z hp)⟩

theorem Own.del {ι : Inj} {h : AHeap} {o b : Nat} (hb : Own ι (h.del o) b) : Own ι h b := by
  obtain ⟨p, z, e, h1, h2, h3⟩ := hb
  rw [AHeap.get_del] at h1; split at h1
  · cases h1
  · exact ⟨p, z, e, h1, h2, h3⟩

/-! ### runs -/
variable {P : Program}

theorem add_none (b o n : Nat) : (⟨b, o, none⟩ : Addr).add n = ⟨b, o + n, none⟩ := by unfold Addr.add; split <;> simp_all

theorem run_typeInfo' {t : Nat} {i : TypeInfo} (h : P.info? t = some i) (w : World) : (typeInfo t).run P w = .ok i w := by simp [typeInfo, h]
theorem run_sizeOf' {t : Nat} {i : TypeInfo} (h : P.info? t = some i) (w : World) : (sizeOf t).run P w = .ok i.size w := by simp [sizeOf, run_typeInfo' h]
theorem run_und {t : Nat} {d : TypeDesc} (h : P.underlying t = some d) (w : World) : (underlying t).run P w = .ok d w := by simp [underlying, h]
theorem run_isAgg' {t : Nat} {d : TypeDesc} (h : P.underlying t = some d) (w : World) : (isAgg t).run P w = .ok (isAggD d) w := by
  simp only [isAgg, Sem.run_bind, run_und h, Result.andThen_ok]
  cases d <;> rfl
theorem run_zero {t : Nat} {i : TypeInfo} {z : Value} (h : P.info? t = some i) (hz : i.zero = some z) (w : World) : (zeroValue t).run P w = .ok z w := by
  simp [zeroValue, run_typeInfo' h, hz]

theorem infoR_ok {t : Nat} {i : TypeInfo} (h : infoR P t = .ok i) : P.info? t = some i := by
  unfold infoR ofOpt at h; split at h <;> simp_all
theorem undR_ok {t : Nat} {d : TypeDesc} (h : undR P t = .ok d) : P.underlying t = some d := by
  unfold undR ofOpt at h; split at h <;> simp_all
theorem Res.bind_ok {α β : Type} {m : Res α} {f : α → Res β} {b : β} (h : m.bind f = .ok b) : ∃ a, m = .ok a ∧ f a = .ok b := by
  cases m with
  | ok a => exact ⟨a, rfl, h⟩
  | err n => simp [Res.bind] at h
theorem ofOpt_ok {α : Type} {n : Nat} {x : Option α} {a : α} (h : ofOpt n x = .ok a) : x = some a := by
  cases x <;> simp_all [ofOpt]
theorem sizeR_ok {t n : Nat} (h : sizeR P t = .ok n) : ∃ i, P.info? t = some i ∧ i.size = n := by
  obtain ⟨i, h1, h2⟩ := Res.bind_ok h; cases h2; exact ⟨i, infoR_ok h1, rfl⟩
theorem run_size {t n : Nat} (h : sizeR P t = .ok n) (w : World) : (sizeOf t).run P w = .ok n w := by
  obtain ⟨i, h1, rfl⟩ := sizeR_ok h; exact run_sizeOf' h1 w
theorem isAggR_ok {t : Nat} {b : Bool} (h : isAggR P t = .ok b) (w : World) : (isAgg t).run P w = .ok b w := by
  obtain ⟨d, h1, h2⟩ := Res.bind_ok h; cases h2; exact run_isAgg' (undR_ok h1) w
theorem nthR_ok {l : List AVal} {n : Nat} {a : AVal} (h : nthR l n = .ok a) : l[n]? = some a := by
  induction l generalizing n with
  | nil => simp [nthR] at h
  | cons b l ih => cases n with
    | zero => simp [nthR] at h; simp [h]
    | succ n => simp [nthR] at h; simpa using ih h
theorem takeR_ok {l cs : List AVal} {off n : Nat} (h : takeR l off n = .ok cs) : off + n ≤ l.length ∧ cs = (l.drop off).take n := by
  unfold takeR at h; split at h
  · cases h; exact ⟨by assumption, rfl⟩
  · cases h
theorem overR_ok {l cs r : List AVal} {off : Nat} (h : overR l off cs = .ok r) : off + cs.length ≤ l.length ∧ r = l.take off ++ cs ++ l.drop (off + cs.length) := by
  unfold overR at h; split at h
  · cases h; exact ⟨by assumption, rfl⟩
  · cases h

/-- cells that are there, and what they stand for -/
def CellsAt (ι : Inj) (ρ : RoMap) (w : World) (b x : Nat) (vs : List AVal) : Prop :=
  ∀ (j : Nat) (a : AVal), vs[j]? = some a → ∃ v, w.cell? ⟨b, x + j, none⟩ = some v ∧ oneC v = true ∧ VRel ι ρ a v

theorem CellsAt.sub {ι : Inj} {ρ : RoMap} {w : World} {b x : Nat} {vs : List AVal} (h : CellsAt ι ρ w b x vs) (off n : Nat) : CellsAt ι ρ w b (x + off) ((vs.drop off).take n) := by
  intro j a hj
  rw [List.getElem?_take] at hj
  split at hj
  · rw [List.getElem?_drop] at hj
    obtain ⟨v, h1, h2⟩ := h _ _ hj
    exact ⟨v, by rw [Nat.add_assoc]; exact h1, h2⟩
  · cases hj

/-- a list of cells read -/
theorem CellsAt.load {ι : Inj} {ρ : RoMap} {w : World} {b x : Nat} {vs : List AVal} (h : CellsAt ι ρ w b x vs) :
    ∃ cs : List Value, (loadCells ⟨b, x, none⟩ vs.length).run P w = .ok cs.toArray w ∧ VRels ι ρ vs cs ∧ ∀ v ∈ cs, oneC v = true := by
  have hex : ∃ cs : List Value, cs.length = vs.length ∧ (∀ (j : Nat) (v : Value), cs[j]? = some v → w.cell? ⟨b, x + j, none⟩ = some v) ∧ VRels ι ρ vs cs ∧ ∀ v ∈ cs, oneC v = true := by
    induction vs generalizing x with
    | nil => exact ⟨[], rfl, by simp, rfl, by simp⟩
    | cons a as ih =>
      obtain ⟨v, h1, h2, h3⟩ := h 0 a rfl
      obtain ⟨cs, c1, c2, c3, c4⟩ := ih (x := x + 1) (fun j a' hj => by
        obtain ⟨u, u1, u2⟩ := h (j + 1) a' (by simpa using hj)
        exact ⟨u, by rw [show x + 1 + j = x + (j + 1) by omega]; exact u1, u2⟩)
      refine ⟨v :: cs, by simp [c1], ?_, ⟨v, cs, rfl, h3, c3⟩, ?_⟩
      · intro j u hj
        cases j with
        | zero => simp at hj; subst hj; simpa using h1
        | succ j => have := c2 j u (by simpa using hj); rw [show x + (j + 1) = x + 1 + j by omega]; exact this
      · intro u hu; rcases List.mem_cons.1 hu with rfl | hu
        · exact h2
        · exact c4 u hu
  obtain ⟨cs, c1, c2, c3, c4⟩ := hex
  refine ⟨cs, ?_, c3, c4⟩
  have := run_loadCells_list (P := P) (w := w) ⟨b, x, none⟩ cs (fun j v hj => by rw [add_none]; exact c2 j v hj)
  rw [c1] at this
  exact this

/-- a value of a type read -/
theorem CellsAt.loadVar {ι : Inj} {ρ : RoMap} {w : World} {b x t off : Nat} {vs : List AVal} {a : AVal} (h : CellsAt ι ρ w b x vs) (hp : partR P t vs off = .ok a) :
    ∃ v, (loadVar t ⟨b, x + off, none⟩).run P w = .ok v w ∧ VRel ι ρ a v := by
  obtain ⟨ag, h1, h2⟩ := Res.bind_ok hp
  cases ag with
  | true =>
    obtain ⟨n, h3, h4⟩ := Res.bind_ok h2
    obtain ⟨cs, h5, h6⟩ := Res.bind_ok h4
    cases h6
    obtain ⟨h7, rfl⟩ := takeR_ok h5
    obtain ⟨c, c1, c2, c3⟩ := (h.sub off n).load (P := P)
    have hl : ((vs.drop off).take n).length = n := by simp; omega
    rw [hl] at c1
    refine ⟨.agg c.toArray, ?_, ⟨_, rfl, by simpa using c2, by simpa using c3⟩⟩
    simp [Go.loadVar, isAggR_ok h1, run_size h3, c1]
  | false =>
    have h3 := nthR_ok h2
    obtain ⟨v, h4, h5, h6⟩ := h off a h3
    exact ⟨v, by simp [Go.loadVar, isAggR_ok h1, h4], h6⟩

/-- the part of a value -/
theorem part_ok {ι : Inj} {ρ : RoMap} {w : World} {t off : Nat} {vs : List AVal} {cs : Array Value} {a : AVal} (h : VRels ι ρ vs cs.toList) (ho : ∀ v ∈ cs.toList, oneC v = true)
    (hp : partR P t vs off = .ok a) : ∃ v, (part t cs off).run P w = .ok v w ∧ VRel ι ρ a v := by
  obtain ⟨ag, h1, h2⟩ := Res.bind_ok hp
  cases ag with
  | true =>
    obtain ⟨n, h3, h4⟩ := Res.bind_ok h2
    obtain ⟨l, h5, h6⟩ := Res.bind_ok h4
    cases h6
    obtain ⟨h7, rfl⟩ := takeR_ok h5
    refine ⟨.agg (cs.extract off (off + n)), by simp [part, isAggR_ok h1, run_size h3], ⟨_, rfl, ?_, ?_⟩⟩
    · have := (h.drop off).take n
      simpa [Array.toList_extract, List.extract_eq_take_drop] using this
    · intro x hx
      apply ho
      simp [Array.toList_extract, List.extract_eq_take_drop] at hx
      exact List.mem_of_mem_drop (List.mem_of_mem_take hx)
  | false =>
    obtain ⟨v, h4, h5⟩ := h.get (nthR_ok h2)
    have : cs[off]? = some v := by simpa using h4
    exact ⟨v, by simp [part, isAggR_ok h1, this], h5⟩

/-- cells written -/
theorem run_storeCells' (g o : Nat) (T : TypeId) (fr : Nat × Nat) : ∀ (vs : List Value) (i : Nat) (cur : Array Value) (w : World), w.heap[g]? = some (.cells cur T fr) →
    (fr.2 ≤ fr.1 ∨ cur.size ≤ fr.1) → o + i + vs.length ≤ cur.size → (∀ v ∈ vs, oneC v = true) →
    (storeCells ⟨g, o, none⟩ vs i).run P w = .ok () (w.setRow g (cur.toList.take (o + i) ++ vs ++ cur.toList.drop (o + i + vs.length)).toArray)
  | [], i, cur, w, hg, _, _, _ => by
    simp only [storeCells, List.append_nil, List.length_nil, Nat.add_zero, List.take_append_drop, Array.toArray_toList]
    rw [setRow_self w g cur T fr hg]
    rfl
  | v :: rest, i, cur, w, hg, hf, hl, h1 => by
    have hi : o + i < cur.size := by simp at hl; omega
    have hcell : w.cell? ⟨g, o + i, none⟩ = some cur[o + i] := by simp [World.cell?, hg, hi]
    have hfro : w.frozen? ⟨g, o + i, none⟩ = false := by
      simp only [World.frozen?, hg]
      rcases hf with hf | hf
      · simp; omega
      · simp; omega
    have hst : (store ((⟨g, o, none⟩ : Addr).add i) v).run P w = .ok () (w.setRow g (cur.setIfInBounds (o + i) v)) := by
      rw [add_none, run_store P w _ v _ (by rw [oneC_eq]; exact h1 v (by simp)), hcell]
      simp [hfro, setCell_eq_setRow w g (o + i) cur T fr v hg]
    have ih := run_storeCells' g o T fr rest (i + 1) (cur.setIfInBounds (o + i) v) (w.setRow g (cur.setIfInBounds (o + i) v)) (setRow_heap w g cur _ T fr hg) (by simpa using hf) (by simp at hl ⊢; omega) (fun x hx => h1 x (by simp [hx]))
    simp only [storeCells, Sem.run_bind, hst, Result.andThen_ok, ih, setRow_setRow]
    congr 3
    have e := list_seg_step cur.toList (o + i) v rest (by simp at hl ⊢; omega)
    simpa [Array.toList_setIfInBounds, Nat.add_assoc] using e

theorem Keep.setRow (w : World) (g : Nat) (cs : Array Value) : Keep (fun b => b = g) w (w.setRow g cs) :=
  ⟨rfl, rfl, rfl, by simp, fun k _ hk => setRow_other w g k cs hk⟩

/-- a row, written from a place on -/
theorem ObjRel.over {ι : Inj} {ρ : RoMap} {w : World} {e : Ent} {esz : Nat} {fz : Bool} {vs cs vs' : List AVal} {off : Nat} {us : List Value} (h : ObjRel ι ρ w e (.row esz fz vs))
    (hov : overR vs off cs = .ok vs') (hu : VRels ι ρ cs us) (h1 : ∀ v ∈ us, oneC v = true) :
    ∃ row, (storeCells ⟨e.blk, e.base + off, none⟩ us 0).run P w = .ok () (w.setRow e.blk row) ∧ ObjRel ι ρ (w.setRow e.blk row) e (.row esz fz vs') := by
  obtain ⟨c, T, fr, a1, a2, a3, a4, a5, a6, a7, a8⟩ := h
  obtain ⟨b1, rfl⟩ := overR_ok hov
  have hlen := hu.length
  have hle : e.base + off + 0 + us.length ≤ c.size := by omega
  refine ⟨_, run_storeCells' e.blk (e.base + off) T fr us 0 c w a1 (a6.imp (fun h => by rw [h]; exact Nat.le_refl _) id) hle h1, ?_⟩
  refine ⟨_, T, fr, setRow_heap w e.blk c _ T fr a1, a2, ?_, ?_, a5, ?_, ?_, ?_⟩
  · simp; omega
  · simp; omega
  · simpa [Nat.min_eq_left (show e.base + off ≤ c.size by omega), show e.base + off + (us.length + (c.size - (e.base + off + us.length))) = c.size by omega] using a6
  · intro v hv
    simp at hv
    rcases hv with hv | hv | hv
    · exact a7 v (List.mem_of_mem_take hv)
    · exact h1 v hv
    · exact a7 v (List.mem_of_mem_drop hv)
  · intro j a hj
    simp only [Nat.add_zero, List.getElem?_toArray]
    rw [List.append_assoc, List.getElem?_append] at hj ⊢
    have hto : (vs.take off).length = off := by simp; omega
    have hto' : (c.toList.take (e.base + off)).length = e.base + off := by simp; omega
    rw [hto] at hj; rw [hto']
    by_cases hjo : j < off
    · simp only [hjo, if_true] at hj
      simp only [show e.base + j < e.base + off by omega, if_true]
      rw [List.getElem?_take] at hj ⊢
      simp only [hjo, show e.base + j < e.base + off by omega, if_true] at hj ⊢
      simpa using a8 j a hj
    · simp only [hjo, if_false] at hj
      simp only [show ¬ e.base + j < e.base + off by omega, if_false]
      rw [List.getElem?_append] at hj ⊢
      by_cases hjc : j - off < cs.length
      · simp only [hjc, if_true] at hj
        simp only [show e.base + j - (e.base + off) < us.length by omega, if_true]
        obtain ⟨v, v1, v2⟩ := hu.get hj
        exact ⟨v, by rw [show e.base + j - (e.base + off) = j - off by omega]; exact v1, v2⟩
      · simp only [hjc, if_false] at hj
        simp only [show ¬ e.base + j - (e.base + off) < us.length by omega, if_false]
        rw [List.getElem?_drop] at hj ⊢
        have e1 : off + cs.length + (j - off - cs.length) = j := by omega
        have e2 : e.base + off + us.length + (e.base + j - (e.base + off) - us.length) = e.base + j := by omega
        rw [e1] at hj; rw [e2]
        simpa using a8 j a hj

end Go.Proofs.YtofnbldbggddmaaGreatDoor
namespace Go.Proofs.YtofnbldbggddmaaGreatDoor
open Go Go.RowKit

theorem ba_list (s : List UInt8) : (⟨s.toArray⟩ : ByteArray).toList = s := by
  rw [ByteArray.toList_eq]
theorem ba_size (s : List UInt8) : (⟨s.toArray⟩ : ByteArray).size = s.length := by simp [ByteArray.size]
theorem ba_append (s t : List UInt8) : (⟨s.toArray⟩ ++ ⟨t.toArray⟩ : ByteArray) = ⟨(s ++ t).toArray⟩ := by
  apply ByteArray.ext; simp
theorem ba_beq (s t : List UInt8) : ((⟨s.toArray⟩ : ByteArray) == ⟨t.toArray⟩) = (s == t) := by
  show ((s.toArray == t.toArray) : Bool) = _
  simp
theorem ba_get (s : List UInt8) (n : Nat) : (⟨s.toArray⟩ : ByteArray)[n]? = s[n]? := by
  simp [getElem?_def, ByteArray.getElem_eq_getElem_data, ba_size]
theorem ba_extract (s : List UInt8) (a b : Nat) : (⟨s.toArray⟩ : ByteArray).extract a b = ⟨((s.take b).drop a).toArray⟩ := by
  apply ByteArray.ext; simp [ByteArray.data_extract, List.extract_eq_take_drop, List.drop_take]

section
variable {P : Program} {ι : Inj} {ρ : RoMap} {w : World}

theorem intBin_ok {op : BinOp} {k : IntKind} {a b : Int} {r : AVal} (h : intBin op k a b = .ok r) (xt : Nat) :
    ∃ v, (binOp op xt (.int k a) (.int k b)).run P w = .ok v w ∧ VRel ι ρ r v := by
  cases op <;> simp only [intBin] at h
  case quo => split at h <;> cases h; rename_i hb; exact ⟨_, by simp [binOp, Op.intDiv, hb], rfl⟩
  case rem => split at h <;> cases h; rename_i hb; exact ⟨_, by simp [binOp, Op.intDiv, hb], rfl⟩
  all_goals cases h
  all_goals exact ⟨_, by simp [binOp, Op.intArith, Op.intBits, Op.intCmp], rfl⟩

theorem shift_ok {op : BinOp} {k k' : IntKind} {a b : Int} {r : AVal} (h : shiftBin op k a b = .ok r) (xt : Nat) :
    ∃ v, (binOp op xt (.int k a) (.int k' b)).run P w = .ok v w ∧ VRel ι ρ r v := by
  unfold shiftBin at h
  split at h
  · cases h
  · rename_i hb
    cases op <;> simp only at h <;> cases h
    all_goals exact ⟨_, by simp [binOp, Op.shift, hb], rfl⟩

theorem str_ok {op : BinOp} {a b : List UInt8} {r : AVal} (h : strBin op a b = .ok r) (xt : Nat) :
    ∃ v, (binOp op xt (.string ⟨a.toArray⟩) (.string ⟨b.toArray⟩)).run P w = .ok v w ∧ VRel ι ρ r v := by
  cases op <;> simp only [strBin] at h
  case add =>
    split at h <;> cases h; rename_i hb
    exact ⟨_, by simp only [binOp, Op.stringOp, ba_size, if_neg hb, ba_append, Sem.run_pure], rfl⟩
  all_goals cases h
  all_goals exact ⟨_, by simp only [binOp, Op.stringOp, ba_list, Sem.run_pure], rfl⟩

theorem float_ok {op : BinOp} {k : FloatKind} {a b : Nat} {r : AVal} (h : floatBin op k a b = .ok r) (xt : Nat) :
    ∃ v, (binOp op xt (.float k a) (.float k b)).run P w = .ok v w ∧ VRel ι ρ r v := by
  cases op <;> simp only [floatBin] at h
  case add => obtain ⟨z, hz, h⟩ := Res.bind_ok h; cases h; exact ⟨_, by simp [binOp, Op.floatArith, ofOpt_ok hz], rfl⟩
  case sub => obtain ⟨z, hz, h⟩ := Res.bind_ok h; cases h; exact ⟨_, by simp [binOp, Op.floatArith, ofOpt_ok hz], rfl⟩
  case mul => obtain ⟨z, hz, h⟩ := Res.bind_ok h; cases h; exact ⟨_, by simp [binOp, Op.floatArith, ofOpt_ok hz], rfl⟩
  case quo => obtain ⟨z, hz, h⟩ := Res.bind_ok h; cases h; exact ⟨_, by simp [binOp, Op.floatArith, ofOpt_ok hz], rfl⟩
  all_goals cases h
  all_goals exact ⟨_, by simp [binOp, Op.floatCmp], rfl⟩

theorem run_arith {op : BinOp} {k : FloatKind} {a b r : Nat} (h : (Op.floatArith op k a b).run P w = .ok (.float k r) w) : (Op.Complex.arith op k a b).run P w = .ok r w := by
  simp [Op.Complex.arith, h]

theorem cplx_ok {op : BinOp} {k : FloatKind} {a b c d : Nat} {r : AVal} (h : cplxBin op k a b c d = .ok r) (xt : Nat) :
    ∃ v, (binOp op xt (.complex k a b) (.complex k c d)).run P w = .ok v w ∧ VRel ι ρ r v := by
  unfold cplxBin at h
  split at h
  · obtain ⟨x, hx, h⟩ := Res.bind_ok h; obtain ⟨y, hy, h⟩ := Res.bind_ok h; cases h
    exact ⟨_, by simp [binOp, Op.complexOp, Op.Complex.arith, Op.floatArith, ofOpt_ok hx, ofOpt_ok hy], rfl⟩
  · obtain ⟨x, hx, h⟩ := Res.bind_ok h; obtain ⟨y, hy, h⟩ := Res.bind_ok h; cases h
    exact ⟨_, by simp [binOp, Op.complexOp, Op.Complex.arith, Op.floatArith, ofOpt_ok hx, ofOpt_ok hy], rfl⟩
  · obtain ⟨x1, h1, h⟩ := Res.bind_ok h; obtain ⟨x2, h2, h⟩ := Res.bind_ok h; obtain ⟨x3, h3, h⟩ := Res.bind_ok h
    obtain ⟨x4, h4, h⟩ := Res.bind_ok h; obtain ⟨x5, h5, h⟩ := Res.bind_ok h; obtain ⟨x6, h6, h⟩ := Res.bind_ok h; cases h
    exact ⟨_, by simp [binOp, Op.complexOp, Op.Complex.conv, Op.Complex.product, Op.Complex.mul, Op.Complex.sub, Op.Complex.add, Op.Complex.arith, Op.floatArith, ofOpt_ok h1, ofOpt_ok h2, ofOpt_ok h3, ofOpt_ok h4, ofOpt_ok h5, ofOpt_ok h6], rfl⟩
  · cases h
    exact ⟨_, by simp [binOp, Op.complexOp, Op.Complex.cmp, Op.floatCmp, asBool], rfl⟩
  · cases h
    exact ⟨_, by simp [binOp, Op.complexOp, Op.Complex.cmp, Op.floatCmp, asBool], rfl⟩
  · cases h

theorem un_ok {op : UnOp} {a r : AVal} {x : Value} (h : unR op a = .ok r) (hx : VRel ι ρ a x) : ∃ v, (Op.unary op x).run P w = .ok v w ∧ VRel ι ρ r v := by
  unfold unR at h
  split at h <;> cases h <;> simp only [VRel] at hx <;> subst hx
  all_goals exact ⟨_, by simp [Op.unary, Op.intArith, Op.intBits], rfl⟩

/-! ### equality -/
theorem sizeNonzero_ok {t : Nat} (h : sizeNonzero P t = true) : ∃ i, P.info? t = some i ∧ i.size ≠ 0 := by
  unfold sizeNonzero at h
  split at h
  · exact ⟨_, by assumption, by simpa using h⟩
  · cases h

end

section
variable {F : Fix} {ι : Inj} {h : AHeap} {w : World}

theorem ptrEq_ok (r : Rel F ι h w) {o off o' off' : Nat} {b : Bool} (hb : ptrEq h o off o' off' = .ok b) {x y : Addr}
    (hx : VRel ι F.ρ (.ptr o off) (.pointer (some x))) (hy : VRel ι F.ρ (.ptr o' off') (.pointer (some y))) : (sameAddr x y).run F.c.P w = .ok b w := by
  obtain ⟨e, he, hxe⟩ := hx
  obtain ⟨f, hf, hyf⟩ := hy
  simp at hxe hyf
  subst hxe; subst hyf
  unfold ptrEq at hb
  by_cases ho : o = o'
  · subst ho
    rw [he] at hf; cases hf
    simp at hb; subst hb
    have hb : ((⟨e.blk, e.base + off, none⟩ : Addr) == ⟨e.blk, e.base + off', none⟩) = (off == off') := by rw [Bool.eq_iff_iff, beq_iff_eq, beq_iff_eq]; simp
    simp only [sameAddr, beq_self_eq_true, if_true, hb, Sem.run_pure]
  · simp only [ho, if_false] at hb
    split at hb
    · rename_i ez vs ez' vs' h1 h2
      cases hb
      obtain ⟨e', g1, _, g3⟩ := r.obj o _ h1
      obtain ⟨f', k1, _, k3⟩ := r.obj o' _ h2
      rw [he] at g1; cases g1
      rw [hf] at k1; cases k1
      have hne : e.blk ≠ f.blk := fun hb => ho (r.inj o o' _ _ e f h1 h2 he hf hb)
      obtain ⟨c, T, fr, a1, _, _, _, a5, _⟩ := g3
      obtain ⟨c', T', fr', b1, _, _, _, b5, _⟩ := k3
      have a5 := a5 rfl; subst a5
      have b5 := b5 rfl; subst b5
      simp [sameAddr, hne, World.frozen?, a1, b1, noView, viewAt, World.shape?, mayBeOne, stringish]
    · cases hb

theorem eq1_ok (r : Rel F ι h w) {d : TypeDesc} {t n : Nat} {a b : AVal} {x y : Value} {res : Bool} (hu : F.c.P.underlying t = some d) (hf : fits1 F.c.P d a b = true)
    (hq : eq1 h a b = .ok res) (hx : VRel ι F.ρ a x) (hy : VRel ι F.ρ b y) : (Op.equalIn (n + 1) t x y).run F.c.P w = .ok res w := by
  unfold fits1 at hf
  split at hf
  case h_1 => simp only [VRel] at hx hy; subst hx; subst hy; simp only [eq1] at hq; cases hq; simp [Op.equalIn, run_und hu]
  case h_2 => simp only [VRel] at hx hy; subst hx; subst hy; simp only [eq1] at hq; split at hq <;> cases hq; rename_i hk; subst hk; simp [Op.equalIn, run_und hu]
  case h_3 => simp only [VRel] at hx hy; subst hx; subst hy; simp only [eq1] at hq; cases hq; simp only [Op.equalIn, Sem.run_bind, run_und hu, Result.andThen_ok, Sem.run_pure, ba_beq]
  case h_4 => simp only [VRel] at hx hy; subst hx; subst hy; simp only [eq1] at hq; split at hq <;> cases hq; rename_i hk; subst hk; simp [Op.equalIn, run_und hu, Op.floatEq]
  case h_5 => simp only [VRel] at hx hy; subst hx; subst hy; simp only [eq1] at hq; split at hq <;> cases hq; rename_i hk; subst hk; simp [Op.equalIn, run_und hu, Op.floatEq]
  case h_6 => simp only [VRel] at hx hy; subst hx; subst hy; simp only [eq1] at hq; cases hq; simp [Op.equalIn, run_und hu]
  case h_7 => simp only [VRel] at hx; obtain ⟨e, he, rfl⟩ := hy; subst hx; simp only [eq1] at hq; cases hq; simp [Op.equalIn, run_und hu]
  case h_8 => simp only [VRel] at hy; obtain ⟨e, he, rfl⟩ := hx; subst hy; simp only [eq1] at hq; cases hq; simp [Op.equalIn, run_und hu]
  case h_9 =>
    obtain ⟨e, he, rfl⟩ := hx
    obtain ⟨f, hf', rfl⟩ := hy
    obtain ⟨i, hi, hi0⟩ := sizeNonzero_ok hf
    simp only [eq1] at hq
    have := ptrEq_ok r hq ⟨e, he, rfl⟩ ⟨f, hf', rfl⟩
    simp only [Op.equalIn, Sem.run_bind, run_und hu, Result.andThen_ok, run_sizeOf' hi, ne_eq, hi0, not_false_eq_true, if_true, this]
  case h_10 => cases hf

end
end Go.Proofs.YtofnbldbggddmaaGreatDoor
namespace Go.Proofs.YtofnbldbggddmaaGreatDoor
open Go Go.RowKit

section
variable {P : Program}
theorem run_forIn_cons {α β : Type} (a : α) (l : List α) (b : β) (f : α → β → Sem (ForInStep β)) (w : World) :
    (forIn (a :: l) b f).run P w = ((f a b).run P w).andThen fun r w' => match r with
      | .done b => .ok b w'
      | .yield b => (forIn l b f).run P w' := by
  simp only [List.forIn_cons, Sem.run_bind]
  congr 1
  funext r w'
  cases r <;> rfl
theorem run_forIn_nil {α β : Type} (b : β) (f : α → β → Sem (ForInStep β)) (w : World) : (forIn ([] : List α) b f).run P w = .ok b w := by
  simp
theorem run_mapM_arr {α β : Type} (xs : Array α) (f : α → Sem β) (w : World) {ys : List β} (h : (xs.toList.mapM f).run P w = .ok ys w) : (xs.mapM f).run P w = .ok ys.toArray w := by
  rw [Array.mapM_eq_mapM_toList, Sem.run_map, h]; rfl
theorem run_mapM_cons {α β : Type} (a : α) (l : List α) (f : α → Sem β) (w : World) {y : β} {ys : List β} (h : (f a).run P w = .ok y w) (h' : (l.mapM f).run P w = .ok ys w) :
    ((a :: l).mapM f).run P w = .ok (y :: ys) w := by
  simp [List.mapM_cons, h, h']
end

section
variable {F : Fix} {ι : Inj} {h : AHeap} {w : World}

/-- one field held against another one -/
def fieldStep (d : Nat) (cs ds : Array Value) (f : Field) (_ : Option Bool × Unit) : Sem (ForInStep (Option Bool × Unit)) :=
  if f.name = "_" then pure (ForInStep.yield (none, ()))
  else do
    let a ← part f.type cs f.offset
    let b ← part f.type ds f.offset
    let r ← Op.equalIn d f.type a b
    if r = false then pure (ForInStep.done (some false, ())) else pure (ForInStep.yield (none, ()))

theorem equalIn_struct {P : Program} {d t : Nat} {fs : Array Field} {cs ds : Array Value} (hu : P.underlying t = some (.struct fs)) (hs : P.stoodInHeld t = false) :
    (Op.equalIn (d + 1) t (.agg cs) (.agg ds)).run P w = ((forIn fs.toList (none, ()) (fieldStep d cs ds)).run P w).andThen fun a w' =>
      Sem.run P (match a.fst with | some r => pure r | none => pure true) w' := by
  simp [Op.equalIn, run_und hu, hs]
  have e : (fun (f : Field) (__s : Option Bool × Unit) => if f.name = "_" then (pure (ForInStep.yield (none, ())) : Sem (ForInStep (Option Bool × Unit)))
          else do
            let __do_lift ← part f.type cs f.offset
            let __do_lift_1 ← part f.type ds f.offset
            let __do_lift ← Op.equalIn d f.type __do_lift __do_lift_1
            if __do_lift = false then pure (ForInStep.done (some false, ())) else pure (ForInStep.yield (none, ()))) = fieldStep d cs ds := by
    funext f s
    by_cases hn : f.name = "_" <;> simp [fieldStep, hn]
  rw [e]
  congr 1
  funext a w'
  rcases a with ⟨_ | _, _⟩ <;> rfl

theorem eqFlat_ok (r : Rel F ι h w) {d t : Nat} {u : TypeDesc} {a b : AVal} {x y : Value} {res : Bool} (hu : F.c.P.underlying t = some u) (hq : eqFlat F.c.P h u a b = .ok res)
    (hx : VRel ι F.ρ a x) (hy : VRel ι F.ρ b y) : (Op.equalIn (d + 1) t x y).run F.c.P w = .ok res w := by
  unfold eqFlat at hq
  split at hq
  · split at hq <;> cases hq
    · simp only [VRel] at hx hy; subst hx; subst hy; simp [Op.equalIn, run_und hu]
    · simp only [VRel] at hx; subst hx; obtain ⟨_, rfl, _⟩ := hy; simp [Op.equalIn, run_und hu]
    · simp only [VRel] at hy; subst hy; obtain ⟨_, rfl, _⟩ := hx; simp [Op.equalIn, run_und hu]
  · split at hq <;> cases hq
    · simp only [VRel] at hx hy; subst hx; subst hy; simp [Op.equalIn, run_und hu]
    · simp only [VRel] at hx; subst hx; obtain ⟨_, _, _, _, rfl, _⟩ := hy; simp [Op.equalIn, run_und hu]
    · simp only [VRel] at hx; subst hx; obtain ⟨_, _, _, rfl, _⟩ := hy; simp [Op.equalIn, run_und hu]
    · simp only [VRel] at hx; subst hx; obtain ⟨_, _, _, _, rfl, _⟩ := hy; simp [Op.equalIn, run_und hu]
    · simp only [VRel] at hy; subst hy; obtain ⟨_, _, _, _, rfl, _⟩ := hx; simp [Op.equalIn, run_und hu]
    · simp only [VRel] at hy; subst hy; obtain ⟨_, _, _, rfl, _⟩ := hx; simp [Op.equalIn, run_und hu]
    · simp only [VRel] at hy; subst hy; obtain ⟨_, _, _, _, rfl, _⟩ := hx; simp [Op.equalIn, run_und hu]
  · split at hq <;> cases hq
    · simp only [VRel] at hx hy; subst hx; subst hy; simp [Op.equalIn, run_und hu]
    · simp only [VRel] at hx; subst hx; obtain ⟨_, _, rfl⟩ := hy; simp [Op.equalIn, run_und hu]
    · simp only [VRel] at hy; subst hy; obtain ⟨_, _, rfl⟩ := hx; simp [Op.equalIn, run_und hu]
  · split at hq <;> cases hq
    · simp only [VRel] at hx hy; subst hx; subst hy; simp [Op.equalIn, run_und hu]
    · simp only [VRel] at hx; subst hx; obtain ⟨_, _, rfl, _⟩ := hy; simp [Op.equalIn, run_und hu]
    · simp only [VRel] at hy; subst hy; obtain ⟨_, _, rfl, _⟩ := hx; simp [Op.equalIn, run_und hu]
  · split at hq
    · rename_i hf; exact eq1_ok r hu hf hq hx hy
    · cases hq

theorem eqFields_ok {d : Nat} {eq : Nat → AVal → AVal → Res Bool}
    (heq : ∀ (t : Nat) (a b : AVal) (x y : Value) (res : Bool), eq t a b = .ok res → VRel ι F.ρ a x → VRel ι F.ρ b y → (Op.equalIn d t x y).run F.c.P w = .ok res w) :
    ∀ (fs : List Field) (xs ys : List AVal) (cs ds : Array Value) (res : Bool), eqFields F.c.P eq fs xs ys = .ok res →
    VRels ι F.ρ xs cs.toList → (∀ v ∈ cs.toList, oneC v = true) → VRels ι F.ρ ys ds.toList → (∀ v ∈ ds.toList, oneC v = true) →
    (res = true → (forIn fs (none, ()) (fieldStep d cs ds)).run F.c.P w = .ok (none, ()) w) ∧ (res = false → (forIn fs (none, ()) (fieldStep d cs ds)).run F.c.P w = .ok (some false, ()) w)
  | [], _, _, _, _, res, hq, _, _, _, _ => by
    simp [eqFields] at hq; subst hq
    exact ⟨fun _ => run_forIn_nil _ _ _, fun h => (by cases h)⟩
  | f :: fs, xs, ys, cs, ds, res, hq, c1, c2, d1, d2 => by
    unfold eqFields at hq
    split at hq
    · rename_i hn
      have ih := eqFields_ok heq fs xs ys cs ds res hq c1 c2 d1 d2
      have hstep : ∀ s, (fieldStep d cs ds f s).run F.c.P w = .ok (ForInStep.yield (none, ())) w := by
        intro s; simp [fieldStep, hn]
      simp only [run_forIn_cons, hstep, Result.andThen_ok]
      exact ih
    · rename_i hn
      obtain ⟨a, ha, hq⟩ := Res.bind_ok hq
      obtain ⟨b, hb, hq⟩ := Res.bind_ok hq
      obtain ⟨e, he, hq⟩ := Res.bind_ok hq
      obtain ⟨v, v1, v2⟩ := part_ok (w := w) c1 c2 ha
      obtain ⟨u, u1, u2⟩ := part_ok (w := w) d1 d2 hb
      have hrun := heq f.type a b v u e he v2 u2
      cases e with
      | true =>
        have ih := eqFields_ok heq fs xs ys cs ds res hq c1 c2 d1 d2
        have hstep : ∀ s, (fieldStep d cs ds f s).run F.c.P w = .ok (ForInStep.yield (none, ())) w := by
          intro s; simp [fieldStep, hn, v1, u1, hrun]
        simp only [run_forIn_cons, hstep, Result.andThen_ok]
        exact ih
      | false =>
        cases hq
        have hstep : ∀ s, (fieldStep d cs ds f s).run F.c.P w = .ok (ForInStep.done (some false, ())) w := by
          intro s; simp [fieldStep, hn, v1, u1, hrun]
        simp only [run_forIn_cons, hstep, Result.andThen_ok]
        exact ⟨fun h => (by cases h), fun _ => by simp⟩

theorem eqIn_ok (ok : F.Ok) (r : Rel F ι h w) : ∀ (d t : Nat) (a b : AVal) (x y : Value) (res : Bool), eqIn F.c h d t a b = .ok res → VRel ι F.ρ a x → VRel ι F.ρ b y →
    (Op.equalIn d t x y).run F.c.P w = .ok res w
  | 0, _, _, _, _, _, _, hq, _, _ => by simp [eqIn] at hq
  | d + 1, t, a, b, x, y, res, hq, hx, hy => by
    unfold eqIn at hq
    obtain ⟨u, hu', hq⟩ := Res.bind_ok hq
    have hu := undR_ok hu'
    by_cases hs : ∃ fs, u = .struct fs
    · obtain ⟨fs, rfl⟩ := hs
      by_cases ha : ∃ xs, a = .agg xs
      · obtain ⟨xs, rfl⟩ := ha
        by_cases hb : ∃ ys, b = .agg ys
        · obtain ⟨ys, rfl⟩ := hb
          simp only at hq
          split at hq
          · rename_i he
            obtain ⟨cs, rfl, c1, c2⟩ := hx
            obtain ⟨ds, rfl, d1, d2⟩ := hy
            rw [equalIn_struct hu (ok.eqs t he).1]
            have := eqFields_ok (eqIn_ok ok r d) fs.toList xs ys cs ds res hq c1 c2 d1 d2
            cases res with
            | true => rw [this.1 rfl]; rfl
            | false => rw [this.2 rfl]; rfl
          · cases hq
        · cases b <;> simp_all
      · cases a <;> simp_all
    · have : eqFlat F.c.P h u a b = .ok res := by cases u <;> simp_all
      exact eqFlat_ok r hu this hx hy

theorem VRel.agg_inv {ρ : RoMap} {a : AVal} {cs : Array Value} (h : VRel ι ρ a (.agg cs)) (hd : a ≠ .dead) : ∃ l, a = .agg l := by
  cases a <;> simp [VRel] at h hd ⊢
theorem VRel.nili_inv {ρ : RoMap} {a : AVal} (h : VRel ι ρ a .nilIface) (hd : a ≠ .dead) : a = .nili := by
  cases a <;> simp [VRel] at h hd ⊢
theorem VRel.int_inv {ρ : RoMap} {a : AVal} {k : IntKind} {n : Int} (h : VRel ι ρ a (.int k n)) (hd : a ≠ .dead) : a = .int k n := by
  cases a <;> simp_all [VRel]
theorem VRel.float_inv {ρ : RoMap} {a : AVal} {k : FloatKind} {n : Nat} (h : VRel ι ρ a (.float k n)) (hd : a ≠ .dead) : a = .float k n := by
  cases a <;> simp_all [VRel]
theorem VRel.cplx_inv {ρ : RoMap} {a : AVal} {k : FloatKind} {n m : Nat} (h : VRel ι ρ a (.complex k n m)) (hd : a ≠ .dead) : a = .cplx k n m := by
  cases a <;> simp_all [VRel]
theorem VRel.str_inv {ρ : RoMap} {a : AVal} {s : ByteArray} (h : VRel ι ρ a (.string s)) (hd : a ≠ .dead) : ∃ l, a = .str l := by
  cases a <;> simp [VRel] at h hd ⊢

/-- the guard of '==' and '!=' lets by -/
theorem guard_ok (ok : F.Ok) {op : BinOp} {xt : Nat} {ox oy : Operand} {a b : AVal} {x y : Value} (hx : VRel ι F.ρ a x) (hy : VRel ι F.ρ b y)
    (hg : eqGuardA F.c op xt ox oy a b = true) :
    (eqGuard op xt ox oy x y).run F.c.P w = .ok () w ∧ ((op = .eql ∨ op = .neq) → a ≠ .dead ∧ b ≠ .dead) := by
  by_cases hop : op = .eql ∨ op = .neq
  · have hg' : guardOk F.c xt ox oy a b = true := by rcases hop with rfl | rfl <;> simpa [eqGuardA] using hg
    have hd : a ≠ .dead ∧ b ≠ .dead := by
      constructor <;> rintro rfl
      · simp [guardOk] at hg'
      · cases a <;> simp [guardOk] at hg'
    refine ⟨?_, fun _ => hd⟩
    by_cases h1 : x = .nilIface ∧ y = .nilIface
    · obtain ⟨rfl, rfl⟩ := h1
      obtain rfl := hx.nili_inv hd.1
      obtain rfl := hy.nili_inv hd.2
      simp only [guardOk] at hg'
      rcases hop with rfl | rfl <;> (cases ox <;> cases oy <;> simp_all [eqGuard, isConstOp])
    · by_cases h2 : (∃ cs, x = .agg cs) ∧ ∃ ds, y = .agg ds
      · obtain ⟨⟨cs, rfl⟩, ds, rfl⟩ := h2
        obtain ⟨l, rfl⟩ := hx.agg_inv hd.1
        obtain ⟨m, rfl⟩ := hy.agg_inv hd.2
        simp only [guardOk] at hg'
        have := (ok.eqs xt hg').2
        rcases hop with rfl | rfl <;> simp [eqGuard, this]
      · rcases hop with rfl | rfl <;> simp only [eqGuard] <;> split <;> simp_all
  · refine ⟨?_, fun h => absurd h hop⟩
    cases op <;> simp_all [eqGuard]

theorem binOp_eq {op : BinOp} {xt : Nat} {x y : Value} (hop : op = .eql ∨ op = .neq) (h1 : ∀ k a k' b, ¬ (x = .int k a ∧ y = .int k' b)) (h2 : ∀ k a k' b, ¬ (x = .float k a ∧ y = .float k' b))
    (h3 : ∀ k a b k' c d, ¬ (x = .complex k a b ∧ y = .complex k' c d)) (h4 : ∀ a b, ¬ (x = .string a ∧ y = .string b)) :
    binOp op xt x y = (do let b ← Op.equal xt x y; pure (.bool (if op = .eql then b else !b))) := by
  rcases hop with rfl | rfl <;> (unfold binOp; split) <;> first
    | (exfalso; first | exact h1 _ _ _ _ ⟨rfl, rfl⟩ | exact h2 _ _ _ _ ⟨rfl, rfl⟩ | exact h3 _ _ _ _ _ _ ⟨rfl, rfl⟩ | exact h4 _ _ ⟨rfl, rfl⟩)
    | simp_all

theorem binR_ok (ok : F.Ok) (r : Rel F ι h w) {op : BinOp} {xt : Nat} {a b res : AVal} {x y : Value} (hq : binR F.c h op xt a b = .ok res) (hx : VRel ι F.ρ a x) (hy : VRel ι F.ρ b y)
    (hd : (op = .eql ∨ op = .neq) → a ≠ .dead ∧ b ≠ .dead) :
    ∃ v, (binOp op xt x y).run F.c.P w = .ok v w ∧ VRel ι F.ρ res v := by
  have hcore : ∀ op, (op = .eql ∨ op = .neq) → a ≠ .dead → b ≠ .dead → (∀ k n k' m, ¬ (a = .int k n ∧ b = .int k' m)) → (∀ k n k' m, ¬ (a = .float k n ∧ b = .float k' m)) →
      (∀ k n o k' m p, ¬ (a = .cplx k n o ∧ b = .cplx k' m p)) → (∀ s t, ¬ (a = .str s ∧ b = .str t)) → ∀ e, eqIn F.c h 10000 xt a b = .ok e →
      (binOp op xt x y).run F.c.P w = .ok (.bool (if op = .eql then e else !e)) w := by
    intro op hop da db n1 n2 n3 n4 e he
    rw [binOp_eq hop]
    · have hrun := eqIn_ok ok r 10000 xt a b x y e he hx hy
      simp only [Op.equal, Op.maxDepth, Sem.run_bind, hrun, Result.andThen_ok, Sem.run_pure]
    · rintro k n k' m ⟨rfl, rfl⟩; exact n1 _ _ _ _ ⟨hx.int_inv da, hy.int_inv db⟩
    · rintro k n k' m ⟨rfl, rfl⟩; exact n2 _ _ _ _ ⟨hx.float_inv da, hy.float_inv db⟩
    · rintro k n o k' m p ⟨rfl, rfl⟩; exact n3 _ _ _ _ _ _ ⟨hx.cplx_inv da, hy.cplx_inv db⟩
    · rintro s t ⟨rfl, rfl⟩
      obtain ⟨l, hl⟩ := hx.str_inv da
      obtain ⟨m, hm⟩ := hy.str_inv db
      exact n4 _ _ ⟨hl, hm⟩
  unfold binR at hq
  split at hq
  · simp only [VRel] at hx hy; subst hx; subst hy; exact shift_ok hq xt
  · simp only [VRel] at hx hy; subst hx; subst hy; exact shift_ok hq xt
  · simp only [VRel] at hx hy; subst hx; subst hy
    split at hq
    · rename_i hk; subst hk; exact intBin_ok hq xt
    · cases hq
  · simp only [VRel] at hx hy; subst hx; subst hy
    split at hq
    · rename_i hk; subst hk; exact float_ok hq xt
    · cases hq
  · simp only [VRel] at hx hy; subst hx; subst hy
    split at hq
    · rename_i hk; subst hk; exact cplx_ok hq xt
    · cases hq
  · simp only [VRel] at hx hy; subst hx; subst hy; exact str_ok hq xt
  · rename_i n1 n2 n3 n4
    obtain ⟨e, he, hq⟩ := Res.bind_ok hq
    cases hq
    obtain ⟨da, db⟩ := hd (.inl rfl)
    exact ⟨_, hcore .eql (.inl rfl) da db (fun k n k' m hh => n1 k n k' m hh.1 hh.2) (fun k n k' m hh => n2 k n k' m hh.1 hh.2) (fun k n o k' m p hh => n3 k n o k' m p hh.1 hh.2) (fun s t hh => n4 s t hh.1 hh.2) e he, rfl⟩
  · rename_i n1 n2 n3 n4
    obtain ⟨e, he, hq⟩ := Res.bind_ok hq
    cases hq
    obtain ⟨da, db⟩ := hd (.inr rfl)
    exact ⟨_, hcore .neq (.inr rfl) da db (fun k n k' m hh => n1 k n k' m hh.1 hh.2) (fun k n k' m hh => n2 k n k' m hh.1 hh.2) (fun k n o k' m p hh => n3 k n o k' m p hh.1 hh.2) (fun s t hh => n4 s t hh.1 hh.2) e he, rfl⟩
  · cases hq
end
end Go.Proofs.YtofnbldbggddmaaGreatDoor
namespace Go.Proofs.YtofnbldbggddmaaGreatDoor
open Go Go.RowKit

section
variable {P : Program} {w : World}

theorem sameNow_in {kt n : Nat} {d : TypeDesc} {x y : Value} {b : Bool} (hu : P.underlying kt = some d) (h : Instr.sameNow d x y = some b) : (Op.equalIn (n + 1) kt x y).run P w = .ok b w := by
  unfold Instr.sameNow at h
  split at h
  · split at h
    · rename_i hk; subst hk; cases h
      simp [Op.equalIn, run_und hu]
    · cases h
  · cases h; simp [Op.equalIn, run_und hu]
  · cases h; simp [Op.equalIn, run_und hu]
  · cases h

theorem sameNow_ok {kt : Nat} {d : TypeDesc} {x y : Value} {b : Bool} (hu : P.underlying kt = some d) (h : Instr.sameNow d x y = some b) : (Op.equal kt x y).run P w = .ok b w :=
  sameNow_in (n := 9999) hu h

theorem findNow_ok {kt : Nat} {d : TypeDesc} {x : Value} (hu : P.underlying kt = some d) : ∀ (es : List MapEntry) (i : Nat) (r : Option (Nat × Value)), Instr.findNow d x es i = some r →
    (Instr.findAsking kt x es i).run P w = .ok r w
  | [], i, r, h => by simp [Instr.findNow] at h; subst h; simp [Instr.findAsking]
  | e :: es, i, r, h => by
    unfold Instr.findNow at h
    split at h
    · rename_i hs; cases h; simp [Instr.findAsking, sameNow_ok hu hs]
    · rename_i hs; have := findNow_ok hu es (i + 1) r h; simp [Instr.findAsking, sameNow_ok hu hs, this]
    · cases h

theorem findKey_eq {kt : Nat} {d : TypeDesc} {x : Value} (hu : P.underlying kt = some d) (es : List MapEntry) : (Instr.findKey kt x es).run P w = (Instr.findAsking kt x es 0).run P w := by
  simp only [Instr.findKey, Sem.run_bind, run_und hu, Result.andThen_ok]
  cases h : Instr.findNow d x es 0 with
  | none => rfl
  | some r => simp [findNow_ok hu es 0 r h]

def scalarD : Option TypeDesc → Bool
  | some (.int _) | some .string | some .bool => true
  | _ => false

theorem checkKey_flat {t n : Nat} {d : TypeDesc} {e : Bool} {v : Value} (hu : P.underlying t = some d) (hs : scalarD (some d) = true) : (Instr.checkKey e (n + 1) t v).run P w = .ok () w := by
  cases d <;> simp [scalarD] at hs <;> simp [Instr.checkKey, run_und hu]

theorem keySimple_eq {kt : Nat} : keySimple P kt = true → (∃ d, P.underlying kt = some d ∧ scalarD (some d) = true) ∨
    ∃ fs, P.underlying kt = some (.struct fs) ∧ ∀ f ∈ fs.toList, (∃ d, P.underlying f.type = some d ∧ scalarD (some d) = true) ∧ f.name ≠ "_" := by
  intro h
  unfold keySimple at h
  split at h
  · left; exact ⟨_, by assumption, rfl⟩
  · left; exact ⟨_, by assumption, rfl⟩
  · left; exact ⟨_, by assumption, rfl⟩
  · rename_i fs hu
    right
    refine ⟨fs, hu, fun f hf => ?_⟩
    have := (List.all_eq_true.1 h) f hf
    split at this
    · rename_i h1; exact ⟨⟨_, h1, rfl⟩, by simpa using this⟩
    · rename_i h1; exact ⟨⟨_, h1, rfl⟩, by simpa using this⟩
    · rename_i h1; exact ⟨⟨_, h1, rfl⟩, by simpa using this⟩
    · cases this
  · cases h

theorem part_flat {t off : Nat} {d : TypeDesc} {cs : Array Value} (hu : P.underlying t = some d) (hs : scalarD (some d) = true) (ho : off < cs.size) : (part t cs off).run P w = .ok cs[off] w := by
  have : isAggD d = false := by cases d <;> simp [scalarD] at hs <;> rfl
  simp [part, run_isAgg' hu, this, ho]

theorem checkKey_in {ι : Inj} {ρ : RoMap} {kt n : Nat} {k : AVal} {v : Value} {e : Bool} (hs : keySimple P kt = true) (hf : keyFits P kt k = true) (hv : VRel ι ρ k v) :
    (Instr.checkKey e (n + 2) kt v).run P w = .ok () w := by
  rcases keySimple_eq hs with ⟨d, hu, hd⟩ | ⟨fs, hu, hfs⟩
  · exact checkKey_flat hu hd
  · unfold keyFits at hf
    rw [hu] at hf
    cases k <;> simp only [Bool.false_eq_true] at hf
    rename_i vs
    obtain ⟨cs, rfl, c1, c2⟩ := hv
    have hoff : ∀ f ∈ fs.toList, f.offset < cs.size := by
      intro f hm
      have := (List.all_eq_true.1 hf) f hm
      have hl := c1.length
      simp at this hl
      omega
    have hgen : ∀ l : List Field, (∀ f ∈ l, f ∈ fs.toList) → (forIn l PUnit.unit fun (f : Field) (_ : PUnit) =>
        if f.name = "_" then (pure (ForInStep.yield PUnit.unit) : Sem (ForInStep PUnit))
        else do
          let v ← part f.type cs f.offset
          (fun _ => ForInStep.yield PUnit.unit) <$> Instr.checkKey e (n + 1) f.type v).run P w = .ok PUnit.unit w := by
      intro l hl
      induction l with
      | nil => exact run_forIn_nil _ _ _
      | cons f l ih =>
        obtain ⟨⟨d, hd1, hd2⟩, hn⟩ := hfs f (hl f (by simp))
        have ho := hoff f (hl f (by simp))
        rw [run_forIn_cons]
        simp only [hn, if_false, Sem.run_bind, part_flat hd1 hd2 ho, Result.andThen_ok, Sem.run_map, checkKey_flat hd1 hd2]
        exact ih fun g hg => hl g (by simp [hg])
    have := hgen fs.toList (fun f hf => hf)
    simp only [Array.forIn_toList] at this
    rw [Instr.checkKey]
    simp only [Sem.run_bind, run_und hu, Result.andThen_ok]
    simp
    rw [this]
    rfl

theorem checkKey_ok {ι : Inj} {ρ : RoMap} {kt : Nat} {k : AVal} {v : Value} {e : Bool} (hs : keySimple P kt = true) (hf : keyFits P kt k = true) (hv : VRel ι ρ k v) :
    (Instr.checkKey e 10000 kt v).run P w = .ok () w := checkKey_in (n := 9998) hs hf hv
end

section
variable {F : Fix} {ι : Inj} {h : AHeap} {w : World}

def OptRel (ι : Inj) (ρ : RoMap) : Option (Nat × AVal) → Option (Nat × Value) → Prop
  | none, none => True
  | some (i, a), some (j, v) => i = j ∧ VRel ι ρ a v
  | _, _ => False

def EntsRel (ι : Inj) (ρ : RoMap) : List (AVal × AVal) → List MapEntry → Prop
  | [], l => l = []
  | x :: xs, l => ∃ y ys, l = y :: ys ∧ VRel ι ρ x.1 y.key ∧ VRel ι ρ x.2 y.val ∧ EntsRel ι ρ xs ys

theorem EntsRel.of {ι : Inj} {ρ : RoMap} : ∀ {es : List (AVal × AVal)} {ents : List MapEntry}, ents.length = es.length →
    (∀ (j : Nat) (x : AVal × AVal), es[j]? = some x → ∃ y : MapEntry, ents[j]? = some y ∧ VRel ι ρ x.1 y.key ∧ VRel ι ρ x.2 y.val) → EntsRel ι ρ es ents
  | [], ents, hl, _ => by simp at hl; simp [EntsRel, hl]
  | x :: xs, [], hl, _ => by simp at hl
  | x :: xs, y :: ys, hl, hh => by
    obtain ⟨z, z1, z2, z3⟩ := hh 0 x rfl
    simp at z1; subst z1
    exact ⟨y, ys, rfl, z2, z3, EntsRel.of (by simpa using hl) fun j x hj => by
      obtain ⟨z, z1, z2⟩ := hh (j + 1) x (by simpa using hj); exact ⟨z, by simpa using z1, z2⟩⟩

theorem findR_ok (ok : F.Ok) (r : Rel F ι h w) {kt : Nat} {k : AVal} {kv : Value} (hk : VRel ι F.ρ k kv) : ∀ (es : List (AVal × AVal)) (ents : List MapEntry) (i : Nat) (res : Option (Nat × AVal)),
    findR F.c h kt k es i = .ok res → EntsRel ι F.ρ es ents → ∃ res', (Instr.findAsking kt kv ents i).run F.c.P w = .ok res' w ∧ OptRel ι F.ρ res res'
  | [], ents, i, res, hq, he => by
    simp [findR] at hq; subst hq
    simp [EntsRel] at he; subst he
    exact ⟨none, by simp [Instr.findAsking], trivial⟩
  | x :: xs, ents, i, res, hq, he => by
    unfold findR at hq
    obtain ⟨b, hb, hq⟩ := Res.bind_ok hq
    obtain ⟨y, ys, rfl, h1, h2, h3⟩ := he
    have hrun := eqIn_ok ok r 10000 kt k x.1 kv y.key b hb hk h1
    cases b with
    | true =>
      cases hq
      exact ⟨some (i, y.val), by simp [Instr.findAsking, Op.equal, Op.maxDepth, hrun], rfl, h2⟩
    | false =>
      obtain ⟨res', r1, r2⟩ := findR_ok ok r hk xs ys (i + 1) res hq h3
      exact ⟨res', by simp [Instr.findAsking, Op.equal, Op.maxDepth, hrun, r1], r2⟩

theorem mapTypes_ok {P : Program} {t : Nat} {kt : Nat × Nat} (hq : mapTypes P t = .ok kt) : P.underlying t = some (.map kt.1 kt.2) ∧ keySimple P kt.1 = true := by
  unfold mapTypes at hq
  obtain ⟨d, hd, hq⟩ := Res.bind_ok hq
  split at hq
  · split at hq
    · cases hq; exact ⟨undR_ok hd, by assumption⟩
    · cases hq
  · cases hq

theorem keySimple_und {P : Program} {t : Nat} (hq : keySimple P t = true) : ∃ d, P.underlying t = some d := by
  rcases keySimple_eq hq with ⟨d, h1, _⟩ | ⟨fs, h1, _⟩ <;> exact ⟨_, h1⟩

/-- constants -/
theorem toA1_ok {ρ : RoMap} {v : Value} {a : AVal} (hq : toA1 v = some a) : VRel ι ρ a v ∧ oneC v = true ∧ a.isCell = true := by
  unfold toA1 at hq
  split at hq <;> cases hq <;> simp [VRel, oneC, AVal.isCell]

theorem toAs_ok {ρ : RoMap} : ∀ {l : List Value} {as : List AVal}, toAs l = some as → VRels ι ρ as l ∧ ∀ v ∈ l, oneC v = true
  | [], as, hq => by simp [toAs] at hq; subst hq; exact ⟨rfl, by simp⟩
  | v :: l, as, hq => by
    unfold toAs at hq
    split at hq
    · rename_i a rr h1 h2
      cases hq
      obtain ⟨a1, a2⟩ := toAs_ok (ρ := ρ) h2
      obtain ⟨b1, b2, _⟩ := toA1_ok (ρ := ρ) (ι := ι) h1
      exact ⟨⟨v, l, rfl, b1, a1⟩, by simpa [b2] using a2⟩
    · cases hq

theorem toA_ok {ρ : RoMap} {v : Value} {a : AVal} (hq : toA v = some a) : VRel ι ρ a v := by
  unfold toA at hq
  split at hq
  · rename_i cs
    cases hl : toAs cs.toList with
    | none => simp [hl] at hq
    | some l =>
      simp [hl] at hq; subst hq
      obtain ⟨h1, h2⟩ := toAs_ok (ρ := ρ) (ι := ι) hl
      exact ⟨cs, rfl, h1, h2⟩
  · exact (toA1_ok hq).1

theorem zeroV_ok {P : Program} {ρ : RoMap} {t : Nat} {a : AVal} (hq : zeroV P t = .ok a) : ∃ z, (∀ w, (zeroValue t).run P w = .ok z w) ∧ VRel ι ρ a z := by
  unfold zeroV at hq
  obtain ⟨i, h1, hq⟩ := Res.bind_ok hq
  obtain ⟨z, h2, hq⟩ := Res.bind_ok hq
  exact ⟨z, fun w => run_zero (infoR_ok h1) (ofOpt_ok h2) w, toA_ok (ofOpt_ok hq)⟩

theorem zeroCells_ok {P : Program} {ρ : RoMap} {t : Nat} {cs : List AVal} (hq : zeroCellsR P t = .ok cs) :
    ∃ z, (∀ w, (zeroValue t).run P w = .ok z w) ∧ VRels ι ρ cs z.cells.toList ∧ ∀ x ∈ z.cells.toList, oneC x = true := by
  unfold zeroCellsR at hq
  obtain ⟨a, h1, h2⟩ := Res.bind_ok hq
  obtain ⟨z, h3, h4⟩ := zeroV_ok (ι := ι) (ρ := ρ) h1
  exact ⟨z, h3, h4.cells h2⟩

theorem entriesR_ok {x : AVal} {es : List (AVal × AVal)} (hq : entriesR h x = .ok es) : (x = .nilm ∧ es = []) ∨ ∃ o, x = .map o ∧ h.get o = some (.map es) := by
  unfold entriesR at hq
  split at hq
  · cases hq; exact .inl ⟨rfl, rfl⟩
  · split at hq
    · cases hq; exact .inr ⟨_, rfl, by assumption⟩
    · cases hq
  · cases hq

theorem lookup_ok (ok : F.Ok) (r : Rel F ι h w) {t : Nat} {x k res : AVal} {cok : Bool} {xv kv : Value} (hq : lookupR F.c h t x k cok = .ok res) (hx : VRel ι F.ρ x xv) (hk : VRel ι F.ρ k kv) :
    ∃ v, (Instr.lookup t xv kv cok).run F.c.P w = .ok v w ∧ VRel ι F.ρ res v := by
  unfold lookupR at hq
  obtain ⟨kt, h1, hq⟩ := Res.bind_ok hq
  obtain ⟨es, h2, hq⟩ := Res.bind_ok hq
  obtain ⟨hu, hs⟩ := mapTypes_ok h1
  split at hq
  · cases hq
  rename_i hf
  have hf : keyFits F.c.P kt.1 k = true := by simpa using hf
  obtain ⟨fr, h3, hq⟩ := Res.bind_ok hq
  obtain ⟨kd, hkd⟩ := keySimple_und hs
  have htail : ∀ ents : Array MapEntry, EntsRel ι F.ρ es ents.toList → ∃ v, ((do
      Instr.checkKey ents.isEmpty 10000 kt.1 kv
      let (v, ok) ← match ← Instr.findKey kt.1 kv ents.toList with
        | some (_, v) => pure (v, true)
        | none => pure (← zeroValue kt.2, false)
      pure (if cok then .tuple #[v, .bool ok] else v)) : Sem Value).run F.c.P w = .ok v w ∧ VRel ι F.ρ res v := by
    intro ents e2
    obtain ⟨res', f1, f2⟩ := findR_ok ok r hk es ents.toList 0 fr h3 e2
    simp only [Sem.run_bind, Result.andThen_ok, checkKey_ok hs hf hk, findKey_eq hkd, f1]
    cases fr with
    | none =>
      cases res' with
      | some p => exact f2.elim
      | none =>
        obtain ⟨z, z1, z2⟩ := Res.bind_ok hq
        obtain ⟨zv, y1, y2⟩ := zeroV_ok (ι := ι) (ρ := F.ρ) z1
        cases z2
        cases cok
        · exact ⟨zv, by simp [y1], y2⟩
        · exact ⟨.tuple #[zv, .bool false], by simp [y1], ⟨_, rfl, ⟨zv, _, rfl, y2, ⟨_, _, rfl, rfl, rfl⟩⟩⟩⟩
    | some p =>
      obtain ⟨i, a⟩ := p
      cases res' with
      | none => exact f2.elim
      | some p' =>
        obtain ⟨j, v⟩ := p'
        cases hq
        cases cok
        · exact ⟨v, by simp, f2.2⟩
        · exact ⟨.tuple #[v, .bool true], by simp, ⟨_, rfl, ⟨v, _, rfl, f2.2, ⟨_, _, rfl, rfl, rfl⟩⟩⟩⟩
  rcases entriesR_ok h2 with ⟨rfl, rfl⟩ | ⟨o, rfl, ho⟩
  · simp only [VRel] at hx; subst hx
    obtain ⟨v, v1, v2⟩ := htail #[] rfl
    refine ⟨v, ?_, v2⟩
    rw [← v1]
    simp only [Instr.lookup, Sem.run_bind, run_und hu, Result.andThen_ok, Sem.run_pure]
    rfl
  · obtain ⟨e, he, rfl⟩ := hx
    obtain ⟨e', g1, _, g⟩ := r.obj o _ ho
    rw [he] at g1; cases g1
    obtain ⟨ents, clock, g3, g4, _, g5⟩ := g
    obtain ⟨v, v1, v2⟩ := htail ents (EntsRel.of (by simpa using g4) (by simpa using g5))
    refine ⟨v, ?_, v2⟩
    rw [← v1]
    have hg : (getObj e.blk).run F.c.P w = .ok (.map ents clock) w := by simp [getObj, Sem.run, g3]
    simp only [Instr.lookup, Sem.run_bind, run_und hu, Result.andThen_ok, Sem.run_pure, hg]
    rfl

theorem setVal_get (es : List (AVal × AVal)) (i : Nat) (v : AVal) (j : Nat) : (setVal es i v)[j]? = (es[j]?).map fun x => if j = i then (x.1, v) else x := by
  induction es generalizing i j with
  | nil => cases i <;> simp [setVal]
  | cons e es ih =>
    cases i with
    | zero => cases j with
      | zero => simp [setVal]
      | succ j => simp [setVal]
    | succ i => cases j with
      | zero => simp [setVal]
      | succ j => simp [setVal, ih]

theorem setVal_length (es : List (AVal × AVal)) (i : Nat) (v : AVal) : (setVal es i v).length = es.length := by
  induction es generalizing i with
  | nil => cases i <;> rfl
  | cons e es ih => cases i <;> simp [setVal, ih]

end
end Go.Proofs.YtofnbldbggddmaaGreatDoor
namespace Go.Proofs.YtofnbldbggddmaaGreatDoor
open Go Go.RowKit

mutual
theorem AVal.beq_eq : ∀ a b : AVal, AVal.beq a b = true → a = b
  | .dead, b, h => by cases b <;> simp [AVal.beq] at h ⊢
  | .cell l, b, h => by cases b <;> simp [AVal.beq] at h ⊢; exact AVal.beqs_eq l _ h
  | .loc _ _, b, h => by cases b <;> simp [AVal.beq] at h ⊢; exact h
  | .bool _, b, h => by cases b <;> simp [AVal.beq] at h ⊢; exact h
  | .int _ _, b, h => by cases b <;> simp [AVal.beq] at h ⊢; exact h
  | .float _ _, b, h => by cases b <;> simp [AVal.beq] at h ⊢; exact h
  | .cplx _ _ _, b, h => by cases b <;> simp [AVal.beq] at h ⊢; exact ⟨h.1.1, h.1.2, h.2⟩
  | .str _, b, h => by cases b <;> simp [AVal.beq] at h ⊢; exact h
  | .nilp, b, h => by cases b <;> simp [AVal.beq] at h ⊢
  | .ptr _ _, b, h => by cases b <;> simp [AVal.beq] at h ⊢; exact h
  | .rptr _ _, b, h => by cases b <;> simp [AVal.beq] at h ⊢; exact h
  | .nils, b, h => by cases b <;> simp [AVal.beq] at h ⊢
  | .sl _ _ _, b, h => by cases b <;> simp [AVal.beq] at h ⊢; exact ⟨h.1.1, h.1.2, h.2⟩
  | .slc _ _ _ _, b, h => by cases b <;> simp [AVal.beq] at h ⊢; exact ⟨h.1.1.1, h.1.1.2, h.1.2, h.2⟩
  | .rsl _ _ _, b, h => by cases b <;> simp [AVal.beq] at h ⊢; exact ⟨h.1.1, h.1.2, h.2⟩
  | .nilm, b, h => by cases b <;> simp [AVal.beq] at h ⊢
  | .map _, b, h => by cases b <;> simp [AVal.beq] at h ⊢; exact h
  | .func _ l m, b, h => by cases b <;> simp [AVal.beq] at h ⊢; exact ⟨h.1.1, AVal.beqs_eq l _ h.1.2, AVal.beqs_eq m _ h.2⟩
  | .nilf, b, h => by cases b <;> simp [AVal.beq] at h ⊢
  | .iface _ x, b, h => by cases b <;> simp [AVal.beq] at h ⊢; exact ⟨h.1, AVal.beq_eq x _ h.2⟩
  | .nili, b, h => by cases b <;> simp [AVal.beq] at h ⊢
  | .agg l, b, h => by cases b <;> simp [AVal.beq] at h ⊢; exact AVal.beqs_eq l _ h
  | .tuple l, b, h => by cases b <;> simp [AVal.beq] at h ⊢; exact AVal.beqs_eq l _ h
theorem AVal.beqs_eq : ∀ l m : List AVal, AVal.beqs l m = true → l = m
  | [], m, h => by cases m <;> simp [AVal.beqs] at h ⊢
  | a :: l, m, h => by
    cases m with
    | nil => simp [AVal.beqs] at h
    | cons b m => simp [AVal.beqs] at h; rw [AVal.beq_eq a b h.1, AVal.beqs_eq l m h.2]
end

mutual
theorem AVal.beq_refl : ∀ a : AVal, AVal.beq a a = true
  | .dead => rfl
  | .cell l => by simp [AVal.beq, AVal.beqs_refl l]
  | .loc _ _ => by simp [AVal.beq]
  | .bool _ => by simp [AVal.beq]
  | .int _ _ => by simp [AVal.beq]
  | .float _ _ => by simp [AVal.beq]
  | .cplx _ _ _ => by simp [AVal.beq]
  | .str _ => by simp [AVal.beq]
  | .nilp => rfl
  | .ptr _ _ => by simp [AVal.beq]
  | .rptr _ _ => by simp [AVal.beq]
  | .nils => rfl
  | .sl _ _ _ => by simp [AVal.beq]
  | .slc _ _ _ _ => by simp [AVal.beq]
  | .rsl _ _ _ => by simp [AVal.beq]
  | .nilm => rfl
  | .map _ => by simp [AVal.beq]
  | .func _ l m => by simp [AVal.beq, AVal.beqs_refl l, AVal.beqs_refl m]
  | .nilf => rfl
  | .iface _ x => by simp [AVal.beq, AVal.beq_refl x]
  | .nili => rfl
  | .agg l => by simp [AVal.beq, AVal.beqs_refl l]
  | .tuple l => by simp [AVal.beq, AVal.beqs_refl l]
theorem AVal.beqs_refl : ∀ l : List AVal, AVal.beqs l l = true
  | [] => rfl
  | a :: l => by simp [AVal.beqs, AVal.beq_refl a, AVal.beqs_refl l]
end

section
variable {F : Fix} {ι : Inj} {h : AHeap} {w : World}

/-- a map's block is another one now -/
theorem Rel.setMap (r : Rel F ι h w) {o : Nat} {es es' : List (AVal × AVal)} {e : Ent} {ents ents' : Array MapEntry} {clock clock' : Nat} (ho : h.get o = some (.map es)) (he : ι o = some e) (hb : e.base = 0)
    (hg : w.heap[e.blk]? = some (.map ents clock)) (hl : ents'.size = es'.length)
    (hr : ∀ (j : Nat) (x : AVal × AVal), es'[j]? = some x → ∃ y : MapEntry, ents'[j]? = some y ∧ VRel ι F.ρ x.1 y.key ∧ VRel ι F.ρ x.2 y.val) :
    (setObj e.blk (.map ents' clock')).run F.c.P w = .ok () { w with heap := w.heap.setIfInBounds e.blk (.map ents' clock') } ∧
    Rel F ι (h.set o (.map es')) { w with heap := w.heap.setIfInBounds e.blk (.map ents' clock') } ∧ Step ι h w ι (h.set o (.map es')) { w with heap := w.heap.setIfInBounds e.blk (.map ents' clock') } := by
  have hlt : e.blk < w.heap.size := (Array.getElem?_eq_some_iff.1 hg).1
  refine ⟨by simp [setObj, Sem.run, hg], r.set (.map es') ho he ⟨rfl, rfl, rfl, by simp, ?_⟩ ?_⟩
  · intro k _ hk
    simp [Ne.symm hk]
  · exact ⟨ents', clock', by simp [hlt], hl, hb, hr⟩

theorem mapUpdate_ok (ok : F.Ok) (r : Rel F ι h w) {t : Nat} {x k v : AVal} {h' : AHeap} {xv kv vv : Value} (hq : mapUpdateR F.c h t x k v = .ok h') (hx : VRel ι F.ρ x xv) (hk : VRel ι F.ρ k kv) (hv : VRel ι F.ρ v vv) :
    ∃ w', (Instr.mapUpdate t xv kv vv).run F.c.P w = .ok () w' ∧ Rel F ι h' w' ∧ Step ι h w ι h' w' := by
  unfold mapUpdateR at hq
  split at hq
  rotate_left; · cases hq
  rename_i o
  split at hq
  rotate_left; · cases hq
  rename_i es ho
  obtain ⟨kt, h1, hq⟩ := Res.bind_ok hq
  obtain ⟨hu, hs⟩ := mapTypes_ok h1
  split at hq
  · cases hq
  rename_i hf
  have hf : keyFits F.c.P kt.1 k = true := by simpa using hf
  obtain ⟨fr, h3, hq⟩ := Res.bind_ok hq
  obtain ⟨kd, hkd⟩ := keySimple_und hs
  obtain ⟨e, he, rfl⟩ := hx
  obtain ⟨e', g1, _, g⟩ := r.obj o _ ho
  rw [he] at g1; cases g1
  obtain ⟨ents, clock, g3, g4, g6, g5⟩ := g
  have hg : (getObj e.blk).run F.c.P w = .ok (.map ents clock) w := by simp [getObj, Sem.run, g3]
  obtain ⟨res', f1, f2⟩ := findR_ok ok r hk es ents.toList 0 fr h3 (EntsRel.of (by simpa using g4) (by simpa using g5))
  cases fr with
  | none =>
    cases res' with
    | some p => exact f2.elim
    | none =>
      cases hq
      obtain ⟨s1, s2⟩ := Rel.setMap (es' := es ++ [(k, v)]) (ents' := ents.push { key := kv, val := vv, born := clock }) (clock' := clock + 1) r ho he g6 g3 (by simp [g4]) (fun j y hj => by
        rw [List.getElem?_append] at hj
        split at hj
        · rename_i hlt
          obtain ⟨z, z1, z2⟩ := g5 j y hj
          exact ⟨z, by rw [Array.getElem?_push, if_neg (by omega)]; exact z1, z2⟩
        · rename_i hlt
          have : j = es.length := by
            by_cases hj0 : j - es.length = 0
            · omega
            · rw [List.getElem?_cons] at hj; simp [hj0] at hj
          subst this
          simp at hj; subst hj
          exact ⟨{ key := kv, val := vv, born := clock }, by rw [Array.getElem?_push, if_pos g4.symm], hk, hv⟩)
      refine ⟨_, ?_, s2⟩
      simp only [Instr.mapUpdate, Sem.run_bind, run_und hu, Result.andThen_ok, hg, checkKey_ok hs hf hk, findKey_eq hkd, f1, s1]
  | some p =>
    obtain ⟨i, a⟩ := p
    cases res' with
    | none => exact f2.elim
    | some p' =>
      obtain ⟨j, vo⟩ := p'
      obtain ⟨rfl, hvo⟩ := f2
      simp only at hq
      split at hq
      rotate_left; · cases hq
      rename_i x hxi
      split at hq
      rotate_left; · cases hq
      rename_i hbeq
      cases hq
      obtain rfl := AVal.beq_eq _ _ hbeq
      obtain ⟨y, y1, y2, y3⟩ := g5 i x hxi
      have hold : (((ents[i]?).map (·.key)).getD kv) = y.key := by rw [y1]; rfl
      have hstay : ∃ key', ∃ n, (Instr.keyThatStays y.key kv).run F.c.P w = .ok key' { w with drawn := n } ∧ VRel ι F.ρ x.1 key' := by
        unfold Instr.keyThatStays
        split
        · exact ⟨kv, w.drawn, rfl, hk⟩
        · simp only [Sem.run_bind, run_choose, Question.forced]
          simp only [show (2 = 1) = False by simp, decide_false, Bool.false_eq_true, if_false, Result.andThen_ok, Sem.run_pure]
          split
          · exact ⟨kv, w.drawn + 1, rfl, hk⟩
          · exact ⟨y.key, w.drawn + 1, rfl, y2⟩
      obtain ⟨key', n, k1, k2⟩ := hstay
      obtain ⟨s1, s2⟩ := Rel.setMap (w := { w with drawn := n }) (es' := setVal es i v) (ents' := ents.modify i fun e => { e with key := key', val := vv }) (clock' := clock) (r.drawn n) ho he g6 g3 (by simp [setVal_length, g4]) (fun j z hj => by
        rw [setVal_get] at hj
        cases hej : es[j]? with
        | none => simp [hej] at hj
        | some u =>
          simp [hej] at hj
          obtain ⟨z', z1, z2, z3⟩ := g5 j u hej
          by_cases hji : j = i
          · subst hji
            rw [hej] at hxi; cases hxi
            simp at hj; subst hj
            exact ⟨{ z' with key := key', val := vv }, by rw [Array.getElem?_modify, if_pos rfl, z1]; rfl, k2, hv⟩
          · simp [hji] at hj; subst hj
            exact ⟨z', by rw [Array.getElem?_modify, if_neg (Ne.symm hji)]; exact z1, z2, z3⟩)
      refine ⟨_, ?_, s2.1, (Step.drawn ι h w n).trans s2.2⟩
      simp only [Instr.mapUpdate, Sem.run_bind, run_und hu, Result.andThen_ok, hg, checkKey_ok hs hf hk, findKey_eq hkd, f1, hold, k1, s1]

theorem delete_ok (ok : F.Ok) (r : Rel F ι h w) {t : Nat} {x k v : AVal} {h' : AHeap} {xv kv : Value} {ts : Array TypeId} {ty : TypeId} (hts : ts[0]? = some t) (hq : deleteR F.c h t x k = .ok (v, h')) (hx : VRel ι F.ρ x xv) (hk : VRel ι F.ρ k kv) :
    ∃ w', (Builtin.delete_ ts ty #[xv, kv]).run F.c.P w = .ok (.tuple #[]) w' ∧ v = .tuple [] ∧ Rel F ι h' w' ∧ Step ι h w ι h' w' := by
  unfold deleteR at hq
  split at hq
  · rename_i o
    split at hq
    rotate_left; · cases hq
    rename_i es ho
    obtain ⟨kt, h1, hq⟩ := Res.bind_ok hq
    obtain ⟨hu, hs⟩ := mapTypes_ok h1
    split at hq
    · cases hq
    rename_i hf
    have hf : keyFits F.c.P kt.1 k = true := by simpa using hf
    obtain ⟨fr, h3, hq⟩ := Res.bind_ok hq
    obtain ⟨kd, hkd⟩ := keySimple_und hs
    obtain ⟨e, he, rfl⟩ := hx
    obtain ⟨e', g1, _, g⟩ := r.obj o _ ho
    rw [he] at g1; cases g1
    obtain ⟨ents, clock, g3, g4, g6, g5⟩ := g
    have hg : (getObj e.blk).run F.c.P w = .ok (.map ents clock) w := by simp [getObj, Sem.run, g3]
    obtain ⟨res', f1, f2⟩ := findR_ok ok r hk es ents.toList 0 fr h3 (EntsRel.of (by simpa using g4) (by simpa using g5))
    cases fr with
    | none =>
      cases res' with
      | some p => exact f2.elim
      | none =>
        cases hq
        have hset : (setObj e.blk (.map ents clock)).run F.c.P w = .ok () w := by
          have hlt : e.blk < w.heap.size := (Array.getElem?_eq_some_iff.1 g3).1
          have hsame : w.heap.setIfInBounds e.blk (.map ents clock) = w.heap := by
            apply Array.ext_getElem?
            intro k
            rw [Array.getElem?_setIfInBounds]
            split
            · rename_i hk; subst hk; first | rw [if_pos hlt, g3] | rw [g3]
            · rfl
          simp only [setObj, Sem.run, g3, hsame]
        refine ⟨w, ?_, rfl, r, Step.refl _ _ _⟩
        simp [Builtin.delete_, hts, Sem.run_bind, run_und hu, Result.andThen_ok, hg, checkKey_ok hs hf hk, findKey_eq hkd, f1, hset]
    | some p =>
      obtain ⟨i, a⟩ := p
      cases res' with
      | none => exact f2.elim
      | some p' =>
        obtain ⟨j, vo⟩ := p'
        obtain ⟨rfl, hvo⟩ := f2
        cases hq
        obtain ⟨s1, s2⟩ := Rel.setMap (es' := es.eraseIdx i) (ents' := ents.eraseIdxIfInBounds i) (clock' := clock) r ho he g6 g3 (by
            by_cases hlt : i < ents.size
            · simp only [Array.eraseIdxIfInBounds, hlt, dif_pos, Array.size_eraseIdx, List.length_eraseIdx, g4.symm, if_true]
            · simp only [Array.eraseIdxIfInBounds, hlt, dif_neg, not_false_eq_true, List.length_eraseIdx, g4.symm, if_false]) (fun j z hj => by
          simp only [Array.eraseIdxIfInBounds]
          rw [List.getElem?_eraseIdx] at hj
          split
          · rename_i hlt
            rw [Array.getElem?_eraseIdx]
            split at hj
            · rename_i hji; simp only [hji, if_true]; exact g5 j z hj
            · rename_i hji; simp only [hji, if_false]; exact g5 (j + 1) z hj
          · rename_i hlt
            split at hj
            · exact g5 j z hj
            · exfalso
              have := (List.getElem?_eq_some_iff.1 hj).1
              omega)
        refine ⟨_, ?_, rfl, s2⟩
        simp [Builtin.delete_, hts, Sem.run_bind, run_und hu, Result.andThen_ok, hg, checkKey_ok hs hf hk, findKey_eq hkd, f1, s1]
  · obtain ⟨kt, h1, hq⟩ := Res.bind_ok hq
    obtain ⟨hu, hs⟩ := mapTypes_ok h1
    split at hq
    · cases hq
    rename_i hf
    have hf : keyFits F.c.P kt.1 k = true := by simpa using hf
    cases hq
    simp only [VRel] at hx; subst hx
    refine ⟨w, ?_, rfl, r, Step.refl _ _ _⟩
    simp [Builtin.delete_, hts, Sem.run_bind, run_und hu, Result.andThen_ok, checkKey_ok hs hf hk]
  · cases hq

end
end Go.Proofs.YtofnbldbggddmaaGreatDoor
namespace Go.Proofs.YtofnbldbggddmaaGreatDoor
open Go Go.RowKit

section
variable {F : Fix} {ι : Inj} {h : AHeap} {w : World}

theorem bound_ok {x : AVal} {xv : Value} {y n : Nat} {cd : BoundsCode} (hq : boundR x y = .ok n) (hx : VRel ι F.ρ x xv) : (Instr.sliceBound xv y cd).run F.c.P w = .ok n w ∧ n ≤ y := by
  unfold boundR at hq
  split at hq
  · simp only [VRel] at hx; subst hx
    split at hq
    · rename_i hi; cases hq
      refine ⟨?_, by omega⟩
      simp only [Instr.sliceBound, asIntOf, Sem.run_bind, Sem.run_pure, Result.andThen_ok, if_pos hi]
    · cases hq
  · cases hq

def OptV (ι : Inj) (ρ : RoMap) : Option AVal → Option Value → Prop
  | none, none => True
  | some a, some v => VRel ι ρ a v
  | _, _ => False

theorem bounds2_ok {len top l hh : Nat} {lo hi : Option AVal} {lov hiv : Option Value} {isS : Bool} (hq : bounds2 len top lo hi = .ok (l, hh)) (h1 : OptV ι F.ρ lo lov) (h2 : OptV ι F.ρ hi hiv) (hlt : len ≤ top) (cap : Nat) (hc : top ≤ cap) :
    (Instr.sliceBounds isS len cap lov hiv none).run F.c.P w = .ok (l, hh, cap) w ∧ l ≤ hh ∧ hh ≤ top := by
  unfold bounds2 at hq
  obtain ⟨hv, e1, hq⟩ := Res.bind_ok hq
  obtain ⟨lv, e2, hq⟩ := Res.bind_ok hq
  cases hq
  have hb : ∀ {x : AVal} {xv : Value} {y n : Nat} {cd : BoundsCode} (z : Nat), boundR x y = .ok n → VRel ι F.ρ x xv → y ≤ z → (Instr.sliceBound xv z cd).run F.c.P w = .ok n w := by
    intro x xv y n cd z hq hx hyz
    unfold boundR at hq
    split at hq
    · simp only [VRel] at hx; subst hx
      split at hq
      · rename_i hi; cases hq
        simp only [Instr.sliceBound, asIntOf, Sem.run_bind, Sem.run_pure, Result.andThen_ok]
        rw [if_pos ⟨hi.1, by omega⟩]; rfl
      · cases hq
    · cases hq
  have hh1 : hh ≤ top ∧ ∀ cd, (match hiv with | some v => Instr.sliceBound v cap cd | none => pure len : Sem Nat).run F.c.P w = .ok hh w := by
    cases hi with
    | none => cases hiv with
      | none => cases e1; exact ⟨hlt, fun _ => rfl⟩
      | some _ => exact h2.elim
    | some a => cases hiv with
      | none => exact h2.elim
      | some v => exact ⟨(bound_ok (w := w) (cd := .index) e1 h2).2, fun cd => hb cap e1 h2 hc⟩
  have hl1 : l ≤ hh ∧ ∀ cd, (match lov with | some v => Instr.sliceBound v hh cd | none => pure 0 : Sem Nat).run F.c.P w = .ok l w := by
    cases lo with
    | none => cases lov with
      | none => cases e2; exact ⟨Nat.zero_le _, fun _ => rfl⟩
      | some _ => exact h1.elim
    | some a => cases lov with
      | none => exact h1.elim
      | some v => exact ⟨(bound_ok (w := w) (cd := .index) e2 h1).2, fun cd => (bound_ok e2 h1).1⟩
  refine ⟨?_, hl1.1, hh1.1⟩
  cases hiv with
  | none =>
    have a1 := hh1.2 .index
    cases lov with
    | none =>
      have a2 := hl1.2 .index
      simp only [Sem.run_pure] at a1 a2; cases a1; cases a2
      simp [Instr.sliceBounds]
    | some v =>
      have a2 := hl1.2 .sliceB
      simp only [Sem.run_pure] at a1; cases a1
      simp only at a2
      simp [Instr.sliceBounds, a2]
  | some u =>
    have a1 := hh1.2 (if isS then .sliceAcap else .sliceAlen)
    simp only at a1
    cases lov with
    | none =>
      have a2 := hl1.2 .index
      simp only [Sem.run_pure] at a2; cases a2
      simp [Instr.sliceBounds, a1]
    | some v =>
      have a2 := hl1.2 .sliceB
      simp only at a2
      simp [Instr.sliceBounds, a1, a2]

theorem bounds3_ok {top l hh m : Nat} {lo : Option AVal} {hi mx : AVal} {lov : Option Value} {hiv mv : Value} {len cap : Nat} (hq : bounds3 top lo hi mx = .ok (l, hh, m)) (h1 : OptV ι F.ρ lo lov) (h2 : VRel ι F.ρ hi hiv) (h3 : VRel ι F.ρ mx mv) (hc : top ≤ cap) :
    (Instr.sliceBounds true len cap lov (some hiv) (some mv)).run F.c.P w = .ok (l, hh, m) w ∧ l ≤ hh ∧ hh ≤ m ∧ m ≤ top := by
  unfold bounds3 at hq
  obtain ⟨m', e0, hq⟩ := Res.bind_ok hq
  obtain ⟨hv, e1, hq⟩ := Res.bind_ok hq
  obtain ⟨lv, e2, hq⟩ := Res.bind_ok hq
  cases hq
  have b0 : ∀ cd, (Instr.sliceBound mv cap cd).run F.c.P w = .ok m w := by
    intro cd
    unfold boundR at e0
    split at e0
    · simp only [VRel] at h3; subst h3
      split at e0
      · rename_i hi; cases e0
        simp only [Instr.sliceBound, asIntOf, Sem.run_bind, Sem.run_pure, Result.andThen_ok]
        rw [if_pos ⟨hi.1, by omega⟩]; rfl
      · cases e0
    · cases e0
  have m0 := (bound_ok (w := w) (cd := .index) e0 h3).2
  have b1 := fun cd => (bound_ok (w := w) (cd := cd) e1 h2).1
  have m1 := (bound_ok (w := w) (cd := .index) e1 h2).2
  cases lo with
  | none => cases lov with
    | none => cases e2; exact ⟨by simp [Instr.sliceBounds, b0, b1], Nat.zero_le _, m1, m0⟩
    | some _ => exact h1.elim
  | some a => cases lov with
    | none => exact h1.elim
    | some v =>
      have b2 := fun cd => (bound_ok (w := w) (cd := cd) e2 h1).1
      exact ⟨by simp [Instr.sliceBounds, b0, b1, b2], (bound_ok (w := w) (cd := .index) e2 h1).2, m1, m0⟩

theorem slcOf_ok {o off size l hh m cap : Nat} {e : Ent} {x : Nat} (he : ι o = some e) (hx : x = e.base + off ∨ cap = 0) (hlh : l ≤ hh) (hm : hh ≤ m) (hmc : m ≤ cap) :
    VRel ι F.ρ (slcOf o off size l hh m) (.slice (if m = l then some ⟨e.blk, x, none⟩ else some ((⟨e.blk, x, none⟩ : Addr).add (l * size))) (hh - l) (m - l)) := by
  unfold slcOf
  by_cases hml : m = l
  · subst hml
    have : hh = m := by omega
    subst this
    simp only [if_true, Nat.sub_self]
    exact ⟨e, x, he, rfl, Nat.le_refl _, .inr rfl⟩
  · simp only [hml, if_false, add_none]
    refine ⟨e, x + l * size, he, rfl, by omega, ?_⟩
    rcases hx with hx | hx
    · left; omega
    · omega

theorem sliceSl_ok (r : Rel F ι h w) {t el size : Nat} {x res : AVal} {xv : Value} {lo hi mx : Option AVal} {lov hiv mv : Option Value} (hu : F.c.P.underlying t = some (.slice el)) (hs : sizeR F.c.P el = .ok size)
    (hq : sliceSl h size x lo hi mx = .ok res) (hx : VRel ι F.ρ x xv)
    (h1 : OptV ι F.ρ lo lov) (h2 : OptV ι F.ρ hi hiv) (h3 : OptV ι F.ρ mx mv) : ∃ v, (Instr.sliceAt t xv lov hiv mv).run F.c.P w = .ok v w ∧ VRel ι F.ρ res v := by
  have hs' := fun w => run_size hs w
  match x, mx, mv, hq, hx, h3 with
  | .nils, none, none, hq, hx, _ =>
    obtain ⟨b, hb, hq⟩ := Res.bind_ok hq
    cases hq
    simp only [VRel] at hx; subst hx
    obtain ⟨b1, b2, b3⟩ := bounds2_ok (w := w) (isS := true) hb h1 h2 (Nat.le_refl _) 0 (Nat.le_refl _)
    have e1 : b.1 = 0 := by omega
    have e2 : b.2 = 0 := by omega
    refine ⟨.slice none 0 0, ?_, rfl⟩
    simp only [Instr.sliceAt, Instr.slice, Sem.run_bind, run_und hu, Result.andThen_ok, b1, hs', Sem.run_pure, e1, e2, Option.map_none, if_true, Nat.sub_self]
  | .nils, some mo, some mv, hq, hx, h3 =>
    match hi, hiv, hq, h2 with
    | some hv, some hiv, hq, h2 =>
      obtain ⟨b, hb, hq⟩ := Res.bind_ok hq
      cases hq
      simp only [VRel] at hx; subst hx
      obtain ⟨b1, b2, b3, b4⟩ := bounds3_ok (w := w) (len := 0) (cap := 0) hb h1 h2 h3 (Nat.le_refl _)
      have e3 : b.2.2 = 0 := Nat.le_zero.1 b4
      have e2 : b.2.1 = 0 := by rw [e3] at b3; exact Nat.le_zero.1 b3
      have e1 : b.1 = 0 := by rw [e2] at b2; exact Nat.le_zero.1 b2
      refine ⟨.slice none 0 0, ?_, rfl⟩
      simp only [Instr.sliceAt, Instr.slice, Sem.run_bind, run_und hu, Result.andThen_ok, b1, hs', Sem.run_pure, e1, e2, e3, if_true, Nat.sub_self]
    | none, _, hq, _ => cases hq
    | some _, none, _, h2 => exact h2.elim
  | .sl o off len, none, none, hq, hx, _ =>
    obtain ⟨n, hn, hq⟩ := Res.bind_ok hq
    obtain ⟨b, hb, hq⟩ := Res.bind_ok hq
    cases hq
    obtain ⟨e, xo, cap, he, rfl, hcap, hlen, hxo⟩ := hx
    have hroom : n ≤ cap ∧ e.esz = size := by
      unfold roomOf at hn
      split at hn
      · rename_i ez fz vs ho
        split at hn
        · rename_i hez
          cases hn
          obtain ⟨e', g1, _, g⟩ := r.obj o _ ho
          rw [he] at g1; cases g1
          obtain ⟨c, T, fr, _, g2, _, g4, _⟩ := g
          rw [g2, hez.1] at hcap
          have hpos : 0 < size := Nat.pos_of_ne_zero hez.2
          refine ⟨?_, g2.trans hez.1⟩
          calc (vs.length - off) / size ≤ (cap * size) / size := Nat.div_le_div_right (by omega)
            _ = cap := Nat.mul_div_cancel _ hpos
        · cases hn
      · cases hn
    obtain ⟨b1, b2, b3⟩ := bounds2_ok (w := w) (isS := true) hb h1 h2 (Nat.le_max_left _ _) cap (Nat.max_le.2 ⟨hlen, hroom.1⟩)
    have b4 : b.2 ≤ cap := Nat.le_trans b3 (Nat.max_le.2 ⟨hlen, hroom.1⟩)
    refine ⟨.slice (if cap = b.1 then some ⟨e.blk, xo, none⟩ else some ((⟨e.blk, xo, none⟩ : Addr).add (b.1 * size))) (b.2 - b.1) (cap - b.1), ?_, ?_⟩
    · simp only [Instr.sliceAt, Instr.slice, Sem.run_bind, run_und hu, Result.andThen_ok, b1, hs', Sem.run_pure, Option.map_some]
    · rw [hroom.2] at hcap
      have hmul : (cap - b.1) * size + b.1 * size = cap * size := by rw [← Nat.add_mul]; congr 1; omega
      by_cases hc : cap = b.1
      · simp only [hc, if_true]
        refine ⟨e, xo, b.1 - b.1, he, rfl, ?_, by omega, by right; omega⟩
        rw [hroom.2, Nat.sub_self, Nat.zero_mul, ← hc]; omega
      · simp only [hc, if_false, add_none]
        refine ⟨e, xo + b.1 * size, cap - b.1, he, rfl, ?_, by omega, ?_⟩
        · rw [hroom.2]; omega
        · left; rcases hxo with hxo | hxo
          · omega
          · omega
  | .rsl ro off len, none, none, hq, hx, _ =>
    obtain ⟨b, hb, hq⟩ := Res.bind_ok hq
    cases hq
    obtain ⟨e, xo, cap, he, rfl, hlen, hxo⟩ := hx
    obtain ⟨b1, b2, b3⟩ := bounds2_ok (w := w) (isS := true) hb h1 h2 (Nat.le_refl _) cap hlen
    refine ⟨.slice (if cap = b.1 then some ⟨e.1, xo, none⟩ else some ((⟨e.1, xo, none⟩ : Addr).add (b.1 * size))) (b.2 - b.1) (cap - b.1), ?_, ?_⟩
    · simp only [Instr.sliceAt, Instr.slice, Sem.run_bind, run_und hu, Result.andThen_ok, b1, hs', Sem.run_pure, Option.map_some]
    · by_cases hc : cap = b.1
      · simp only [hc, if_true]
        exact ⟨e, xo, b.1 - b.1, he, rfl, by omega, by right; omega⟩
      · simp only [hc, if_false, add_none]
        refine ⟨e, xo + b.1 * size, cap - b.1, he, rfl, by omega, ?_⟩
        rcases hxo with hxo | hxo
        · left; omega
        · right; omega
  | .slc o off len cap, none, none, hq, hx, _ =>
    obtain ⟨b, hb, hq⟩ := Res.bind_ok hq
    cases hq
    obtain ⟨e, xo, he, rfl, hlen, hxo⟩ := hx
    obtain ⟨b1, b2, b3⟩ := bounds2_ok (w := w) (isS := true) hb h1 h2 hlen cap (Nat.le_refl _)
    refine ⟨_, ?_, slcOf_ok he hxo b2 b3 (Nat.le_refl _)⟩
    simp only [Instr.sliceAt, Instr.slice, Sem.run_bind, run_und hu, Result.andThen_ok, b1, hs', Sem.run_pure, Option.map_some]
  | .sl o off len, some mo, some mv, hq, hx, h3 =>
    match hi, hiv, hq, h2 with
    | some hv, some hiv, hq, h2 =>
      obtain ⟨b, hb, hq⟩ := Res.bind_ok hq
      cases hq
      obtain ⟨e, xo, cap, he, rfl, hcap, hlen, hxo⟩ := hx
      obtain ⟨b1, b2, b3, b4⟩ := bounds3_ok (w := w) (len := len) (cap := cap) hb h1 h2 h3 hlen
      refine ⟨_, ?_, slcOf_ok he hxo b2 b3 (Nat.le_trans b4 hlen)⟩
      simp only [Instr.sliceAt, Instr.slice, Sem.run_bind, run_und hu, Result.andThen_ok, b1, hs', Sem.run_pure, Option.map_some]
    | none, _, hq, _ => cases hq
    | some _, none, _, h2 => exact h2.elim

theorem slice_ok (r : Rel F ι h w) {t : Nat} {x res : AVal} {xv : Value} {lo hi mx : Option AVal} {lov hiv mv : Option Value} (hq : sliceR F.c h t x lo hi mx = .ok res) (hx : VRel ι F.ρ x xv)
    (h1 : OptV ι F.ρ lo lov) (h2 : OptV ι F.ρ hi hiv) (h3 : OptV ι F.ρ mx mv) : ∃ v, (Instr.sliceAt t xv lov hiv mv).run F.c.P w = .ok v w ∧ VRel ι F.ρ res v := by
  unfold sliceR at hq
  obtain ⟨d, hd, hq⟩ := Res.bind_ok hq
  have hu := undR_ok hd
  match d, hd, hu, hq with
  | .string, hd, hu, hq =>
    match x, mx, mv, hq, hx, h3 with
    | .str s, none, none, hq, hx, _ =>
      obtain ⟨b, hb, hq⟩ := Res.bind_ok hq
      cases hq
      simp only [VRel] at hx; subst hx
      obtain ⟨b1, b2, b3⟩ := bounds2_ok (w := w) (isS := false) hb h1 h2 (Nat.le_refl _) s.length (Nat.le_refl _)
      refine ⟨.string ⟨((s.take b.2).drop b.1).toArray⟩, ?_, rfl⟩
      simp [Instr.sliceAt, Instr.slice, run_und hu, ba_size, b1, ba_extract]
  | .slice el, hd, hu, hq =>
    obtain ⟨size, hs, hq⟩ := Res.bind_ok hq
    exact sliceSl_ok r hu hs hq hx h1 h2 h3
  | .array n el, hd, hu, hq =>
    obtain ⟨size, hs, hq⟩ := Res.bind_ok hq
    have hs' := fun w => run_size hs w
    match x, mx, mv, hq, hx, h3 with
    | .ptr o off, none, none, hq, hx, _ =>
      obtain ⟨b, hb, hq⟩ := Res.bind_ok hq
      cases hq
      obtain ⟨e, he, rfl⟩ := hx
      obtain ⟨b1, b2, b3⟩ := bounds2_ok (w := w) (isS := false) hb h1 h2 (Nat.le_refl _) n (Nat.le_refl _)
      have := slcOf_ok (F := F) (size := size) (x := e.base + off) he (.inl rfl) b2 b3 (Nat.le_refl _)
      refine ⟨_, ?_, this⟩
      simp only [Instr.sliceAt, Instr.sureAddr, Sem.run_bind, run_und hu, Result.andThen_ok, b1, hs', Sem.run_pure]
      congr 2
      split <;> rfl

theorem addOff_ok {x res : AVal} {n : Nat} {xv : Value} (hq : addOff x n = .ok res) (hx : VRel ι F.ρ x xv) : ∃ a, xv = .pointer (some a) ∧ VRel ι F.ρ res (.pointer (some (a.add n))) := by
  unfold addOff at hq
  split at hq
  · cases hq; obtain ⟨e, he, rfl⟩ := hx; exact ⟨_, rfl, e, he, by rw [add_none, Nat.add_assoc]⟩
  · cases hq; obtain ⟨e, he, rfl⟩ := hx; exact ⟨_, rfl, e, he, by rw [add_none, Nat.add_assoc]⟩
  · cases hq

theorem fieldOf_ok {P : Program} {t f : Nat} {fd : Field} (hq : fieldOf P t f = .ok fd) : ∃ fs, P.underlying t = some (.struct fs) ∧ fs[f]? = some fd := by
  unfold fieldOf at hq
  obtain ⟨d, hd, hq⟩ := Res.bind_ok hq
  split at hq
  · exact ⟨_, undR_ok hd, by simpa using ofOpt_ok hq⟩
  · cases hq

theorem fieldAddr_ok {t f : Nat} {x res : AVal} {xv : Value} (hq : fieldAddrR F.c.P t x f = .ok res) (hx : VRel ι F.ρ x xv) : ∃ v, (Instr.fieldAt t xv f).run F.c.P w = .ok v w ∧ VRel ι F.ρ res v := by
  unfold fieldAddrR at hq
  obtain ⟨fd, h1, hq⟩ := Res.bind_ok hq
  obtain ⟨n, h2, hq⟩ := Res.bind_ok hq
  split at hq
  · cases hq
  · rename_i hn
    obtain ⟨fs, hu, hf⟩ := fieldOf_ok h1
    obtain ⟨a, rfl, hr⟩ := addOff_ok hq hx
    exact ⟨_, by simp [Instr.fieldAt, run_und hu, hf, Instr.sureAddr, fieldPlace, run_size h2, hn], hr⟩

theorem field_ok {t f : Nat} {x res : AVal} {xv : Value} (hq : fieldR F.c.P t x f = .ok res) (hx : VRel ι F.ρ x xv) : ∃ v, (Instr.field t xv f).run F.c.P w = .ok v w ∧ VRel ι F.ρ res v := by
  unfold fieldR at hq
  split at hq
  · obtain ⟨fd, h1, hq⟩ := Res.bind_ok hq
    obtain ⟨fs, hu, hf⟩ := fieldOf_ok h1
    obtain ⟨cs, rfl, c1, c2⟩ := hx
    obtain ⟨v, v1, v2⟩ := part_ok (w := w) c1 c2 hq
    exact ⟨v, by simp [Instr.field, run_und hu, hf, asAgg, v1], v2⟩
  · cases hq

theorem idx_ok {i : AVal} {iv : Value} {len n : Nat} (hq : idxNat i len = .ok n) (hi : VRel ι F.ρ i iv) : ∃ k z, iv = .int k z ∧ 0 ≤ z ∧ z < len ∧ n = z.toNat := by
  unfold idxNat at hq
  split at hq
  · split at hq
    · rename_i hz; cases hq; simp only [VRel] at hi; exact ⟨_, _, hi, hz.1, hz.2, rfl⟩
    · cases hq
  · cases hq

theorem indexAddr_ok {t : Nat} {x i res : AVal} {xv iv : Value} (hq : indexAddrR F.c.P t x i = .ok res) (hx : VRel ι F.ρ x xv) (hi : VRel ι F.ρ i iv) : ∃ v, (Instr.indexAt t xv iv).run F.c.P w = .ok v w ∧ VRel ι F.ρ res v := by
  unfold indexAddrR at hq
  obtain ⟨d, hd, hq⟩ := Res.bind_ok hq
  have hu := undR_ok hd
  split at hq
  · rename_i el
    obtain ⟨size, hs, hq⟩ := Res.bind_ok hq
    split at hq
    · obtain ⟨n, hn, hq⟩ := Res.bind_ok hq
      cases hq
      obtain ⟨k, z, rfl, z1, z2, rfl⟩ := idx_ok hn hi
      obtain ⟨e, xo, cap, he, rfl, hcap, hlen, hxo⟩ := hx
      refine ⟨.pointer (some ((⟨e.blk, xo, none⟩ : Addr).add (z.toNat * size))), by simp [Instr.indexAt, run_und hu, asIntOf, run_size hs, z1, z2], e, he, ?_⟩
      rw [add_none]
      rcases hxo with hxo | hxo
      · subst hxo; rw [Nat.add_assoc]
      · omega
    · obtain ⟨n, hn, hq⟩ := Res.bind_ok hq
      cases hq
      obtain ⟨k, z, rfl, z1, z2, rfl⟩ := idx_ok hn hi
      obtain ⟨e, xo, he, rfl, hlen, hxo⟩ := hx
      refine ⟨.pointer (some ((⟨e.blk, xo, none⟩ : Addr).add (z.toNat * size))), by simp [Instr.indexAt, run_und hu, asIntOf, run_size hs, z1, z2], e, he, ?_⟩
      rw [add_none]
      rcases hxo with hxo | hxo
      · subst hxo; rw [Nat.add_assoc]
      · omega
    · obtain ⟨n, hn, hq⟩ := Res.bind_ok hq
      cases hq
      obtain ⟨k, z, rfl, z1, z2, rfl⟩ := idx_ok hn hi
      obtain ⟨e, xo, cap, he, rfl, hlen, hxo⟩ := hx
      refine ⟨.pointer (some ((⟨e.1, xo, none⟩ : Addr).add (z.toNat * size))), by simp [Instr.indexAt, run_und hu, asIntOf, run_size hs, z1, z2], e, he, ?_⟩
      rw [add_none]
      rcases hxo with hxo | hxo
      · subst hxo; rw [Nat.add_assoc]
      · omega
    · cases hq
  · obtain ⟨size, hs, hq⟩ := Res.bind_ok hq
    obtain ⟨n, hn, hq⟩ := Res.bind_ok hq
    obtain ⟨k, z, rfl, z1, z2, rfl⟩ := idx_ok hn hi
    obtain ⟨a, rfl, hr⟩ := addOff_ok hq hx
    exact ⟨_, by simp [Instr.indexAt, run_und hu, asIntOf, run_size hs, Instr.sureAddr, z1, z2], hr⟩
  · cases hq

theorem index_ok {t : Nat} {x i res : AVal} {xv iv : Value} (hq : indexR F.c.P t x i = .ok res) (hx : VRel ι F.ρ x xv) (hi : VRel ι F.ρ i iv) : ∃ v, (Instr.index t xv iv).run F.c.P w = .ok v w ∧ VRel ι F.ρ res v := by
  unfold indexR at hq
  obtain ⟨d, hd, hq⟩ := Res.bind_ok hq
  have hu := undR_ok hd
  split at hq
  · split at hq
    · obtain ⟨n, hn, hq⟩ := Res.bind_ok hq
      obtain ⟨b, hb, hq⟩ := Res.bind_ok hq
      cases hq
      obtain ⟨k, z, rfl, z1, z2, rfl⟩ := idx_ok hn hi
      simp only [VRel] at hx; subst hx
      have hb := ofOpt_ok hb
      exact ⟨_, by simp [Instr.index, run_und hu, asIntOf, z1, ba_get, hb], rfl⟩
    · cases hq
  · split at hq
    · obtain ⟨n, hn, hq⟩ := Res.bind_ok hq
      obtain ⟨size, hs, hq⟩ := Res.bind_ok hq
      obtain ⟨k, z, rfl, z1, z2, rfl⟩ := idx_ok hn hi
      obtain ⟨cs, rfl, c1, c2⟩ := hx
      obtain ⟨v, v1, v2⟩ := part_ok (w := w) c1 c2 hq
      exact ⟨v, by simp [Instr.index, run_und hu, asIntOf, z1, z2, run_size hs, v1], v2⟩
    · cases hq
  · cases hq

theorem extract_ok {x res : AVal} {i : Nat} {xv : Value} (hq : extractR x i = .ok res) (hx : VRel ι F.ρ x xv) : ∃ v, (Instr.extract xv i).run F.c.P w = .ok v w ∧ VRel ι F.ρ res v := by
  unfold extractR at hq
  split at hq
  · obtain ⟨a, rfl, c1⟩ := hx
    obtain ⟨v, v1, v2⟩ := c1.get (nthR_ok hq)
    have : a[i]? = some v := by simpa using v1
    exact ⟨v, by simp [Instr.extract, this], v2⟩
  · cases hq

/-! ### values that are built -/
theorem fill_cells (off : Nat) : ∀ (l : List Value) (j : Nat) (cells : Array Value), off + j + l.length ≤ cells.size →
    ((l.zipIdx j).foldl (fun cs (c, j) => cs.setIfInBounds (off + j) c) cells).toList = cells.toList.take (off + j) ++ l ++ cells.toList.drop (off + j + l.length)
  | [], j, cells, _ => by simp
  | v :: l, j, cells, hl => by
    simp only [List.length_cons] at hl
    have ih := fill_cells off l (j + 1) (cells.setIfInBounds (off + j) v) (by simp; omega)
    simp only [List.zipIdx_cons, List.foldl_cons, ih]
    have e := list_seg_step cells.toList (off + j) v l (by simp; omega)
    simpa [Array.toList_setIfInBounds, Nat.add_assoc] using e

inductive PartsRel (ι : Inj) (ρ : RoMap) : List (Nat × AVal) → List (Nat × Value) → Prop
  | nil : PartsRel ι ρ [] []
  | cons {i : Nat} {a : AVal} {v : Value} {l : List (Nat × AVal)} {m : List (Nat × Value)} : VRel ι ρ a v → PartsRel ι ρ l m → PartsRel ι ρ ((i, a) :: l) ((i, v) :: m)

theorem VRels.over {ρ : RoMap} {vs cs vs' : List AVal} {off : Nat} {c : List Value} {us : List Value} (h : VRels ι ρ vs c) (hov : overR vs off cs = .ok vs') (hu : VRels ι ρ cs us) :
    VRels ι ρ vs' (c.take off ++ us ++ c.drop (off + us.length)) := by
  obtain ⟨b1, rfl⟩ := overR_ok hov
  rw [← hu.length]
  exact ((h.take off).append hu).append (h.drop _)

theorem fill_ok {ρ : RoMap} {place : Nat → Option (Nat × Nat)} : ∀ (parts : List (Nat × AVal)) (pv : List (Nat × Value)) (cells res : List AVal) (cv : Array Value), fillR place cells parts = .ok res → PartsRel ι ρ parts pv →
    VRels ι ρ cells cv.toList → (∀ x ∈ cv.toList, oneC x = true) → ∃ rv, Instr.fill place cv pv = some rv ∧ VRels ι ρ res rv.toList ∧ ∀ x ∈ rv.toList, oneC x = true
  | [], _, cells, res, cv, hq, hp, hc, ho => by
    cases hp; simp [fillR] at hq; subst hq
    exact ⟨cv, rfl, hc, ho⟩
  | (i, a) :: parts, _, cells, res, cv, hq, hp, hc, ho => by
    cases hp with
    | cons hv hp =>
      rename_i v m
      unfold fillR at hq
      obtain ⟨p, h1, hq⟩ := Res.bind_ok hq
      obtain ⟨cs, h2, hq⟩ := Res.bind_ok hq
      split at hq
      rotate_left; · cases hq
      rename_i hlen
      obtain ⟨cells', h3, hq⟩ := Res.bind_ok hq
      obtain ⟨u1, u2⟩ := hv.cells h2
      have hpl := ofOpt_ok h1
      have hl := u1.length
      have hcl := hc.length
      obtain ⟨b1, b2⟩ := overR_ok h3
      have hsz : v.cells.size = p.2 := by simpa using hl.symm.trans hlen
      have hfit : ¬ (p.1 + v.cells.size > cv.size) := by simp at hcl hl; omega
      have hfc := fill_cells p.1 v.cells.toList 0 cv (by simp at hcl hl ⊢; omega)
      have hfa : v.cells.zipIdx.foldl (fun cs (c, j) => cs.setIfInBounds (p.1 + j) c) cv = (cv.toList.take p.1 ++ v.cells.toList ++ cv.toList.drop (p.1 + v.cells.toList.length)).toArray := by
        apply Array.toList_inj.1
        rw [← Array.foldl_toList, Array.toList_zipIdx]
        simpa using hfc
      have hov := hc.over h3 u1
      obtain ⟨rv, r1, r2, r3⟩ := fill_ok parts m cells' res (cv.toList.take p.1 ++ v.cells.toList ++ cv.toList.drop (p.1 + v.cells.toList.length)).toArray hq hp (by simpa using hov) (by
        intro x hx
        simp at hx
        rcases hx with hx | hx | hx
        · exact ho x (List.mem_of_mem_take hx)
        · exact u2 x (by simpa using hx)
        · exact ho x (List.mem_of_mem_drop hx))
      refine ⟨rv, ?_, r2, r3⟩
      simp only [Instr.fill, hpl, hsz, ne_eq, not_true_eq_false, decide_false, Bool.false_or]
      rw [hsz] at hfit
      simp only [hfit, decide_false, Bool.false_eq_true, if_false, hfa]
      exact r1

theorem places_ok {P : Program} {w : World} : ∀ (fs : List Field) (pl : List (Nat × Nat)), placesOf P fs = .ok pl → (fs.mapM fun f => (do pure (f.offset, ← sizeOf f.type) : Sem (Nat × Nat))).run P w = .ok pl w
  | [], pl, hq => by simp [placesOf] at hq; subst hq; simp
  | f :: fs, pl, hq => by
    unfold placesOf at hq
    obtain ⟨n, h1, hq⟩ := Res.bind_ok hq
    obtain ⟨rest, h2, hq⟩ := Res.bind_ok hq
    cases hq
    exact run_mapM_cons f fs _ w (by simp [run_size h1]) (places_ok fs rest h2)

theorem build_ok {t : Nat} {parts : List (Nat × AVal)} {pv : Array (Nat × Value)} {res : AVal} (hq : buildR F.c.P t parts = .ok res) (hp : PartsRel ι F.ρ parts pv.toList) :
    ∃ v, (Instr.build t pv).run F.c.P w = .ok v w ∧ VRel ι F.ρ res v := by
  unfold buildR at hq
  obtain ⟨z, h1, hq⟩ := Res.bind_ok hq
  obtain ⟨zs, h2, hq⟩ := Res.bind_ok hq
  obtain ⟨d, h3, hq⟩ := Res.bind_ok hq
  have hu := undR_ok h3
  obtain ⟨zv, z1, z2⟩ := zeroV_ok (ι := ι) (ρ := F.ρ) h1
  obtain ⟨c1, c2⟩ := z2.cells h2
  split at hq
  · rename_i fs
    obtain ⟨pl, h4, hq⟩ := Res.bind_ok hq
    obtain ⟨cs, h5, hq⟩ := Res.bind_ok hq
    cases hq
    obtain ⟨rv, r1, r2, r3⟩ := fill_ok parts pv.toList zs cs zv.cells h5 hp c1 c2
    have hpl := run_mapM_arr fs (fun f => (do pure (f.offset, ← sizeOf f.type) : Sem (Nat × Nat))) w (places_ok fs.toList pl h4)
    refine ⟨.agg rv, ?_, rv, rfl, r2, r3⟩
    have e : (fun (i : Nat) => pl.toArray[i]?) = fun (i : Nat) => pl[i]? := by funext i; simp
    simp only [Instr.build, Sem.run_bind, z1, Result.andThen_ok, run_und hu, hpl, e, r1, Sem.run_pure]
  · obtain ⟨size, h4, hq⟩ := Res.bind_ok hq
    obtain ⟨cs, h5, hq⟩ := Res.bind_ok hq
    cases hq
    obtain ⟨rv, r1, r2, r3⟩ := fill_ok parts pv.toList zs cs zv.cells h5 hp c1 c2
    refine ⟨.agg rv, ?_, rv, rfl, r2, r3⟩
    simp only [Instr.build, Sem.run_bind, z1, Result.andThen_ok, run_und hu, run_size h4, r1, Sem.run_pure]
  · cases hq
end
end Go.Proofs.YtofnbldbggddmaaGreatDoor
namespace Go.Proofs.YtofnbldbggddmaaGreatDoor
open Go Go.RowKit

section
variable {P : Program} {w : World}

theorem notMake_ok {x : Option Nat} (hq : notMake P x = .ok ()) : x = none ∨ ∃ t d, x = some t ∧ P.underlying t = some d ∧ ∀ k, d = .int k → False := by
  unfold notMake at hq
  split at hq
  · obtain ⟨d, hd, hq⟩ := Res.bind_ok hq
    refine .inr ⟨_, d, rfl, undR_ok hd, ?_⟩
    rintro k rfl
    cases hq
  · exact .inl rfl

set_option maxHeartbeats 1000000 in
theorem append_in {ts : Array TypeId} {ty t e : Nat} {i : TypeInfo} (h0 : ts[0]? = some t) (hu : P.underlying t = some (.slice e)) (hi : P.info? e = some i) (hn : notMake P ts[1]? = .ok ())
    {a : Addr} {sLen sCap n : Nat} {x : Value} {cs : Array Value} {w' : World} (hl : (Builtin.lenOf x).run P w = .ok n w) (hle : sLen + n ≤ sCap) (hf : (Builtin.firstCells i.size n x).run P w = .ok cs w)
    (hs : (storeCells (a.add (sLen * i.size)) cs.toList).run P w = .ok () w') : (Builtin.append_ ts ty #[.slice (some a) sLen sCap, x]).run P w = .ok (.slice (some a) (sLen + n) sCap) w' := by
  rcases notMake_ok hn with h1 | ⟨u, d, h1, h2, h3⟩
  · simp [Builtin.append_, h0, h1, run_und hu, run_sizeOf' hi, hl, hle, hf, hs]
  · simp [Builtin.append_, h0, h1, run_und hu, run_und h2, run_sizeOf' hi, hl, hle, hf, hs]

set_option maxHeartbeats 1000000 in
theorem append_in_nil {ts : Array TypeId} {ty t e : Nat} {i : TypeInfo} (h0 : ts[0]? = some t) (hu : P.underlying t = some (.slice e)) (hi : P.info? e = some i) (hn : notMake P ts[1]? = .ok ())
    {x : Value} {cs : Array Value} (hl : (Builtin.lenOf x).run P w = .ok 0 w) (hf : (Builtin.firstCells i.size 0 x).run P w = .ok cs w) :
    (Builtin.append_ ts ty #[.slice none 0 0, x]).run P w = .ok (.slice none 0 0) w := by
  rcases notMake_ok hn with h1 | ⟨u, d, h1, h2, h3⟩
  · simp [Builtin.append_, h0, h1, run_und hu, run_sizeOf' hi, hl, hf]
  · simp [Builtin.append_, h0, h1, run_und hu, run_und h2, run_sizeOf' hi, hl, hf]

set_option maxHeartbeats 4000000 in
theorem append_new {ts : Array TypeId} {ty t e : Nat} {i : TypeInfo} (h0 : ts[0]? = some t) (hu : P.underlying t = some (.slice e)) (hi : P.info? e = some i) (hn : notMake P ts[1]? = .ok ())
    {base : Option Addr} {sLen sCap n : Nat} {x : Value} {cs old : Array Value} {z : Value} (hl : (Builtin.lenOf x).run P w = .ok n w) (hle : ¬ sLen + n ≤ sCap) (hb : i.bytes ≠ 0)
    (hroom : ¬ (281474976710656 < Builtin.nextslicecap (sLen + n) sCap * i.bytes)) (hf : ∀ d, (Builtin.firstCells i.size n x).run P { w with drawn := d } = .ok cs { w with drawn := d })
    (ho : ∀ d, (Builtin.firstCells i.size sLen (.slice base sLen sCap)).run P { w with drawn := d } = .ok old { w with drawn := d }) (hz : ∀ w, (zeroValue e).run P w = .ok z w) :
    ∃ newCap, sLen + n ≤ newCap ∧ (Builtin.append_ ts ty #[.slice base sLen sCap, x]).run P w =
      .ok (.slice (some ⟨w.heap.size, 0, none⟩) (sLen + n) newCap) { w with drawn := w.drawn + 1, heap := w.heap.push (.cells (old ++ cs ++ Builtin.zeroCells z.cells (newCap - (sLen + n))) e) } := by
  obtain ⟨nc, hnc, hch⟩ : ∃ nc, sLen + n ≤ nc ∧ (choose (.appendCap (sLen + n) sCap e)).run P w = .ok nc { w with drawn := w.drawn + 1 } := by
    refine ⟨sLen + n + w.tape w.drawn (.appendCap (sLen + n) sCap e) % (2 ^ 63 - (sLen + n)), Nat.le_add_right _ _, ?_⟩
    rw [run_choose, if_neg (by simp [Question.forced])]
    simp only [Question.cut]
  refine ⟨nc, hnc, ?_⟩
  have hf' : (Builtin.firstCells i.size n x).run P w.drew = .ok cs w.drew := hf (w.drawn + 1)
  have ho' : (Builtin.firstCells i.size sLen (.slice base sLen sCap)).run P w.drew = .ok old w.drew := ho (w.drawn + 1)
  have hch' : (choose (.appendCap (sLen + n) sCap e)).run P w = .ok nc w.drew := hch
  have hfin : (Go.newRow e (old ++ (cs ++ Builtin.zeroCells z.cells (nc - (sLen + n))))).run P w.drew =
      .ok ⟨w.heap.size, 0, none⟩ { w with drawn := w.drawn + 1, heap := w.heap.push (.cells (old ++ cs ++ Builtin.zeroCells z.cells (nc - (sLen + n))) e) } := by
    rw [Array.append_assoc]; rfl
  clear hf ho hch
  rcases notMake_ok hn with h1 | ⟨u, d, h1, h2, h3⟩
  · simp [-run_choose, Builtin.append_, h0, h1, run_und hu, run_sizeOf' hi, run_typeInfo' hi, hl, hle, hb, hroom, hch', hf', ho', hz, hfin]
  · simp [-run_choose, Builtin.append_, h0, h1, run_und hu, run_und h2, run_sizeOf' hi, run_typeInfo' hi, hl, hle, hb, hroom, hch', hf', ho', hz, h3, hfin]

set_option maxHeartbeats 4000000 in
/-- append(s, make(..)...): a new row -/
theorem append_new0 {ts : Array TypeId} {ty t e u : Nat} {i : TypeInfo} {k' : IntKind} (h0 : ts[0]? = some t) (hu : P.underlying t = some (.slice e)) (hi : P.info? e = some i) (h1 : ts[1]? = some u) (h2 : P.underlying u = some (.int k'))
    {base : Option Addr} {sLen sCap : Nat} {l : Int} {k : IntKind} {old : Array Value} {z : Value} (hl0 : ¬ l < 0) (hl : IntKind.i64.wrap l = l) (hle : ¬ sLen + l.toNat ≤ sCap) (hb : i.bytes ≠ 0)
    (hneed : (sLen + l.toNat) * i.bytes ≤ 2 ^ 47) (hzs : z.cells.size = i.size)
    (hroom : ¬ (281474976710656 < Builtin.nextslicecap (sLen + l.toNat) sCap * i.bytes))
    (ho : ∀ d, (Builtin.firstCells i.size sLen (.slice base sLen sCap)).run P { w with drawn := d } = .ok old { w with drawn := d }) (hz : ∀ w, (zeroValue e).run P w = .ok z w) :
    ∃ newCap, sLen + l.toNat ≤ newCap ∧ (Builtin.append_ ts ty #[.slice base sLen sCap, .int k l]).run P w =
      .ok (.slice (some ⟨w.heap.size, 0, none⟩) (sLen + l.toNat) newCap) { w with drawn := w.drawn + 1, heap := w.heap.push (.cells (old ++ Builtin.zeroCells z.cells l.toNat ++ Builtin.zeroCells z.cells (newCap - (sLen + l.toNat))) e) } := by
  obtain ⟨n, hn⟩ : ∃ n : Nat, l = n := ⟨l.toNat, by omega⟩
  subst hn
  simp only [Int.toNat_natCast] at hle hneed hroom ⊢
  obtain ⟨nc, hnc, hch⟩ : ∃ nc, sLen + n ≤ nc ∧ (choose (.appendCap (sLen + n) sCap e)).run P w = .ok nc { w with drawn := w.drawn + 1 } := by
    refine ⟨sLen + n + w.tape w.drawn (.appendCap (sLen + n) sCap e) % (2 ^ 63 - (sLen + n)), Nat.le_add_right _ _, ?_⟩
    rw [run_choose, if_neg (by simp [Question.forced])]
    simp only [Question.cut]
  refine ⟨nc, hnc, ?_⟩
  have ho' : (Builtin.firstCells i.size sLen (.slice base sLen sCap)).run P w.drew = .ok old w.drew := ho (w.drawn + 1)
  have hch' : (choose (.appendCap (sLen + n) sCap e)).run P w = .ok nc w.drew := hch
  have hfin : (Go.newRow e (old ++ (Builtin.zeroCells z.cells n ++ Builtin.zeroCells z.cells (nc - (sLen + n))))).run P w.drew =
      .ok ⟨w.heap.size, 0, none⟩ { w with drawn := w.drawn + 1, heap := w.heap.push (.cells (old ++ Builtin.zeroCells z.cells n ++ Builtin.zeroCells z.cells (nc - (sLen + n))) e) } := by
    rw [Array.append_assoc]; rfl
  have hfin0 : n * i.size = 0 → Builtin.zeroCells z.cells n = #[] := by
    intro hh
    simp [Builtin.zeroCells, hzs, hh]
  have hbig : ¬ (281474976710656 : Int) < (n : Int) * (i.bytes : Int) := by
    have h3 : n * i.bytes ≤ (sLen + n) * i.bytes := Nat.mul_le_mul_right _ (Nat.le_add_left _ _)
    have h4 : ((n * i.bytes : Nat) : Int) = (n : Int) * (i.bytes : Int) := by push_cast; rfl
    rw [← h4]; omega
  have hmx : ¬ (IntKind.i64.max < ((sLen + n : Nat) : Int)) := by
    have h3 : (sLen + n) * 1 ≤ (sLen + n) * i.bytes := Nat.mul_le_mul_left _ (Nat.pos_of_ne_zero hb)
    have : IntKind.i64.max = 9223372036854775807 := by decide
    rw [this]; omega
  have hmx' : ¬ ((9223372036854775807 : Int) < (sLen : Int) + (n : Int)) := by
    have e : IntKind.i64.max = 9223372036854775807 := by decide
    rw [e] at hmx; simpa using hmx
  have hn0 : ¬ ((n : Int) < 0) := by omega
  have hai : ∀ w, (asIntOf (.int k (n : Int))).run P w = .ok (k, (n : Int)) w := fun _ => rfl
  clear ho hch
  by_cases hs0 : n * i.size = 0
  · have hs0' := hfin0 hs0
    rw [hs0'] at hfin ⊢
    have hs1 : n = 0 ∨ i.size = 0 := by rcases Nat.mul_eq_zero.1 hs0 with h | h; exact .inl h; exact .inr h
    simp [-run_choose, Builtin.append_, h0, h1, run_und hu, run_und h2, run_sizeOf' hi, run_typeInfo' hi, hl, hle, hb, hroom, hch', ho', hz, hs0, hs1, asInt, hai, hn0, hbig, hmx, hmx'] at hfin ⊢
    simp [hfin]
  · have hs1 : ¬ (n = 0 ∨ i.size = 0) := fun h => hs0 (by rcases h with h | h <;> simp [h])
    simp [-run_choose, Builtin.append_, h0, h1, run_und hu, run_und h2, run_sizeOf' hi, run_typeInfo' hi, hl, hle, hb, hroom, hch', ho', hz, hs0, hs1, hfin, asInt, hai, hn0, hbig, hmx, hmx']
end
end Go.Proofs.YtofnbldbggddmaaGreatDoor
