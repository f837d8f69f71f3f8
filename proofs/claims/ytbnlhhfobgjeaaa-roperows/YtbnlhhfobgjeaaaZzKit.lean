/-
  The words of a walk: what simp unfolds, and small laws.
-/
import Derived.Test.YtbnlhhfobgjeaaaZzWp
import Derived.KernelRfl
set_option linter.all false
namespace Go.Proofs.Ytbnlhhfobgjeaaa
open Go Go.RowKit


/-! cells of a value -/
@[simp] theorem ce_agg (vs : List AVal) : cellsV (.agg vs) = .ok vs := rfl
@[simp] theorem ce_bool (b : Bool) : cellsV (.bool b) = .ok [.bool b] := rfl
@[simp] theorem ce_int (k : IntKind) (n : Int) : cellsV (.int k n) = .ok [.int k n] := rfl
@[simp] theorem ce_float (k : FloatKind) (n : Nat) : cellsV (.float k n) = .ok [.float k n] := rfl
@[simp] theorem ce_cplx (k : FloatKind) (n m : Nat) : cellsV (.cplx k n m) = .ok [.cplx k n m] := rfl
@[simp] theorem ce_str (s : List UInt8) : cellsV (.str s) = .ok [.str s] := rfl
@[simp] theorem ce_nilp  : cellsV (.nilp) = .ok [.nilp] := rfl
@[simp] theorem ce_ptr (n m : Nat) : cellsV (.ptr n m) = .ok [.ptr n m] := rfl
@[simp] theorem ce_rptr (n m : Nat) : cellsV (.rptr n m) = .ok [.rptr n m] := rfl
@[simp] theorem ce_nils  : cellsV (.nils) = .ok [.nils] := rfl
@[simp] theorem ce_sl (n m o : Nat) : cellsV (.sl n m o) = .ok [.sl n m o] := rfl
@[simp] theorem ce_slc (n m o q : Nat) : cellsV (.slc n m o q) = .ok [.slc n m o q] := rfl
@[simp] theorem ce_rsl (n m o : Nat) : cellsV (.rsl n m o) = .ok [.rsl n m o] := rfl
@[simp] theorem ce_nilm  : cellsV (.nilm) = .ok [.nilm] := rfl
@[simp] theorem ce_map (n : Nat) : cellsV (.map n) = .ok [.map n] := rfl
@[simp] theorem ce_func (n : Nat) (a b : List AVal) : cellsV (.func n a b) = .ok [.func n a b] := rfl
@[simp] theorem ce_nilf  : cellsV (.nilf) = .ok [.nilf] := rfl
@[simp] theorem ce_iface (n : Nat) (v : AVal) : cellsV (.iface n v) = .ok [.iface n v] := rfl
@[simp] theorem ce_nili  : cellsV (.nili) = .ok [.nili] := rfl

/-! what is told by the first look at a value -/
def indexAddrC (P : Program) (t : Nat) (x i : AVal) : Res AVal :=
  (undR P t).bind fun
  | .slice e => (sizeR P e).bind fun size => match x with
    | .sl o off len | .slc o off len _ => (idxNat i len).bind fun n => .ok (.ptr o (off + n * size))
    | .rsl r off len => (idxNat i len).bind fun n => .ok (.rptr r (off + n * size))
    | _ => .err 95
  | .array len e => (sizeR P e).bind fun size => (idxNat i len).bind fun n => addOff x (n * size)
  | _ => .err 96
section
variable (P : Program) (t : Nat) (i : AVal) (o off len cap : Nat)
@[simp] theorem ia_sl : indexAddrR P t (.sl o off len) i = indexAddrC P t (.sl o off len) i := rfl
@[simp] theorem ia_slc : indexAddrR P t (.slc o off len cap) i = indexAddrC P t (.slc o off len cap) i := rfl
@[simp] theorem ia_rsl : indexAddrR P t (.rsl o off len) i = indexAddrC P t (.rsl o off len) i := rfl
@[simp] theorem ia_ptr : indexAddrR P t (.ptr o off) i = indexAddrC P t (.ptr o off) i := rfl
@[simp] theorem ia_rptr : indexAddrR P t (.rptr o off) i = indexAddrC P t (.rptr o off) i := rfl
end
def loadC (c : Cfg) (h : AHeap) (t : Nat) (x : AVal) : Res AVal := (rowR c h x).bind fun r => partR c.P t r.1 r.2
def storeC (c : Cfg) (h : AHeap) (t : Nat) (x v : AVal) : Res AHeap :=
  match x with
  | .ptr o off => match h.get o with
    | some (.row e f vs) => (sizeR c.P t).bind fun n => (cellsV v).bind fun cs =>
        if cs.length = n then (overR vs off cs).bind fun vs' => .ok (h.set o (.row e f vs')) else .err 33
    | _ => .err 34
  | _ => .err 35
def lenC (c : Cfg) (h : AHeap) (t : Nat) (x : AVal) : Res AVal :=
  (undR c.P t).bind fun
  | .string => match x with
    | .str s => .ok (.int .i64 s.length)
    | _ => .err 148
  | .slice _ => match x with
    | .str _ => .err 149
    | x => (lenA x).bind fun n => .ok (.int .i64 n)
  | .map _ _ => (entriesR h x).bind fun es => .ok (.int .i64 es.length)
  | .array n _ => .ok (.int .i64 n)
  | .pointer a => (undR c.P a).bind fun
    | .array n _ => .ok (.int .i64 n)
    | _ => .err 150
  | _ => .err 151
section
variable (c : Cfg) (h : AHeap) (t : Nat) (v : AVal) (o off len cap : Nat) (s : List UInt8) (vs : List AVal)
@[simp] theorem lo_ptr : loadR c h t (.ptr o off) = loadC c h t (.ptr o off) := rfl
@[simp] theorem lo_rptr : loadR c h t (.rptr o off) = loadC c h t (.rptr o off) := rfl
@[simp] theorem st_ptr : storeR c h t (.ptr o off) v = storeC c h t (.ptr o off) v := rfl
@[simp] theorem le_nils : lenR c h t .nils = lenC c h t .nils := rfl
@[simp] theorem le_sl : lenR c h t (.sl o off len) = lenC c h t (.sl o off len) := rfl
@[simp] theorem le_slc : lenR c h t (.slc o off len cap) = lenC c h t (.slc o off len cap) := rfl
@[simp] theorem le_rsl : lenR c h t (.rsl o off len) = lenC c h t (.rsl o off len) := rfl
@[simp] theorem le_str : lenR c h t (.str s) = lenC c h t (.str s) := rfl
@[simp] theorem le_nilm : lenR c h t .nilm = lenC c h t .nilm := rfl
@[simp] theorem le_map : lenR c h t (.map o) = lenC c h t (.map o) := rfl
@[simp] theorem le_ptr : lenR c h t (.ptr o off) = lenC c h t (.ptr o off) := rfl
@[simp] theorem le_agg : lenR c h t (.agg vs) = lenC c h t (.agg vs) := rfl
@[simp] theorem la_nils : lenA .nils = .ok 0 := rfl
@[simp] theorem la_sl : lenA (.sl o off len) = .ok len := rfl
@[simp] theorem la_slc : lenA (.slc o off len cap) = .ok len := rfl
@[simp] theorem la_rsl : lenA (.rsl o off len) = .ok len := rfl
@[simp] theorem la_str : lenA (.str s) = .ok s.length := rfl
@[simp] theorem nc_ptr : nilCheckR (.ptr o off) = .ok (.ptr o off) := rfl
@[simp] theorem nc_rptr : nilCheckR (.rptr o off) = .ok (.rptr o off) := rfl
@[simp] theorem ao_ptr (n : Nat) : addOff (.ptr o off) n = .ok (.ptr o (off + n)) := rfl
@[simp] theorem ao_rptr (n : Nat) : addOff (.rptr o off) n = .ok (.rptr o (off + n)) := rfl
@[simp] theorem rs_nils (sz n : Nat) : readSl c h sz n .nils = if n = 0 then .ok [] else .err 40 := rfl
@[simp] theorem rs_sl (sz n : Nat) : readSl c h sz n (.sl o off len) = (if n = 0 then .ok [] else match h.get o with
    | some (.row _ _ vs) => takeR vs off (n * sz)
    | _ => .err 41) := rfl
@[simp] theorem rs_slc (sz n : Nat) : readSl c h sz n (.slc o off len cap) = (if n = 0 then .ok [] else match h.get o with
    | some (.row _ _ vs) => takeR vs off (n * sz)
    | _ => .err 41) := rfl
@[simp] theorem rs_rsl (sz n : Nat) : readSl c h sz n (.rsl o off len) = (if n = 0 then .ok [] else match c.ro o with
    | some vs => takeR vs off (n * sz)
    | none => .err 42) := rfl
@[simp] theorem rs_str (sz n : Nat) : readSl c h sz n (.str s) = if sz = 1 ∧ n ≤ s.length then .ok ((s.take n).map fun b => .int .u8 b.toNat) else .err 45 := rfl
end

attribute [simp] regionW regW textW_nil textW_cons drawW_nil drawW_cons stepW stepDW histW readsW gW orK skipK skipL resK callK callY pairK opY locK aliasY valK loadY makeK storeK textK drawK readK readOne readY readN impK finK seqK wpT blkE
attribute [simp] wp_skip wp_exit wp_goto wp_ret wp_seq wp_cond wp_block wp_region wp_loop wp_scope retK aliasPairs_nil aliasPairs_cons aliasPairs_none aliasAdd aliasOne keysOf joinN
attribute [simp] callOf how opR pureV opnd opnds opndParts nth setN putD clearAll clearOf slotOf lookN rs0 ifG wantedR toA toA1 ofOpt
attribute [simp] resultsR packR builtinR binR eqGuardA guardOk isConstOp aliasR baseOff stepOff loadCell storeCell cellAt makeCells aliasTo indexAddrC indexR rowR partR nthR lenC loadC storeC
attribute [simp] bndW_ok bndW_err bndW_bind orW_t orW_f orW_n orW_et orW_ef condW_ok extractR calleeR optR AVal.isCell convR readAt fillR boxR newRow kindOf sliceR lenSl findLabel
attribute [simp] List.replicate

theorem orD {p : Prop} [Decidable p] {y n : Unit → Prop} (h1 : p → y ()) (h2 : ¬p → n ()) : orW (decide p) y n := by rw [orW_d]; exact ⟨h1, h2⟩
theorem orB {b : Bool} {y n : Unit → Prop} (h1 : b = true → y ()) (h2 : b = false → n ()) : orW b y n := ⟨h1, h2⟩

@[simp] theorem bndW_ifE {α : Type} (p : Prop) [Decidable p] (n : Nat) (r : Res α) (K : α → Prop) : bndW (if p then .err n else r) K = (¬p ∧ bndW r K) := by
  by_cases h : p <;> simp [h]
@[simp] theorem bndW_ifT {α : Type} (p : Prop) [Decidable p] (n : Nat) (r : Res α) (K : α → Prop) : bndW (if p then r else .err n) K = (p ∧ bndW r K) := by
  by_cases h : p <;> simp [h]
def iand (k : IntKind) (a b : Int) : Int := k.wrap (BitVec.ofInt k.bits a &&& BitVec.ofInt k.bits b).toNat
def ior (k : IntKind) (a b : Int) : Int := k.wrap (BitVec.ofInt k.bits a ||| BitVec.ofInt k.bits b).toNat
def ixor (k : IntKind) (a b : Int) : Int := k.wrap (BitVec.ofInt k.bits a ^^^ BitVec.ofInt k.bits b).toNat
def ishl (k : IntKind) (a b : Int) : Int := k.wrap (a * 2 ^ (min b.toNat k.bits))
def ishr (k : IntKind) (a b : Int) : Int := a.fdiv (2 ^ (min b.toNat k.bits))
def inot (k : IntKind) (n : Int) : Int := k.wrap (BitVec.ofInt k.bits (if k.signed then -1 else k.max) ^^^ BitVec.ofInt k.bits n).toNat
section
variable (k : IntKind) (a b : Int)
@[simp] theorem sh_l : shiftBin .shl k a b = if b < 0 then .err 52 else .ok (.int k (ishl k a b)) := rfl
@[simp] theorem sh_r : shiftBin .shr k a b = if b < 0 then .err 52 else .ok (.int k (ishr k a b)) := rfl
@[simp] theorem un_xor : unR .xor (.int k a) = .ok (.int k (inot k a)) := rfl
@[simp] theorem un_neg : unR .neg (.int k a) = .ok (.int k (k.wrap (0 - a))) := rfl
@[simp] theorem un_not (b : Bool) : unR .not (.bool b) = .ok (.bool (!b)) := rfl
@[simp] theorem ib_add : intBin .add k a b = .ok (.int k (k.wrap (a + b))) := rfl
@[simp] theorem ib_sub : intBin .sub k a b = .ok (.int k (k.wrap (a - b))) := rfl
@[simp] theorem ib_mul : intBin .mul k a b = .ok (.int k (k.wrap (a * b))) := rfl
@[simp] theorem ib_quo : intBin .quo k a b = if b = 0 then .err 50 else .ok (.int k (k.wrap (a.tdiv b))) := rfl
@[simp] theorem ib_rem : intBin .rem k a b = if b = 0 then .err 50 else .ok (.int k (a.tmod b)) := rfl
@[simp] theorem ib_and : intBin .and k a b = .ok (.int k (iand k a b)) := rfl
@[simp] theorem ib_or : intBin .or k a b = .ok (.int k (ior k a b)) := rfl
@[simp] theorem ib_xor : intBin .xor k a b = .ok (.int k (ixor k a b)) := rfl
@[simp] theorem ib_eql : intBin .eql k a b = .ok (.bool (decide (a = b))) := by
  show Res.ok (AVal.bool (a == b)) = _
  congr 2
@[simp] theorem ib_neq : intBin .neq k a b = .ok (.bool (!decide (a = b))) := by
  show Res.ok (AVal.bool (a != b)) = _
  congr 2
@[simp] theorem ib_lss : intBin .lss k a b = .ok (.bool (decide (a < b))) := rfl
@[simp] theorem ib_leq : intBin .leq k a b = .ok (.bool (decide (a ≤ b))) := rfl
@[simp] theorem ib_gtr : intBin .gtr k a b = .ok (.bool (decide (b < a))) := rfl
@[simp] theorem ib_geq : intBin .geq k a b = .ok (.bool (decide (b ≤ a))) := rfl
end
section
variable (x y : List UInt8)
@[simp] theorem sb_add : strBin .add x y = if ((x.length + y.length : Nat) : Int) > IntKind.i64.max then .err 54 else .ok (.str (x ++ y)) := rfl
@[simp] theorem sb_eql : strBin .eql x y = .ok (.bool (decide (x = y))) := by
  show Res.ok (AVal.bool (x == y)) = _
  rw [show (x == y) = decide (x = y) by rw [Bool.eq_iff_iff]; simp]
@[simp] theorem sb_neq : strBin .neq x y = .ok (.bool (!decide (x = y))) := by
  show Res.ok (AVal.bool (!(x == y))) = _
  rw [show (x == y) = decide (x = y) by rw [Bool.eq_iff_iff]; simp]
end

theorem w64 {n : Int} (h1 : -9223372036854775808 ≤ n) (h2 : n < 9223372036854775808) : IntKind.i64.wrap n = n := by
  rw [IntKind.wrap_i64]; omega
theorem headK.mk {I : Nat → List AVal → AHeap → Prop} {n m : Nat} {env : List AVal} {h : AHeap} (h1 : m < n) (h2 : I m env h) : headK I n env h := ⟨m, h1, h2⟩

theorem label_loop {c : Cfg} {f : Nat} {K K0 : List AVal → AHeap → Prop} {E E1 : Nat → List AVal → AHeap → Prop} {R R1 : List AVal → AHeap → Prop} {G G1 : Nat → List AVal → AHeap → Prop} {body rest : Code} {l : Nat} (I : Nat → List AVal → AHeap → Prop)
    (hx : ∀ env h, wp c f rest K E R (scpG c f K E R G body) env h = K0 env h) (hf : findLabel body l = some (.seq .skip rest))
    (hstep : ∀ n env h, (∀ m, m < n → ∀ env h, I m env h → scpG c f K E R G body l env h) → I n env h → K0 env h) (n : Nat) {env : List AVal} {h : AHeap} (hI : I n env h) : wp c f (.label l) K0 E1 R1 G1 env h := by
  have key : ∀ n env h, I n env h → K0 env h := by
    intro n
    induction n using Nat.strongRecOn with
    | _ n ih =>
      intro env h hi
      refine hstep n env h (fun m hm env h hi => ?_) hi
      unfold scpG
      rw [hf]
      refine label_of ?_
      have h1 := ih m hm env h hi
      rw [← hx] at h1
      exact h1
  exact key n env h hI

theorem nthR_get : ∀ {l : List AVal} {n : Nat} {v : AVal}, l[n]? = some v → nthR l n = .ok v
  | [], n, v, h => by simp at h
  | a :: l, 0, v, h => by simp at h; rw [h]; rfl
  | a :: l, n + 1, v, h => nthR_get (l := l) (by simpa using h)
@[simp] theorem takeR_cons (a : AVal) (l : List AVal) (off n : Nat) : takeR (a :: l) off n = if off + n ≤ (a :: l).length then .ok (((a :: l).drop off).take n) else .err 11 := rfl
@[simp] theorem overR_cons (a : AVal) (l : List AVal) (off : Nat) (cs : List AVal) : overR (a :: l) off cs = if off + cs.length ≤ (a :: l).length then .ok ((a :: l).take off ++ cs ++ (a :: l).drop (off + cs.length)) else .err 12 := rfl
@[simp] theorem get_push_next (h : AHeap) (x : AObj) : (h.push x).get h.next = some x := by rw [AHeap.get_push]; simp
theorem Old.get {h h' : AHeap} {o : Nat} {x : AObj} (k : ∀ o, o < h.next → h'.get o = h.get o) (hx : h.get o = some x) (ho : o < h.next) : h'.get o = some x := by rw [k o ho, hx]

/-- one answer, worked out -/
theorem bind_ok {α β : Type} (a : α) (K : α → Res β) : Res.bind (.ok a) K = K a := rfl

theorem ix_int {k : IntKind} {i : Int} {n : Nat} (h0 : 0 ≤ i) (h : i < n) : idxNat (.int k i) n = .ok i.toNat := by
  unfold idxNat; simp [h0, h]
theorem ix_nat {k : IntKind} {i n : Nat} (h : i < n) : idxNat (.int k i) n = .ok i := by
  unfold idxNat; simp [h]
theorem bd_int {k : IntKind} {i : Int} {n : Nat} (h0 : 0 ≤ i) (h : i ≤ n) : boundR (.int k i) n = .ok i.toNat := by
  unfold boundR; simp [h0, h]
theorem bd_nat {k : IntKind} {i n : Nat} (h : i ≤ n) : boundR (.int k i) n = .ok i := by
  unfold boundR; simp [h]

/-- an append, with the sizes worked out -/
def appCore (size bytes : Nat) (h : AHeap) (s : AVal) (n : Nat) (new : List AVal) : Res (AVal × AHeap) :=
  match s with
  | .nils => if n = 0 then .ok (.nils, h) else if n * bytes > 2 ^ 47 then .err 132 else .ok (.sl h.next 0 n, h.push (.row size false new))
  | .sl o off len => match h.get o with
    | some (.row esz fz vs) =>
      if esz = size then
        if off + (len + n) * size ≤ vs.length then (overR vs (off + len * size) new).bind fun vs' => .ok (.sl o off (len + n), h.set o (.row esz fz vs'))
        else if (len + n) * bytes > 2 ^ 47 then .err 133 else
        (takeR vs off (len * size)).bind fun old => .ok (.sl h.next 0 (len + n), (h.del o).push (.row size true (old ++ new)))
      else .err 134
    | _ => .err 135
  | .slc o off len cap => match h.get o with
    | some (.row esz fz vs) =>
      if len + n ≤ cap then (overR vs (off + len * size) new).bind fun vs' => .ok (.slc o off (len + n) cap, h.set o (.row esz fz vs'))
      else if (len + n) * bytes > 2 ^ 47 then .err 136 else
      (takeR vs off (len * size)).bind fun old => .ok (.sl h.next 0 (len + n), h.push (.row size false (old ++ new)))
    | _ => .err 137
  | .rsl r off len => if n = 0 then .ok (.rsl r off len, h) else .err 138
  | _ => .err 139

theorem append_core {c : Cfg} {h : AHeap} {st e size bytes : Nat} {i : TypeInfo} {z : List AVal} (xt : Option Nat) (s x : AVal) (he : elemSl c.P st = .ok e) (hi : infoR c.P e = .ok i) (hz : zeroCellsR c.P e = .ok z) (hs : i.size = size) (hb : i.bytes = bytes)
    (h0 : size ≠ 0) (h1 : bytes ≠ 0) (h2 : z.length = size) :
    appendR c h st xt s x = (notMake c.P xt).bind fun _ => (lenA x).bind fun n => (readSl c h size n x).bind fun new => appCore size bytes h s n new := by
  subst hs hb
  unfold appendR
  simp only [he, hi, hz, bind_ok]
  have hc : ¬ (i.size = 0 ∨ i.bytes = 0 ∨ z.length ≠ i.size) := by simp [h0, h1, h2]
  simp only [if_neg hc]
  rfl

/-- a part of a heap that stays -/
def Old (h h' : AHeap) : Prop := h.next ≤ h'.next ∧ ∀ o, o < h.next → h'.get o = h.get o
theorem Old.refl (h : AHeap) : Old h h := ⟨Nat.le_refl _, fun _ _ => rfl⟩
theorem Old.trans {a b c : AHeap} (h : Old a b) (k : Old b c) : Old a c := ⟨Nat.le_trans h.1 k.1, fun o ho => (k.2 o (Nat.lt_of_lt_of_le ho h.1)).trans (h.2 o ho)⟩
theorem Old.push {h h' : AHeap} (k : Old h h') (x : AObj) : Old h (h'.push x) :=
  ⟨Nat.le_succ_of_le k.1, fun o ho => by rw [AHeap.get_push, if_neg (by have := k.1; omega)]; exact k.2 o ho⟩
theorem Old.set {h h' : AHeap} (k : Old h h') {q : Nat} (hq : h.next ≤ q) (x : AObj) : Old h (h'.set q x) :=
  ⟨k.1, fun o ho => by rw [AHeap.get_set, if_neg (by omega)]; exact k.2 o ho⟩
theorem Old.del {h h' : AHeap} (k : Old h h') {q : Nat} (hq : h.next ≤ q) : Old h (h'.del q) :=
  ⟨k.1, fun o ho => by rw [AHeap.get_del, if_neg (by omega)]; exact k.2 o ho⟩
end Go.Proofs.Ytbnlhhfobgjeaaa
