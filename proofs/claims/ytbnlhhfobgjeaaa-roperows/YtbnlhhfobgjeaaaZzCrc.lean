/-
  Sums by which spoilt bytes are told.
-/
import Derived.Test.YtbnlhhfobgjeaaaZzNum
set_option linter.all false
namespace Go.Proofs.Ytbnlhhfobgjeaaa
open Go Go.RowKit

def poly : BitVec 32 := 517762881#32
def stepT (x : BitVec 32) : BitVec 32 := if x.msb then (x <<< 1) ^^^ poly else x <<< 1
def itT : Nat → BitVec 32 → BitVec 32
  | 0, x => x
  | n + 1, x => itT n (stepT x)
def byteT (s : BitVec 32) (c : UInt8) : BitVec 32 := itT 8 (s ^^^ (BitVec.ofNat 32 c.toNat <<< 24))
def sumT (s : BitVec 32) (bs : List UInt8) : BitVec 32 := bs.foldl byteT s
/-- the sum -/
def crc (bs : List UInt8) : BitVec 32 := ~~~ sumT 4294967295#32 bs
theorem sumT_take {bs : List UInt8} {s : BitVec 32} {i : Nat} (h : i < bs.length) : sumT s (bs.take (i + 1)) = byteT (sumT s (bs.take i)) bs[i] := by
  unfold sumT
  rw [List.take_succ_eq_append_getElem h, List.foldl_append]; rfl

/-- a word of 32 bits, as a number -/
def w32 (x : BitVec 32) : AVal := .int .u32 x.toNat
theorem ofInt_w (x : BitVec 32) : BitVec.ofInt 32 (x.toNat : Int) = x := by
  apply BitVec.eq_of_toNat_eq
  simp
theorem wrap_w (x : BitVec 32) : IntKind.u32.wrap (x.toNat : Int) = x.toNat := by
  have := x.isLt
  rw [wrap32]; omega
theorem ixor_w (x y : BitVec 32) : ixor .u32 (x.toNat : Int) (y.toNat : Int) = (x ^^^ y).toNat := by
  unfold ixor
  show IntKind.u32.wrap ((BitVec.ofInt 32 (x.toNat : Int) ^^^ BitVec.ofInt 32 (y.toNat : Int)).toNat : Int) = _
  rw [ofInt_w, ofInt_w, wrap_w]
theorem ior_w (x y : BitVec 32) : ior .u32 (x.toNat : Int) (y.toNat : Int) = (x ||| y).toNat := by
  unfold ior
  show IntKind.u32.wrap ((BitVec.ofInt 32 (x.toNat : Int) ||| BitVec.ofInt 32 (y.toNat : Int)).toNat : Int) = _
  rw [ofInt_w, ofInt_w, wrap_w]
theorem iand_w (x y : BitVec 32) : iand .u32 (x.toNat : Int) (y.toNat : Int) = (x &&& y).toNat := by
  unfold iand
  show IntKind.u32.wrap ((BitVec.ofInt 32 (x.toNat : Int) &&& BitVec.ofInt 32 (y.toNat : Int)).toNat : Int) = _
  rw [ofInt_w, ofInt_w, wrap_w]
theorem inot_w (x : BitVec 32) : inot .u32 (x.toNat : Int) = (~~~ x).toNat := by
  unfold inot
  show IntKind.u32.wrap ((BitVec.ofInt 32 4294967295 ^^^ BitVec.ofInt 32 (x.toNat : Int)).toNat : Int) = _
  have h : BitVec.ofInt 32 4294967295 = BitVec.allOnes 32 := by decide
  rw [ofInt_w, h, BitVec.allOnes_xor, wrap_w]
theorem ishl_w (x : BitVec 32) (n : Nat) (hn : n ≤ 32) : ishl .u32 (x.toNat : Int) (n : Int) = (x <<< n).toNat := by
  unfold ishl
  show IntKind.u32.wrap ((x.toNat : Int) * 2 ^ (min (n : Int).toNat 32)) = _
  have h1 : min (n : Int).toNat 32 = n := by simp; omega
  rw [h1, BitVec.toNat_shiftLeft, Nat.shiftLeft_eq, wrap32]
  simp
theorem ishr_w (x : BitVec 32) (n : Nat) (hn : n ≤ 32) : ishr .u32 (x.toNat : Int) (n : Int) = ((x.toNat / 2 ^ n : Nat) : Int) := by
  unfold ishr
  show Int.fdiv (x.toNat : Int) (2 ^ (min (n : Int).toNat 32)) = _
  have h1 : min (n : Int).toNat 32 = n := by simp; omega
  rw [h1, Int.fdiv_eq_ediv_of_nonneg _ (by exact Int.pow_nonneg (by decide))]
  simp

theorem ixor_poly (x : BitVec 32) : ixor .u32 (x.toNat : Int) 517762881 = (x ^^^ poly).toNat := ixor_w x poly
theorem top_iff (x : BitVec 32) : iand .u32 (x.toNat : Int) 2147483648 = 0 ↔ x.msb = false := by
  have h1 : iand .u32 (x.toNat : Int) 2147483648 = (x &&& 2147483648#32).toNat := iand_w x 2147483648#32
  rw [h1]
  have h2 : 2147483648#32 = BitVec.twoPow 32 31 := by decide
  rw [h2, BitVec.and_twoPow]
  have h3 : x.msb = x.getLsbD 31 := by rw [BitVec.msb_eq_getLsbD_last]
  rw [h3]
  by_cases h : x.getLsbD 31 = true
  · rw [if_pos h, h]; simp [BitVec.twoPow]
  · rw [if_neg h]; simp at h; simp [h]
theorem shl1_w (x : BitVec 32) : ishl .u32 (x.toNat : Int) 1 = (x <<< 1).toNat := ishl_w x 1 (by decide)
theorem byte_w (c : UInt8) : IntKind.u32.wrap (c.toNat : Int) = (BitVec.ofNat 32 c.toNat).toNat := by
  have h := c.toNat_lt
  rw [wrap32]; simp; omega
theorem shl24_w (c : UInt8) : ishl .u32 ((BitVec.ofNat 32 c.toNat).toNat : Int) 24 = (BitVec.ofNat 32 c.toNat <<< 24).toNat := ishl_w _ 24 (by decide)

/-! bit by bit -/
theorem msb_c : ∀ c : Fin 256, ((BitVec.ofNat 32 c.val) <<< 24).msb = decide (128 ≤ c.val) := by decide +kernel
theorem shl_c : ∀ c : Fin 256, ((BitVec.ofNat 32 c.val) <<< 24) <<< 1 = (BitVec.ofNat 32 (c.val * 2 % 256)) <<< 24 := by decide +kernel
theorem step_bit (s : BitVec 32) (c : Nat) (hc : c < 256) : stepT (s ^^^ (BitVec.ofNat 32 c <<< 24)) =
    (if s.toNat / 2147483648 = c / 128 then s <<< 1 else (s <<< 1) ^^^ poly) ^^^ (BitVec.ofNat 32 (c * 2 % 256) <<< 24) := by
  unfold stepT
  have h1 := msb_c ⟨c, hc⟩
  have h2 := shl_c ⟨c, hc⟩
  simp only at h1 h2
  rw [BitVec.msb_xor, h1, BitVec.msb_eq_decide, BitVec.shiftLeft_xor_distrib, h2]
  have h3 := s.isLt
  have h4 : (decide (2 ^ (32 - 1) ≤ s.toNat) ^^ decide (128 ≤ c)) = !decide (s.toNat / 2147483648 = c / 128) := by
    by_cases a : 2 ^ (32 - 1) ≤ s.toNat <;> by_cases b : 128 ≤ c
    · have : s.toNat / 2147483648 = c / 128 := by omega
      simp [b, this]; simp at a; omega
    · have : ¬ s.toNat / 2147483648 = c / 128 := by omega
      simp [b, this]; simp at a; omega
    · have : ¬ s.toNat / 2147483648 = c / 128 := by omega
      simp [b, this]; simp at a; omega
    · have : s.toNat / 2147483648 = c / 128 := by omega
      simp [b, this]; simp at a; omega
  rw [h4]
  by_cases h : s.toNat / 2147483648 = c / 128
  · simp [h]
  · simp only [h, decide_false, Bool.not_false, if_true, if_false]
    rw [BitVec.xor_assoc, BitVec.xor_assoc, BitVec.xor_comm _ poly]

@[simp] theorem get_set_self (h : AHeap) (o : Nat) (x : AObj) : (h.set o x).get o = some x := by rw [AHeap.get_set]; simp
theorem get_set_ne {h : AHeap} {o p : Nat} {x : AObj} (hn : o ≠ p) : (h.set o x).get p = h.get p := by rw [AHeap.get_set, if_neg (by omega)]
end Go.Proofs.Ytbnlhhfobgjeaaa
