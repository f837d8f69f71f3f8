/-
  A part of the proof of WorldHarms, over the seat YthobdlehakbkaaaGreatDoor: for every input the law returns true, and the input reads as it did.
-/
import Derived.Test.YthobdlehakbkaaaGreatDoorGe
import Derived.Test.YthobdlehakbkaaaGreatDoorGm
set_option linter.all false
set_option linter.all false
namespace Go.Proofs.YthobdlehakbkaaaGreatDoor
open Go Go.RowKit

def poly : BitVec 32 := 517762881#32
def stepT (x : BitVec 32) : BitVec 32 := if x.msb then (x <<< 1) ^^^ poly else x <<< 1
def itT : Nat → BitVec 32 → BitVec 32
  | 0, x => x
  | n + 1, x => itT n (stepT x)
def byteT (s : BitVec 32) (c : UInt8) : BitVec 32 := itT 8 (s ^^^ (BitVec.ofNat 32 c.toNat <<< 24))
def sumT (s : BitVec 32) (bs : List UInt8) : BitVec 32 := bs.foldl byteT s
/-- the sum -/
def crc (bs : List UInt8) : BitVec 32 := ~~~ sumT 4294967295#32 bs
theorem sumT_take {bs : List UInt8} {s : BitVec 32} {i : Nat} (h : i < bs.length) : sumT s (bs.take (i + 1)) = byteT (sumT s (bs.take i)) bs[i] := by
  unfold sumT
  rw [List.take_succ_eq_append_getElem h, List.foldl_append]; rfl

/-- a word of 32 bits, as a number -/
def w32 (x : BitVec 32) : AVal := .int .u32 x.toNat
theorem ofInt_w (x : BitVec 32) : BitVec.ofInt 32 (x.toNat : Int) = x := by
  apply BitVec.eq_of_toNat_eq
  simp
theorem wrap_w (x : BitVec 32) : IntKind.u32.wrap (x.toNat : Int) = x.toNat := by
  have := x.isLt
  rw [wrap32]; omega
theorem ixor_w (x y : BitVec 32) : ixor .u32 (x.toNat : Int) (y.toNat : Int) = (x ^^^ y).toNat := by
  unfold ixor
  show IntKind.u32.wrap ((BitVec.ofInt 32 (x.toNat : Int) ^^^ BitVec.ofInt 32 (y.toNat : Int)).toNat : Int) = _
  rw [ofInt_w, ofInt_w, wrap_w]
theorem ior_w (x y : BitVec 32) : ior .u32 (x.toNat : Int) (y.toNat : Int) = (x ||| y).toNat := by
  unfold ior
  show IntKind.u32.wrap ((BitVec.ofInt 32 (x.toNat : Int) ||| BitVec.ofInt 32 (y.toNat : Int)).toNat : Int) = _
  rw [ofInt_w, ofInt_w, wrap_w]
theorem iand_w (x y : BitVec 32) : iand .u32 (x.toNat : Int) (y.toNat : Int) = (x &&& y).toNat := by
  unfold iand
  show IntKind.u32.wrap ((BitVec.ofInt 32 (x.toNat : Int) &&& BitVec.ofInt 32 (y.toNat : Int)).toNat : Int) = _
  rw [ofInt_w, ofInt_w, wrap_w]
theorem inot_w (x : BitVec 32) : inot .u32 (x.toNat : Int) = (~~~ x).toNat := by
  unfold inot
  show IntKind.u32.wrap ((BitVec.ofInt 32 4294967295 ^^^ BitVec.ofInt 32 (x.toNat : Int)).toNat : Int) = _
  have h : BitVec.ofInt 32 4294967295 = BitVec.allOnes 32 := by decide
  rw [ofInt_w, h, BitVec.allOnes_xor, wrap_w]
theorem ishl_w (x : BitVec 32) (n : Nat) (hn : n ≤ 32) : ishl .u32 (x.toNat : Int) (n : Int) = (x <<< n).toNat := by
  unfold ishl
  show IntKind.u32.wrap ((x.toNat : Int) * 2 ^ (min (n : Int).toNat 32)) = _
  have h1 : min (n : Int).toNat 32 = n := by simp; omega
  rw [h1, BitVec.toNat_shiftLeft, Nat.shiftLeft_eq, wrap32]
  simp
theorem ishr_w (x : BitVec 32) (n : Nat) (hn : n ≤ 32) : ishr .u32 (x.toNat : Int) (n : Int) = ((x.toNat / 2 ^ n : Nat) : Int) := by
  unfold ishr
  show Int.fdiv (x.toNat : Int) (2 ^ (min (n : Int).toNat 32)) = _
  have h1 : min (n : Int).toNat 32 = n := by simp; omega
  rw [h1, Int.fdiv_eq_ediv_of_nonneg _ (by exact Int.pow_nonneg (by decide))]
  simp

theorem ixor_poly (x : BitVec 32) : ixor .u32 (x.toNat : Int) 517762881 = (x ^^^ poly).toNat := ixor_w x poly
theorem top_iff (x : BitVec 32) : iand .u32 (x.toNat : Int) 2147483648 = 0 ↔ x.msb = false := by
  have h1 : iand .u32 (x.toNat : Int) 2147483648 = (x &&& 2147483648#32).toNat := iand_w x 2147483648#32
  rw [h1]
  have h2 : 2147483648#32 = BitVec.twoPow 32 31 := by decide
  rw [h2, BitVec.and_twoPow]
  have h3 : x.msb = x.getLsbD 31 := by rw [BitVec.msb_eq_getLsbD_last]
  rw [h3]
  by_cases h : x.getLsbD 31 = true
  · rw [if_pos h, h]; simp [BitVec.twoPow]
  · rw [if_neg h]; simp at h; simp [h]
theorem shl1_w (x : BitVec 32) : ishl .u32 (x.toNat : Int) 1 = (x <<< 1).toNat := ishl_w x 1 (by decide)
theorem byte_w (c : UInt8) : IntKind.u32.wrap (c.toNat : Int) = (BitVec.ofNat 32 c.toNat).toNat := by
  have h := c.toNat_lt
  rw [wrap32]; simp; omega
theorem shl24_w (c : UInt8) : ishl .u32 ((BitVec.ofNat 32 c.toNat).toNat : Int) 24 = (BitVec.ofNat 32 c.toNat <<< 24).toNat := ishl_w _ 24 (by decide)

/-! bit by bit -/
theorem msb_c : ∀ c : Fin 256, ((BitVec.ofNat 32 c.val) <<< 24).msb = decide (128 ≤ c.val) := by decide +kernel
theorem shl_c : ∀ c : Fin 256, ((BitVec.ofNat 32 c.val) <<< 24) <<< 1 = (BitVec.ofNat 32 (c.val * 2 % 256)) <<< 24 := by decide +kernel
theorem step_bit (s : BitVec 32) (c : Nat) (hc : c < 256) : stepT (s ^^^ (BitVec.ofNat 32 c <<< 24)) =
    (if s.toNat / 2147483648 = c / 128 then s <<< 1 else (s <<< 1) ^^^ poly) ^^^ (BitVec.ofNat 32 (c * 2 % 256) <<< 24) := by
  unfold stepT
  have h1 := msb_c ⟨c, hc⟩
  have h2 := shl_c ⟨c, hc⟩
  simp only at h1 h2
  rw [BitVec.msb_xor, h1, BitVec.msb_eq_decide, BitVec.shiftLeft_xor_distrib, h2]
  have h3 := s.isLt
  have h4 : (decide (2 ^ (32 - 1) ≤ s.toNat) ^^ decide (128 ≤ c)) = !decide (s.toNat / 2147483648 = c / 128) := by
    by_cases a : 2 ^ (32 - 1) ≤ s.toNat <;> by_cases b : 128 ≤ c
    · have : s.toNat / 2147483648 = c / 128 := by omega
      simp [b, this]; simp at a; omega
    · have : ¬ s.toNat / 2147483648 = c / 128 := by omega
      simp [b, this]; simp at a; omega
    · have : ¬ s.toNat / 2147483648 = c / 128 := by omega
      simp [b, this]; simp at a; omega
    · have : s.toNat / 2147483648 = c / 128 := by omega
      simp [b, this]; simp at a; omega
  rw [h4]
  by_cases h : s.toNat / 2147483648 = c / 128
  · simp [h]
  · simp only [h, decide_false, Bool.not_false, if_true, if_false]
    rw [BitVec.xor_assoc, BitVec.xor_assoc, BitVec.xor_comm _ poly]

@[simp] theorem get_set_self (h : AHeap) (o : Nat) (x : AObj) : (h.set o x).get o = some x := by rw [AHeap.get_set]; simp
theorem get_set_ne {h : AHeap} {o p : Nat} {x : AObj} (hn : o ≠ p) : (h.set o x).get p = h.get p := by rw [AHeap.get_set, if_neg (by omega)]
end Go.Proofs.YthobdlehakbkaaaGreatDoor
set_option linter.all false
set_option maxRecDepth 100000
set_option maxHeartbeats 4000000
namespace Go.Proofs.YthobdlehakbkaaaGreatDoor
open Go Go.RowKit Go.Proofs
/-- one bit turned -/
def bitX (b : List UInt8) (p : Nat) : List UInt8 := b.set (p / 8) (b.getD (p / 8) 0 ^^^ UInt8.ofNat (128 / 2 ^ (p % 8)))
/-- the bits that are to be turned, from the u-th on, k rounds -/
def bitsX (at_ bits : Nat) : Nat → Nat → List UInt8 → List UInt8
  | 0, _, b => b
  | k + 1, u, b => bitsX at_ bits k (u + 1) (if bits / 2 ^ u % 2 = 1 then bitX b (at_ + u) else b)
def harmS (b : List UInt8) (kind at_ : Int) (bits : Nat) (more : List UInt8) : List UInt8 :=
  if kind = 2 ∧ 0 ≤ at_ ∧ at_ < b.length then b.take at_.toNat
  else if kind = 3 then b ++ more
  else if kind ≠ 1 ∨ at_ < 0 ∨ 8 * (b.length : Int) - 32 < at_ then b
  else bitsX at_.toNat bits 32 0 b
theorem bitX_len (b : List UInt8) (p : Nat) : (bitX b p).length = b.length := by unfold bitX; simp
theorem bes_flat1 (bs : List UInt8) : (bes bs).flatten = bs.map bcell := by
  induction bs with
  | nil => rfl
  | cons b l ih => simp [bes] at ih ⊢; exact ih
/-- a store into one's own bytes -/
theorem BM.set {h0 h : AHeap} {v : AVal} {bs : List UInt8} (m : BM h0 h v bs) {i : Nat} (hi : i < bs.length) (x : UInt8) (hx : x.toNat < 256) :
    ∃ q fz, v = .sl q 0 bs.length ∧ h0.next ≤ q ∧ q < h.next ∧ h.get q = some (.row 1 fz (bs.map bcell)) ∧ overR (bs.map bcell) i [.int .u8 x.toNat] = .ok ((bs.set i x).map bcell) ∧ BM h0 (h.set q (.row 1 fz ((bs.set i x).map bcell))) v (bs.set i x) := by
  obtain ⟨m1, m2⟩ := m
  rcases m2 with ⟨m2, _⟩ | ⟨q, fz, m2, m3, m4, m5⟩
  · exfalso
    have : bs = [] := by simpa [bes] using m2
    subst this; simp at hi
  · have hl : (bes bs).length = bs.length := by simp [bes]
    rw [hl] at m2
    rw [bes_flat1] at m5
    refine ⟨q, fz, m2, m3, m4, m5, ?_, ?_⟩
    · unfold overR
      rw [if_pos (by simp; omega)]
      congr 1
      rw [List.map_set, List.set_eq_take_append_cons_drop, if_pos (by simpa using hi)]
      simp [bcell]
    · refine ⟨bes_one _, .inr ⟨q, fz, by simp [bes, m2], m3, by simpa using m4, ?_⟩⟩
      · rw [AHeap.get_set, if_pos rfl, bes_flat1]
theorem ishr_n (n u : Nat) (hu : u ≤ 32) : ishr .u32 (n : Int) (u : Int) = ((n / 2 ^ u : Nat) : Int) := by
  unfold ishr
  have h1 : min (u : Int).toNat IntKind.u32.bits = u := by simp [IntKind.bits]; omega
  rw [h1, Int.fdiv_eq_ediv_of_nonneg _ (Int.le_of_lt (Int.pow_pos (by omega)))]
  simp
theorem iand1 (n : Nat) (hn : n < 2 ^ 32) : iand .u32 (n : Int) 1 = ((n % 2 : Nat) : Int) := by
  have h := iand_w (BitVec.ofNat 32 n) 1
  have h1 : (BitVec.ofNat 32 n).toNat = n := by simp; omega
  have h2 : ((1 : BitVec 32).toNat : Int) = 1 := by decide
  rw [h1, h2] at h
  rw [h, BitVec.toNat_and, h1]
  show ((n &&& 1 : Nat) : Int) = _
  rw [Nat.and_one_is_mod]
theorem mask8 : ∀ r : Nat, r < 8 → ishr .u8 128 (r : Int) = ((128 / 2 ^ r : Nat) : Int) := by decide +kernel
theorem ixor8 (x y : UInt8) : ixor .u8 (x.toNat : Int) (y.toNat : Int) = ((x ^^^ y).toNat : Int) := by
  have h1 : (BitVec.ofInt 8 (x.toNat : Int)) = x.toBitVec := by apply BitVec.eq_of_toNat_eq; simp
  have h2 : (BitVec.ofInt 8 (y.toNat : Int)) = y.toBitVec := by apply BitVec.eq_of_toNat_eq; simp
  unfold ixor
  show IntKind.u8.wrap ((BitVec.ofInt 8 (x.toNat : Int) ^^^ BitVec.ofInt 8 (y.toNat : Int)).toNat : Int) = _
  rw [h1, h2]
  have h3 : (x.toBitVec ^^^ y.toBitVec).toNat = (x ^^^ y).toNat := rfl
  rw [h3, wrap8]
  have := (x ^^^ y).toNat_lt
  omega
end Go.Proofs.YthobdlehakbkaaaGreatDoor
set_option linter.all false
set_option maxRecDepth 100000
set_option maxHeartbeats 4000000
namespace Go.Proofs.YthobdlehakbkaaaGreatDoor
open Go Go.RowKit Go.Proofs
section
variable {ro : Nat → Option (List AVal)}
theorem BM.app {h0 h : AHeap} {v : AVal} {bs nb : List UInt8} (m : BM h0 h v bs) (k : Old h0 h) (hl : bs.length + nb.length ≤ 2 ^ 46) :
    ∃ v' h', appCore 1 1 h v nb.length (nb.map bcell) = .ok (v', h') ∧ BM h0 h' v' (bs ++ nb) ∧ Old h0 h' := by
  have := Mine.append (bytes := 1) (new := bes nb) m (by omega) (bes_one nb) (by rw [bes_len, bes_len]; omega) k
  rw [bes_len, bes_flat, ← bes_append] at this
  exact this
theorem BM.cells {h0 h : AHeap} {v : AVal} {bs : List UInt8} (m : BM h0 h v bs) : cellsV v = .ok [v] := by
  obtain ⟨_, ⟨_, rfl⟩ | ⟨_, _, rfl, _⟩⟩ := m <;> rfl
theorem BM.noSlc {h0 h : AHeap} {v : AVal} {bs : List UInt8} (m : BM h0 h v bs) : notSlc v := by
  obtain ⟨_, ⟨_, rfl⟩ | ⟨_, _, rfl, _⟩⟩ := m <;> intro o f l q <;> simp
theorem bitsX_snoc (a c : Nat) : ∀ (k u : Nat) (b : List UInt8), bitsX a c (k + 1) u b = bitsX a c k (u + 1) (if c / 2 ^ u % 2 = 1 then bitX b (a + u) else b) := fun k u b => rfl
theorem to5 {h : AHeap} {v w : AVal} {b more : List UInt8} {kind at_ : Int} {bits : Nat} (hv : BS (cfgR ro) h v b) (hw : BS (cfgR ro) h w more) (hb : b.length ≤ 1000) (hm : more.length ≤ 1000) (hbits : bits < 2 ^ 32)
    (ha1 : -2 ^ 63 ≤ at_) (ha2 : at_ < 2 ^ 63) {Q : AVal → AHeap → Prop}
    (hq : ∀ v' h', Old h h' → BS (cfgR ro) h' v' (harmS b kind at_ bits more) → Q v' h') : Ev (cfgR ro) 5 [.agg [.int .i64 kind, .int .i64 at_, .int .u32 (bits : Nat), w], v] h Q := by
  refine Ev.wp rfl rfl Tryz.func5 rfl ?_
  have hL : ∀ h', Old h h' → lenR (cfgR ro) h' 22 v = .ok (.int .i64 b.length) := fun h' o => (hv.old o).lenR un22
  have hL0 := hL h (Old.refl h)
  obtain ⟨u1, h1, f1, b1, o1⟩ := BM.app (nb := b) (BM.nil (h0 := h) (h := h)) (Old.refl h) (by simp; omega)
  rw [List.nil_append] at b1
  have c1 := b1.cells
  simp -implicitDefEqProofs [Tryz.f5, hL0, hv.lenA, hv.read, f1, c1]
  by_cases k2 : kind = 2
  · subst k2
    by_cases ha : 0 ≤ at_
    · obtain ⟨k, rfl⟩ := Int.eq_ofNat_of_zero_le ha
      by_cases hlt : k < b.length
      · have hlt' : (k : Int) < (b.length : Int) := by omega
        obtain ⟨s1, s2, s3⟩ := Sl.upto (at_ := k) (b1.toBS (c := cfgR ro)) (by omega) b1.noSlc (by rw [bes_len]; omega) .i64
        have hLs := hL h1 o1
        have hh : harmS b 2 (k : Int) bits more = b.take k := by unfold harmS; rw [if_pos ⟨rfl, ha, hlt'⟩]; simp
        rw [hh] at hq
        have s4 : BS (cfgR ro) h1 (cutV u1 1 0 k) (b.take k) := by
          have : (bes b).take k = bes (b.take k) := by unfold bes; rw [← List.map_take]
          rw [this] at s2; exact s2
        simp -implicitDefEqProofs [ha, hlt, hlt', hLs, s1]
        exact hq _ h1 o1 s4
      · have hlt' : ¬ (k : Int) < (b.length : Int) := by omega
        have hLs := hL h1 o1
        have hh : harmS b 2 (k : Int) bits more = b := by unfold harmS; simp [hlt']
        rw [hh] at hq
        simp -implicitDefEqProofs [ha, hlt, hlt', hLs]
        exact hq _ h1 o1 b1.toBS
    · have hh : harmS b 2 at_ bits more = b := by unfold harmS; simp [ha]
      rw [hh] at hq
      simp -implicitDefEqProofs [ha]
      exact hq _ h1 o1 b1.toBS
  by_cases k3 : kind = 3
  · subst k3
    obtain ⟨u2, h2, f2, b2, o2⟩ := BM.app (nb := more) b1 o1 (by omega)
    have hh : harmS b 3 at_ bits more = b ++ more := by unfold harmS; simp
    rw [hh] at hq
    have hw1 := hw.old o1
    simp -implicitDefEqProofs [hw1.lenA, hw1.read, f2]
    exact hq _ h2 o2 b2.toBS
  by_cases k1 : kind = 1
  rotate_left
  · have hh : harmS b kind at_ bits more = b := by unfold harmS; simp [k1, k2, k3]
    rw [hh] at hq
    simp -implicitDefEqProofs [k1, k2, k3]
    exact hq _ h1 o1 b1.toBS
  subst k1
  by_cases ha : at_ < 0
  · have hh : harmS b 1 at_ bits more = b := by unfold harmS; simp [ha]
    rw [hh] at hq
    simp -implicitDefEqProofs [ha]
    exact hq _ h1 o1 b1.toBS
  have hLs := hL h1 o1
  have w1 : IntKind.i64.wrap (8 * (b.length : Int)) = 8 * (b.length : Int) := w64 (by omega) (by omega)
  have w2 : IntKind.i64.wrap (8 * (b.length : Int) - 32) = 8 * (b.length : Int) - 32 := w64 (by omega) (by omega)
  by_cases hlt : 8 * (b.length : Int) - 32 < at_
  · have hh : harmS b 1 at_ bits more = b := by unfold harmS; simp [hlt]
    rw [hh] at hq
    simp -implicitDefEqProofs [ha, hLs, w1, w2, hlt]
    exact hq _ h1 o1 b1.toBS
  obtain ⟨k, rfl⟩ := Int.eq_ofNat_of_zero_le (show 0 ≤ at_ by omega)
  have hh : harmS b 1 (k : Int) bits more = bitsX k bits 32 0 b := by unfold harmS; simp [hlt]; omega
  rw [hh] at hq
  simp -implicitDefEqProofs [ha, hLs, w1, w2, hlt]
  obtain ⟨I, hI⟩ : ∃ I : Nat → List AVal → AHeap → Prop, I = fun m env h' => ∃ (u : Nat) (o : List UInt8), u + m = 32 ∧ BM h h' u1 o ∧ o.length = b.length ∧ Old h h' ∧ bitsX k bits m u o = bitsX k bits 32 0 b ∧ env = (.dead :: .dead :: .cell [.int .i64 1, .int .i64 (k : Nat), .int .u32 (bits : Nat), w] :: .dead :: .dead :: u1 :: .dead :: .dead :: .dead :: .dead :: .dead :: .dead :: .dead :: .dead :: .dead :: .dead :: .dead :: .dead :: .dead :: .dead :: .dead :: .dead :: .dead :: .dead :: .dead :: .dead :: .dead :: .dead :: .dead :: .dead :: .dead :: .dead :: .dead :: .dead :: .dead :: .dead :: .dead :: .dead :: .dead :: .dead :: .dead :: .dead :: .dead :: .dead :: .dead :: .dead :: .dead :: .dead :: .dead :: .dead :: .dead :: .dead :: .dead :: .dead :: .dead :: .dead :: .int .i64 (u : Nat) :: .dead :: .dead :: .dead :: .dead :: .dead :: .dead :: .dead :: .dead :: .dead :: .dead :: .dead :: .dead :: .dead :: .dead :: .dead :: .dead :: .dead :: .dead :: .dead :: .dead :: .dead :: .dead :: .dead :: .dead :: .dead :: .dead :: .dead :: .dead :: []) := ⟨_, rfl⟩
  refine loop_of I ?_ 32 (by rw [hI]; exact ⟨0, b, by omega, b1, rfl, o1, rfl, rfl⟩)
  intro m env h' hi
  rw [hI] at hi
  obtain ⟨u, o, hum, bo, hol, oo, hbx, rfl⟩ := hi
  by_cases hu : u < 32
  rotate_left
  · have hu' : ¬ (u : Int) < 32 := by omega
    have hm0 : m = 0 := by omega
    subst hm0
    simp -implicitDefEqProofs [hu, hu']
    refine hq _ h' oo ?_
    rw [← hbx]
    exact bo.toBS
  have hu' : (u : Int) < 32 := by omega
  have w3 : IntKind.u64.wrap (u : Int) = (u : Int) := by rw [wrap64]; omega
  have w4 : IntKind.i64.wrap ((u : Int) + 1) = ((u + 1 : Nat) : Int) := by rw [w64 (by omega) (by omega)]; omega
  have n1 : ¬ (u : Int) < 0 := by omega
  have x1 := ishr_n bits u (by omega)
  obtain ⟨bb, hbb⟩ : ∃ bb, bb = bits / 2 ^ u := ⟨_, rfl⟩
  have hbl : bb < 2 ^ 32 := by rw [hbb]; exact Nat.lt_of_le_of_lt (Nat.div_le_self _ _) hbits
  rw [← hbb] at x1
  have x2 := iand1 bb hbl
  obtain ⟨m', rfl⟩ : ∃ m', m = m' + 1 := ⟨m - 1, by omega⟩
  rw [bitsX_snoc, ← hbb] at hbx
  obtain ⟨u', hu1⟩ : ∃ u', u' = u + 1 := ⟨_, rfl⟩
  rw [← hu1] at w4 hbx
  by_cases hbit : bb % 2 = 1
  rotate_left
  · have hbit' : ¬ ((bb % 2 : Nat) : Int) = 1 := by omega
    have hbit2 : ¬ (bb : Int) % 2 = 1 := by omega
    rw [if_neg hbit] at hbx
    simp -implicitDefEqProofs [hu, hu', w3, n1, x1, x2, hbit, hbit', hbit2, w4]
    refine .mk (m := m') (by omega) ?_
    rw [hI]
    exact ⟨u', o, by omega, bo, hol, oo, hbx, rfl⟩
  have hbit' : ((bb % 2 : Nat) : Int) = 1 := by omega
  have hbit2 : (bb : Int) % 2 = 1 := by omega
  rw [if_pos hbit] at hbx
  obtain ⟨p, hp⟩ : ∃ p, p = k + u := ⟨_, rfl⟩
  rw [← hp] at hbx
  have w5 : IntKind.i64.wrap ((k : Int) + (u : Int)) = (p : Int) := by rw [w64 (by omega) (by omega)]; omega
  obtain ⟨p8, hp8⟩ : ∃ p8, p8 = p / 8 := ⟨_, rfl⟩
  obtain ⟨r8, hr8⟩ : ∃ r8, r8 = p % 8 := ⟨_, rfl⟩
  have q1 : (p : Int).tdiv 8 = (p8 : Int) := by rw [Int.tdiv_eq_ediv_of_nonneg (by omega)]; omega
  have q2 : (p : Int).tmod 8 = (r8 : Int) := by rw [Int.tmod_eq_emod_of_nonneg (by omega)]; omega
  have w6 : IntKind.i64.wrap (p8 : Int) = (p8 : Int) := w64 (by omega) (by omega)
  have w7 : IntKind.u64.wrap (r8 : Int) = (r8 : Int) := by rw [wrap64]; omega
  have n2 : ¬ (r8 : Int) < 0 := by omega
  have hpl : p8 < o.length := by omega
  have hX : indexAddrR Tryz.prog 22 u1 (.int .i64 (p8 : Int)) = .ok (elp u1 1 p8) := (bo.toBS (c := cfgR ro)).idx un22 sz5 hpl
  have hA : loadR (cfgR ro) h' 5 (elp u1 1 p8) = .ok (.int .u8 o[p8].toNat) := (bo.toBS (c := cfgR ro)).load hpl ag5
  have mk8 := mask8 r8 (by omega)
  obtain ⟨y, hy⟩ : ∃ y, y = UInt8.ofNat (128 / 2 ^ r8) := ⟨_, rfl⟩
  have hyn : y.toNat = 128 / 2 ^ r8 := by
    rw [hy, UInt8.toNat_ofNat']
    exact Nat.mod_eq_of_lt (Nat.lt_of_le_of_lt (Nat.div_le_self _ _) (by omega))
  rw [← hyn] at mk8
  have x3 := ixor8 o[p8] y
  obtain ⟨z, hz⟩ : ∃ z, z = o[p8] ^^^ y := ⟨_, rfl⟩
  rw [← hz] at x3
  obtain ⟨qq, fz, e1, e2, e3, e4, e5, e6⟩ := bo.set hpl z z.toNat_lt
  have hS : storeR (cfgR ro) h' 5 (elp u1 1 p8) (.int .u8 (z.toNat : Nat)) = .ok (h'.set qq (.row 1 fz ((o.set p8 z).map bcell))) := by
    rw [e1]
    have h1 : elp (.sl qq 0 o.length) 1 p8 = .ptr qq p8 := by simp [elp]
    rw [h1, st_ptr]
    unfold storeC
    simp [e4, e5]
  have hset : o.set p8 z = bitX o p := by
    unfold bitX
    rw [← hp8, ← hr8, ← hy, hz]
    congr 1
    rw [List.getD_eq_getElem?_getD, List.getElem?_eq_getElem hpl]; rfl
  rw [hset] at e6 hS
  generalize o[p8] = ob at hA x3
  simp -implicitDefEqProofs [hu, hu', w3, n1, x1, x2, hbit, hbit', hbit2, w4, w5, w6, w7, q1, q2, n2, hX, hA, mk8, x3, hS]
  refine ⟨.inl (by decide +kernel), ?_⟩
  refine .mk (m := m') (by omega) ?_
  rw [hI]
  refine ⟨u', bitX o p, by omega, e6, by rw [bitX_len]; exact hol, ⟨oo.1, fun j hj => ?_⟩, hbx, rfl⟩
  rw [AHeap.get_set, if_neg (by have := oo.1; omega)]
  exact oo.2 j hj
end
end Go.Proofs.YthobdlehakbkaaaGreatDoor
set_option linter.all false
set_option maxRecDepth 100000
set_option maxHeartbeats 4000000
namespace Go.Proofs.YthobdlehakbkaaaGreatDoor
open Go Go.RowKit Go.Proofs
section
variable {ro : Nat → Option (List AVal)}
theorem harm6 {h : AHeap} {v w : AVal} {b more : List UInt8} {kind at_ : Int} {bits : Nat} (hv : BS (cfgR ro) h v b) (hw : BS (cfgR ro) h w more) (hvc : ∀ o f l q, v ≠ .slc o f l q) (hb : b.length ≤ 1000) (hm : more.length ≤ 1000) (hbits : bits < 2 ^ 32)
    (ha1 : -2 ^ 63 ≤ at_) (ha2 : at_ < 2 ^ 63) {Q : AVal → AHeap → Prop}
    (hq : ∀ v' h', Old h h' → BS (cfgR ro) h' v' (harmS b kind at_ bits more) → Q v' h') : Ev (cfgR ro) 6 [v, .int .i64 kind, .int .i64 at_, .int .u32 (bits : Nat), w] h Q := by
  refine Ev.wp rfl rfl Tryz.func6 rfl ?_
  have hL0 : lenR (cfgR ro) h 22 v = .ok (.int .i64 b.length) := hv.lenR un22
  simp -implicitDefEqProofs [Tryz.f6, hL0]
  obtain ⟨u1, h1, f1, b1, o1⟩ := BM.app (nb := b) (BM.nil (h0 := h) (h := h)) (Old.refl h) (by simp; omega)
  rw [List.nil_append] at b1
  have c1 := b1.cells
  have hL1 : lenR (cfgR ro) h1 22 v = .ok (.int .i64 b.length) := (hv.old o1).lenR un22
  have e1 := hv.lenA
  have e2 := hv.read
  by_cases k2 : kind = 2
  · subst k2
    by_cases ha : 0 ≤ at_
    · obtain ⟨k, rfl⟩ := Int.eq_ofNat_of_zero_le ha
      by_cases hlt : k < b.length
      · have hlt' : (k : Int) < (b.length : Int) := by omega
        have hns : notSlc v := fun o f l q => ⟨hvc o f l q, fun e => by
          have := hv.lenA; rw [e] at this; simp only [lenA] at this; injection this with this; omega⟩
        obtain ⟨s1, s2, s3⟩ := Sl.upto (at_ := k) hv (by omega) hns (by rw [bes_len]; omega) .i64
        have hh : harmS b 2 (k : Int) bits more = b.take k := by unfold harmS; rw [if_pos ⟨rfl, ha, hlt'⟩]; simp
        rw [hh] at hq
        have s4 : BS (cfgR ro) h (cutV v 1 0 k) (b.take k) := by
          have : (bes b).take k = bes (b.take k) := by unfold bes; rw [← List.map_take]
          rw [this] at s2; exact s2
        have htl : (b.take k).length ≤ 1000 := by rw [List.length_take]; omega
        obtain ⟨tk, htk⟩ : ∃ tk, tk = b.take k := ⟨_, rfl⟩
        rw [← htk] at s4 hq htl
        obtain ⟨u2, h2, f2, b2, o2⟩ := BM.app (nb := tk) (BM.nil (h0 := h) (h := h)) (Old.refl h) (by simp only [List.length_nil]; omega)
        rw [List.nil_append] at b2
        have c2 := b2.cells
        simp -implicitDefEqProofs [ha, hL0, hlt, hlt', s1, s4.lenA, s4.read, f2, c2]
        exact hq _ h2 o2 b2.toBS
      · have hlt' : ¬ (k : Int) < (b.length : Int) := by omega
        have hh : harmS b 2 (k : Int) bits more = b := by unfold harmS; simp [hlt']
        rw [hh] at hq
        simp -implicitDefEqProofs [ha, hL0, hL1, hlt, hlt', e1, e2, f1, c1]
        exact hq _ h1 o1 b1.toBS
    · have hh : harmS b 2 at_ bits more = b := by unfold harmS; simp [ha]
      rw [hh] at hq
      simp -implicitDefEqProofs [ha, hL0, hL1, e1, e2, f1, c1]
      exact hq _ h1 o1 b1.toBS
  by_cases k3 : kind = 3
  · subst k3
    obtain ⟨u2, h2, f2, b2, o2⟩ := BM.app (nb := more) b1 o1 (by omega)
    have hh : harmS b 3 at_ bits more = b ++ more := by unfold harmS; simp
    rw [hh] at hq
    have hw1 := hw.old o1
    simp -implicitDefEqProofs [hL0, hL1, e1, e2, f1, c1, hw1.lenA, hw1.read, f2]
    exact hq _ h2 o2 b2.toBS
  by_cases k1 : kind = 1
  rotate_left
  · have hh : harmS b kind at_ bits more = b := by unfold harmS; simp [k1, k2, k3]
    rw [hh] at hq
    simp -implicitDefEqProofs [k1, k2, k3, hL0, hL1, e1, e2, f1, c1]
    exact hq _ h1 o1 b1.toBS
  subst k1
  by_cases ha : 0 ≤ at_
  rotate_left
  · have hh : harmS b 1 at_ bits more = b := by unfold harmS; simp; omega
    rw [hh] at hq
    simp -implicitDefEqProofs [ha, hL0, hL1, e1, e2, f1, c1]
    exact hq _ h1 o1 b1.toBS
  have w1 : IntKind.i64.wrap (8 * (b.length : Int)) = 8 * (b.length : Int) := w64 (by omega) (by omega)
  have w2 : IntKind.i64.wrap (8 * (b.length : Int) - 32) = 8 * (b.length : Int) - 32 := w64 (by omega) (by omega)
  by_cases hlt : at_ ≤ 8 * (b.length : Int) - 32
  rotate_left
  · have hh : harmS b 1 at_ bits more = b := by unfold harmS; simp; omega
    rw [hh] at hq
    simp -implicitDefEqProofs [ha, hL0, hL1, w1, w2, hlt, e1, e2, f1, c1]
    exact hq _ h1 o1 b1.toBS
  obtain ⟨k, rfl⟩ := Int.eq_ofNat_of_zero_le ha
  have hh : harmS b 1 (k : Int) bits more = bitsX k bits 32 0 b := by unfold harmS; simp; omega
  rw [hh] at hq
  simp -implicitDefEqProofs [ha, hL0, hL1, w1, w2, hlt, e1, e2, f1, c1]
  obtain ⟨I, hI⟩ : ∃ I : Nat → List AVal → AHeap → Prop, I = fun m env h' => ∃ (u c : Nat) (o : List UInt8), u + m = 32 ∧ c = bits / 2 ^ u ∧ BM h h' u1 o ∧ o.length = b.length ∧ Old h h' ∧ bitsX k bits m u o = bitsX k bits 32 0 b ∧ env = (.dead :: .dead :: .int .i64 (k : Nat) :: .int .u32 (c : Nat) :: .dead :: .dead :: .dead :: .dead :: .dead :: .dead :: .dead :: u1 :: .int .i64 (u : Nat) :: .dead :: .dead :: .dead :: .dead :: .dead :: .dead :: .dead :: .dead :: .dead :: .dead :: .dead :: .dead :: .dead :: .dead :: .dead :: .dead :: .dead :: .dead :: .dead :: .dead :: .dead :: .dead :: .dead :: .dead :: .dead :: .dead :: .dead :: .dead :: .dead :: .dead :: .dead :: .dead :: .dead :: .dead :: .dead :: .dead :: .dead :: .dead :: .dead :: .dead :: .dead :: .dead :: .dead :: .dead :: .dead :: .dead :: .dead :: .dead :: .dead :: .dead :: .dead :: .dead :: .dead :: .dead :: .dead :: .dead :: .dead :: .dead :: .dead :: .dead :: .dead :: .dead :: .dead :: .dead :: .dead :: .dead :: .dead :: .dead :: .dead :: .dead :: .dead :: .dead :: .dead :: .dead :: []) := ⟨_, rfl⟩
  refine loop_of I ?_ 32 (by rw [hI]; exact ⟨0, bits, b, by omega, by simp, b1, rfl, o1, rfl, rfl⟩)
  intro m env h' hi
  rw [hI] at hi
  obtain ⟨u, c, o, hum, hc, bo, hol, oo, hbx, rfl⟩ := hi
  by_cases hu : u < 32
  rotate_left
  · have hu' : ¬ (u : Int) < 32 := by omega
    have hm0 : m = 0 := by omega
    subst hm0
    simp -implicitDefEqProofs [hu, hu']
    refine hq _ h' oo ?_
    rw [← hbx]
    exact bo.toBS
  have hu' : (u : Int) < 32 := by omega
  have w4 : IntKind.i64.wrap ((u : Int) + 1) = ((u + 1 : Nat) : Int) := by rw [w64 (by omega) (by omega)]; omega
  have hcl : c < 2 ^ 32 := by rw [hc]; exact Nat.lt_of_le_of_lt (Nat.div_le_self _ _) hbits
  obtain ⟨c2, hc2⟩ : ∃ c2, c2 = c / 2 := ⟨_, rfl⟩
  obtain ⟨d2, hd2⟩ : ∃ d2, d2 = c % 2 := ⟨_, rfl⟩
  have x1 : (c : Int).tmod 2 = (d2 : Int) := by rw [Int.tmod_eq_emod_of_nonneg (by omega)]; omega
  have x2 : (c : Int).tdiv 2 = (c2 : Int) := by rw [Int.tdiv_eq_ediv_of_nonneg (by omega)]; omega
  have x3 : IntKind.u32.wrap (c2 : Int) = (c2 : Int) := by rw [wrap32]; omega
  have hc3 : c2 = bits / 2 ^ (u + 1) := by rw [hc2, hc, Nat.div_div_eq_div_mul, Nat.pow_succ]
  obtain ⟨m', rfl⟩ : ∃ m', m = m' + 1 := ⟨m - 1, by omega⟩
  rw [bitsX_snoc, ← hc] at hbx
  obtain ⟨u', hu1⟩ : ∃ u', u' = u + 1 := ⟨_, rfl⟩
  rw [← hu1] at w4 hbx hc3
  by_cases hbit : d2 = 1
  rotate_left
  · have hbit' : ¬ (d2 : Int) = 1 := by omega
    rw [if_neg (by omega)] at hbx
    simp -implicitDefEqProofs [hu, hu', x1, x2, x3, hbit, hbit', w4]
    refine .mk (m := m') (by omega) ?_
    rw [hI]
    exact ⟨u', c2, o, by omega, hc3, bo, hol, oo, hbx, rfl⟩
  have hbit' : (d2 : Int) = 1 := by omega
  rw [if_pos (by omega)] at hbx
  obtain ⟨p, hp⟩ : ∃ p, p = k + u := ⟨_, rfl⟩
  rw [← hp] at hbx
  have w5 : IntKind.i64.wrap ((k : Int) + (u : Int)) = (p : Int) := by rw [w64 (by omega) (by omega)]; omega
  obtain ⟨p8, hp8⟩ : ∃ p8, p8 = p / 8 := ⟨_, rfl⟩
  obtain ⟨r8, hr8⟩ : ∃ r8, r8 = p % 8 := ⟨_, rfl⟩
  have q1 : (p : Int).tdiv 8 = (p8 : Int) := by rw [Int.tdiv_eq_ediv_of_nonneg (by omega)]; omega
  have q2 : (p : Int).tmod 8 = (r8 : Int) := by rw [Int.tmod_eq_emod_of_nonneg (by omega)]; omega
  have w6 : IntKind.i64.wrap (p8 : Int) = (p8 : Int) := w64 (by omega) (by omega)
  have hpl : p8 < o.length := by omega
  have hX : indexAddrR Tryz.prog 22 u1 (.int .i64 (p8 : Int)) = .ok (elp u1 1 p8) := (bo.toBS (c := cfgR ro)).idx un22 sz5 hpl
  have hA : loadR (cfgR ro) h' 5 (elp u1 1 p8) = .ok (.int .u8 o[p8].toNat) := (bo.toBS (c := cfgR ro)).load hpl ag5
  obtain ⟨y, hy⟩ : ∃ y, y = UInt8.ofNat (128 / 2 ^ r8) := ⟨_, rfl⟩
  have hyn : y.toNat = 128 / 2 ^ r8 := by
    rw [hy, UInt8.toNat_ofNat']
    exact Nat.mod_eq_of_lt (Nat.lt_of_le_of_lt (Nat.div_le_self _ _) (by omega))
  have y3 := ixor8 o[p8] y
  obtain ⟨z, hz⟩ : ∃ z, z = o[p8] ^^^ y := ⟨_, rfl⟩
  rw [← hz] at y3
  obtain ⟨qq, fz, g1, g2, g3, g4, g5, g6⟩ := bo.set hpl z z.toNat_lt
  have hS : storeR (cfgR ro) h' 5 (elp u1 1 p8) (.int .u8 (z.toNat : Nat)) = .ok (h'.set qq (.row 1 fz ((o.set p8 z).map bcell))) := by
    rw [g1]
    have h1 : elp (.sl qq 0 o.length) 1 p8 = .ptr qq p8 := by simp [elp]
    rw [h1, st_ptr]
    unfold storeC
    simp [g4, g5]
  have hset : o.set p8 z = bitX o p := by
    unfold bitX
    rw [← hp8, ← hr8, ← hy, hz]
    congr 1
    rw [List.getD_eq_getElem?_getD, List.getElem?_eq_getElem hpl]; rfl
  rw [hset] at g6 hS
  generalize o[p8] = ob at hA y3
  simp -implicitDefEqProofs [hu, hu', x1, hbit', w5]
  obtain ⟨J, hJ⟩ : ∃ J : Nat → List AVal → AHeap → Prop, J = fun m2 env h2 => h2 = h' ∧ ∃ (j mk : Nat), j + m2 = r8 ∧ mk = 128 / 2 ^ j ∧ env = (.dead :: .dead :: .int .i64 (k : Nat) :: .int .u32 (c : Nat) :: .dead :: .dead :: .dead :: .dead :: .dead :: .dead :: .dead :: u1 :: .int .i64 (u : Nat) :: .int .i64 (p : Nat) :: .int .u8 (mk : Nat) :: .int .i64 (j : Nat) :: .dead :: .dead :: .dead :: .dead :: .dead :: .dead :: .dead :: .dead :: .dead :: .dead :: .dead :: .dead :: .dead :: .dead :: .dead :: .dead :: .dead :: .dead :: .dead :: .dead :: .dead :: .dead :: .dead :: .dead :: .dead :: .dead :: .dead :: .dead :: .dead :: .dead :: .dead :: .dead :: .dead :: .dead :: .dead :: .dead :: .dead :: .dead :: .dead :: .dead :: .dead :: .dead :: .dead :: .dead :: .dead :: .dead :: .dead :: .dead :: .dead :: .dead :: .dead :: .dead :: .dead :: .dead :: .dead :: .dead :: .dead :: .dead :: .dead :: .dead :: .dead :: .dead :: .dead :: .dead :: .dead :: .dead :: .dead :: .dead :: .dead :: .dead :: .dead :: []) := ⟨_, rfl⟩
  refine loop_of J ?_ r8 (by rw [hJ]; exact ⟨rfl, 0, 128, by omega, by simp, rfl⟩)
  intro m2 env h2 hj
  rw [hJ] at hj
  obtain ⟨rfl, j, mk, hjm, hmk, rfl⟩ := hj
  by_cases hjr : j < r8
  · have hjr' : (j : Int) < (r8 : Int) := by omega
    obtain ⟨mk2, hmk2⟩ : ∃ mk2, mk2 = mk / 2 := ⟨_, rfl⟩
    have mkl : mk ≤ 128 := by rw [hmk]; exact Nat.div_le_self _ _
    have y1 : (mk : Int).tdiv 2 = (mk2 : Int) := by rw [Int.tdiv_eq_ediv_of_nonneg (by omega)]; omega
    have y2 : IntKind.u8.wrap (mk2 : Int) = (mk2 : Int) := by rw [wrap8]; omega
    have w8 : IntKind.i64.wrap ((j : Int) + 1) = ((j + 1 : Nat) : Int) := by rw [w64 (by omega) (by omega)]; omega
    simp -implicitDefEqProofs [q2, hjr, hjr', y1, y2, w8]
    refine .mk (m := m2 - 1) (by omega) ?_
    rw [hJ]
    exact ⟨rfl, j + 1, mk2, by omega, by rw [hmk2, hmk, Nat.div_div_eq_div_mul, Nat.pow_succ], rfl⟩
  · have hjr' : ¬ (j : Int) < (r8 : Int) := by omega
    have hjr8 : j = r8 := by omega
    have hmy : mk = y.toNat := by rw [hmk, hjr8, hyn]
    subst hmy
    simp -implicitDefEqProofs [q2, hjr, hjr', q1, w6, hX, hA, y3, hS, x2, x3, w4]
    refine .mk (m := m') (by omega) ?_
    rw [hI]
    refine ⟨u', c2, bitX o p, by omega, hc3, g6, by rw [bitX_len]; exact hol, ⟨oo.1, fun j hj => ?_⟩, hbx, rfl⟩
    rw [AHeap.get_set, if_neg (by have := oo.1; omega)]
    exact oo.2 j hj
end
end Go.Proofs.YthobdlehakbkaaaGreatDoor
