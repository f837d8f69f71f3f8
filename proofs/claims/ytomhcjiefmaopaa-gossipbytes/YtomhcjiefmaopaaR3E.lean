/-
  A part of the proof of GossipBytes, over the seat Ytomhcjiefmaopaa: for every input the law returns true, and the input reads as it did.
-/
import Derived.Test.YtomhcjiefmaopaaR3D
set_option linter.all false
set_option maxRecDepth 100000
set_option maxHeartbeats 4000000
namespace Go.Proofs.Ytomhcjiefmaopaa
open Go Go.RowKit Go.Proofs

def wordT (a b c d : UInt8) : BitVec 32 := (((BitVec.ofNat 32 a.toNat <<< 24) ||| (BitVec.ofNat 32 b.toNat <<< 16)) ||| (BitVec.ofNat 32 c.toNat <<< 8)) ||| BitVec.ofNat 32 d.toNat
theorem wordT_nat (a b c d : UInt8) : (wordT a b c d).toNat = a.toNat * 16777216 + b.toNat * 65536 + c.toNat * 256 + d.toNat := by
  have ha := a.toNat_lt
  have hb := b.toNat_lt
  have hc := c.toNat_lt
  have hd := d.toNat_lt
  have h1 : ∀ (x n : Nat), x < 256 → n ≤ 24 → (BitVec.ofNat 32 x <<< n).toNat = x * 2 ^ n := by
    intro x n hx hn
    rw [BitVec.toNat_shiftLeft, Nat.shiftLeft_eq, BitVec.toNat_ofNat, Nat.mod_eq_of_lt (show x < 2 ^ 32 by omega)]
    apply Nat.mod_eq_of_lt
    have h2 : 2 ^ n ≤ 2 ^ 24 := Nat.pow_le_pow_right (by decide) hn
    have h3 : x * 2 ^ n ≤ 255 * 2 ^ 24 := Nat.mul_le_mul (by omega) h2
    omega
  unfold wordT
  rw [BitVec.toNat_or, BitVec.toNat_or, BitVec.toNat_or, h1 _ 24 ha (by decide), h1 _ 16 hb (by decide), h1 _ 8 hc (by decide), BitVec.toNat_ofNat, Nat.mod_eq_of_lt (show d.toNat < 2 ^ 32 by omega)]
  have e1 : a.toNat * 2 ^ 24 ||| b.toNat * 2 ^ 16 = 2 ^ 16 * (a.toNat * 256 + b.toNat) := by
    rw [Nat.mul_comm a.toNat, ← Nat.two_pow_add_eq_or_of_lt (i := 24) (by omega)]; omega
  have e2 : 2 ^ 16 * (a.toNat * 256 + b.toNat) ||| c.toNat * 2 ^ 8 = 2 ^ 8 * ((a.toNat * 256 + b.toNat) * 256 + c.toNat) := by
    rw [← Nat.two_pow_add_eq_or_of_lt (i := 16) (by omega)]; omega
  have e3 : 2 ^ 8 * ((a.toNat * 256 + b.toNat) * 256 + c.toNat) ||| d.toNat = a.toNat * 16777216 + b.toNat * 65536 + c.toNat * 256 + d.toNat := by
    rw [← Nat.two_pow_add_eq_or_of_lt (i := 8) (by omega)]; omega
  rw [e1, e2, e3]

theorem word_iff (a b c d : UInt8) (x : BitVec 32) : wordT a b c d = x ↔ [a, b, c, d] = crc4 x := by
  have ha := a.toNat_lt
  have hb := b.toNat_lt
  have hc := c.toNat_lt
  have hd := d.toNat_lt
  have hx := x.isLt
  have hw := wordT_nat a b c d
  constructor
  · rintro rfl
    unfold crc4
    rw [hw]
    simp only [List.cons.injEq, and_true]
    refine ⟨?_, ?_, ?_, ?_⟩ <;> (apply UInt8.toNat_inj.1; rw [UInt8.toNat_ofNat']; omega)
  · intro h
    unfold crc4 at h
    simp only [List.cons.injEq, and_true] at h
    obtain ⟨h1, h2, h3, h4⟩ := h
    have g1 := congrArg UInt8.toNat h1
    have g2 := congrArg UInt8.toNat h2
    have g3 := congrArg UInt8.toNat h3
    have g4 := congrArg UInt8.toNat h4
    rw [UInt8.toNat_ofNat'] at g1 g2 g3 g4
    apply BitVec.eq_of_toNat_eq
    rw [hw]
    omega

/-- what was sealed -/
def openS (bs : List UInt8) : Option (List UInt8) := if bs.length < 4 then none else if bs = sealS (bs.take (bs.length - 4)) then some (bs.take (bs.length - 4)) else none

theorem last4 {bs : List UInt8} {n : Nat} (h : bs.length = n + 4) : bs = bs.take n ++ [bs[n], bs[n+1], bs[n+2], bs[n+3]] := by
  have h1 : bs.drop n = [bs[n], bs[n+1], bs[n+2], bs[n+3]] := by
    rw [List.drop_eq_getElem_cons (by omega), List.drop_eq_getElem_cons (by omega), List.drop_eq_getElem_cons (by omega), List.drop_eq_getElem_cons (by omega), List.drop_of_length_le (by omega)]
  rw [← h1, List.take_append_drop]

section
variable {ro : Nat → Option (List AVal)}
theorem open34 {h : AHeap} {v : AVal} {bs : List UInt8} (hv : BS (cfgR ro) h v bs) (hs : ∀ o f l q, v ≠ .slc o f l q) (hn : bs.length ≤ 2 ^ 40) {Q : AVal → AHeap → Prop}
    (hq1 : ∀ cs v' h', openS bs = some cs → BM h h' v' cs → Old h h' → Q (.tuple [v', .bool true]) h') (hq2 : ∀ h', openS bs = none → Old h h' → Q (.tuple [.nils, .bool false]) h') : Ev (cfgR ro) 34 [v] h Q := by
  refine Ev.wp rfl rfl Try.func34 rfl ?_
  have hL : lenR (cfgR ro) h 24 v = .ok (.int .i64 bs.length) := hv.lenR un24
  simp [Try.f34, hL]
  refine orD (fun h1 => ?_) (fun h1 => ?_)
  · simp
    exact hq2 _ (by rw [openS, if_pos (by omega)]) (Old.refl h)
  obtain ⟨n, hn4⟩ : ∃ n, bs.length = n + 4 := ⟨bs.length - 4, by omega⟩
  have hX : ∀ i, i < bs.length → indexAddrR Try.prog 24 v (.int .i64 (i : Int)) = .ok (elp v 1 i) := fun i hi => hv.idx un24 sz5 hi
  have hA : ∀ i (hi : i < bs.length), loadR (cfgR ro) h 5 (elp v 1 i) = .ok (.int .u8 bs[i].toNat) := fun i hi => hv.load hi ag5
  have e0 : IntKind.i64.wrap ((bs.length : Int) - 4) = (n : Int) := by rw [w64 (by omega) (by omega)]; omega
  have e1 : IntKind.i64.wrap ((n : Int) + 1) = ((n + 1 : Nat) : Int) := by rw [w64 (by omega) (by omega)]; omega
  have e2 : IntKind.i64.wrap ((n : Int) + 2) = ((n + 2 : Nat) : Int) := by rw [w64 (by omega) (by omega)]; omega
  have e3 : IntKind.i64.wrap ((n : Int) + 3) = ((n + 3 : Nat) : Int) := by rw [w64 (by omega) (by omega)]; omega
  have x0 := hX n (by omega)
  have x1 := hX (n + 1) (by omega)
  have x2 := hX (n + 2) (by omega)
  have x3 := hX (n + 3) (by omega)
  obtain ⟨a, ha⟩ : ∃ a, a = bs[n] := ⟨_, rfl⟩
  obtain ⟨b, hb⟩ : ∃ a, a = bs[n + 1] := ⟨_, rfl⟩
  obtain ⟨c, hc⟩ : ∃ a, a = bs[n + 2] := ⟨_, rfl⟩
  obtain ⟨d, hd⟩ : ∃ a, a = bs[n + 3] := ⟨_, rfl⟩
  have a0 : loadR (cfgR ro) h 5 (elp v 1 n) = .ok (.int .u8 a.toNat) := by rw [ha]; exact hA n (by omega)
  have a1 : loadR (cfgR ro) h 5 (elp v 1 (n + 1)) = .ok (.int .u8 b.toNat) := by rw [hb]; exact hA (n + 1) (by omega)
  have a2 : loadR (cfgR ro) h 5 (elp v 1 (n + 2)) = .ok (.int .u8 c.toNat) := by rw [hc]; exact hA (n + 2) (by omega)
  have a3 : loadR (cfgR ro) h 5 (elp v 1 (n + 3)) = .ok (.int .u8 d.toNat) := by rw [hd]; exact hA (n + 3) (by omega)
  obtain ⟨i1, hi1⟩ : ∃ x : Int, x = ((n + 1 : Nat) : Int) := ⟨_, rfl⟩
  obtain ⟨i2, hi2⟩ : ∃ x : Int, x = ((n + 2 : Nat) : Int) := ⟨_, rfl⟩
  obtain ⟨i3, hi3⟩ : ∃ x : Int, x = ((n + 3 : Nat) : Int) := ⟨_, rfl⟩
  rw [← hi1] at e1 x1
  rw [← hi2] at e2 x2
  rw [← hi3] at e3 x3
  obtain ⟨A, hA'⟩ : ∃ x, x = BitVec.ofNat 32 a.toNat := ⟨_, rfl⟩
  obtain ⟨B, hB'⟩ : ∃ x, x = BitVec.ofNat 32 b.toNat := ⟨_, rfl⟩
  obtain ⟨C, hC'⟩ : ∃ x, x = BitVec.ofNat 32 c.toNat := ⟨_, rfl⟩
  obtain ⟨D, hD'⟩ : ∃ x, x = BitVec.ofNat 32 d.toNat := ⟨_, rfl⟩
  obtain ⟨A2, hA2⟩ : ∃ x, x = A <<< 24 := ⟨_, rfl⟩
  obtain ⟨B2, hB2⟩ : ∃ x, x = B <<< 16 := ⟨_, rfl⟩
  obtain ⟨C2, hC2⟩ : ∃ x, x = C <<< 8 := ⟨_, rfl⟩
  obtain ⟨X1, hX1⟩ : ∃ x, x = A2 ||| B2 := ⟨_, rfl⟩
  obtain ⟨X2, hX2⟩ : ∃ x, x = X1 ||| C2 := ⟨_, rfl⟩
  obtain ⟨X3, hX3⟩ : ∃ x, x = X2 ||| D := ⟨_, rfl⟩
  have w1 : IntKind.u32.wrap (a.toNat : Int) = (A.toNat : Int) := by rw [hA']; exact byte_w a
  have w2 : IntKind.u32.wrap (b.toNat : Int) = (B.toNat : Int) := by rw [hB']; exact byte_w b
  have w3 : IntKind.u32.wrap (c.toNat : Int) = (C.toNat : Int) := by rw [hC']; exact byte_w c
  have w4 : IntKind.u32.wrap (d.toNat : Int) = (D.toNat : Int) := by rw [hD']; exact byte_w d
  have s1 : ishl .u32 (A.toNat : Int) 24 = (A2.toNat : Int) := by rw [hA2]; exact ishl_w _ 24 (by decide)
  have s2 : ishl .u32 (B.toNat : Int) 16 = (B2.toNat : Int) := by rw [hB2]; exact ishl_w _ 16 (by decide)
  have s3 : ishl .u32 (C.toNat : Int) 8 = (C2.toNat : Int) := by rw [hC2]; exact ishl_w _ 8 (by decide)
  have o1 : ior .u32 (A2.toNat : Int) (B2.toNat : Int) = (X1.toNat : Int) := by rw [hX1]; exact ior_w _ _
  have o2 : ior .u32 (X1.toNat : Int) (C2.toNat : Int) = (X2.toNat : Int) := by rw [hX2]; exact ior_w _ _
  have o3 : ior .u32 (X2.toNat : Int) (D.toNat : Int) = (X3.toNat : Int) := by rw [hX3]; exact ior_w _ _
  have hX : X3 = wordT a b c d := by rw [hX3, hX2, hX1, hA2, hB2, hC2, hA', hB', hC', hD']; rfl
  obtain ⟨v', u1, u2⟩ := hv.upto (n := n) (by omega) hs (k := .i64)
  have hcv : cellsV v' = .ok [v'] := by
    have h1 := u2.lenA
    cases v' <;> simp only [lenA] at h1 <;> first | rfl | (cases h1; done)
  simp [hL, e0, e1, e2, e3, x0, x1, x2, x3, a0, a1, a2, a3, w1, w2, w3, w4, s1, s2, s3, o1, o2, o3, u1, buildSliceR, reps, hcv]
  have k1 : Old h (h.push (.row 1 false [v'])) := (Old.refl h).push _
  refine sum67 (bs := bs.take n) (u2.old k1) (by simp) (by simp; omega) ?_
  have hl4 := last4 hn4
  have hop : openS bs = if X3 = crc (bs.take n) then some (bs.take n) else none := by
    unfold openS
    rw [if_neg (by omega), show bs.length - 4 = n by omega]
    have : bs = sealS (bs.take n) ↔ X3 = crc (bs.take n) := by
      rw [hX, word_iff, sealS, ha, hb, hc, hd]
      constructor
      · intro h
        rw [hl4] at h
        have hx : List.take n (bs.take n ++ [bs[n], bs[n+1], bs[n+2], bs[n+3]]) = bs.take n := by rw [← hl4]
        rw [hx] at h
        exact List.append_cancel_left h
      · intro h
        rw [← h]; exact hl4
    by_cases hx : X3 = crc (bs.take n)
    · rw [if_pos hx, if_pos (this.2 hx)]
    · rw [if_neg hx, if_neg (fun h => hx (this.1 h))]
  simp [w32]
  refine orD (fun h4 => ?_) (fun h4 => ?_)
  · have h4 : X3 = crc (bs.take n) := BitVec.eq_of_toNat_eq (by omega)
    obtain ⟨v3, u4, u3⟩ := (hv.old k1).upto (n := n) (by omega) hs (k := .i64)
    rw [if_pos h4] at hop
    obtain ⟨cs, hcs⟩ : ∃ cs, cs = bs.take n := ⟨_, rfl⟩
    have hcl : cs.length ≤ 2 ^ 40 := by rw [hcs]; simp; omega
    rw [← hcs] at u3 hop
    obtain ⟨v2, h2, g1, m2, k2⟩ := (BM.nil (h0 := h) (h := h.push (.row 1 false [v']))).app (nb := cs) k1 (by simp; omega)
    simp [u4, u3.lenA, u3.read, g1]
    exact hq1 _ _ _ hop m2 k2
  · simp
    rw [if_neg (fun h => h4 (by rw [h]))] at hop
    exact hq2 _ hop k1
end
end Go.Proofs.Ytomhcjiefmaopaa
