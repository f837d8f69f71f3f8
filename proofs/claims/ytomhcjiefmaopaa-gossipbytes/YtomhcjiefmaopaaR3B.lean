/-
  A part of the proof of GossipBytes, over the seat Ytomhcjiefmaopaa: for every input the law returns true, and the input reads as it did.
-/
import Derived.Test.YtomhcjiefmaopaaR3A
import Derived.Test.YtomhcjiefmaopaaZzCrc
set_option linter.all false
set_option maxRecDepth 100000
set_option maxHeartbeats 4000000
namespace Go.Proofs.Ytomhcjiefmaopaa
open Go Go.RowKit Go.Proofs
section
variable {ro : Nat → Option (List AVal)}

theorem turn82 (x : BitVec 32) (h : AHeap) {Q : AVal → AHeap → Prop} (hq : Q (w32 (itT 8 x)) h) : Ev (cfgR ro) 82 [w32 x] h Q := by
  refine Ev.wp rfl rfl Try.func82 rfl ?_
  simp [Try.f82, w32]
  obtain ⟨I, hI⟩ : ∃ I : Nat → List AVal → AHeap → Prop, I = fun m env h' => ∃ (i : Nat) (y : BitVec 32) (z : AVal), i + m = 8 ∧ i < 8 ∧ h' = h ∧ itT (8 - i) y = itT 8 x ∧ env = (w32 y :: .dead :: .dead :: .int .i64 i :: .dead :: .dead :: .dead :: .dead :: .dead :: .dead :: .dead :: .dead :: .dead :: .dead :: .dead :: z :: .dead :: []) := ⟨_, rfl⟩
  refine label_loop I (fun _ _ => rfl) rfl ?_ 8 (by rw [hI]; exact ⟨0, x, .dead, rfl, by decide, rfl, rfl, rfl⟩)
  rintro m env h' hrec hi
  rw [hI] at hi
  obtain ⟨i, y, z, h1, h2, rfl, h3, rfl⟩ := hi
  have hw : IntKind.i64.wrap ((i : Int) + 1) = (i : Int) + 1 := w64 (by omega) (by omega)
  have hs : itT (8 - i) y = itT (8 - (i + 1)) (stepT y) := by rw [show 8 - i = (8 - (i + 1)) + 1 by omega]; rfl
  have fin : ∀ (q : BitVec 32) (z : AVal), q = stepT y → ∀ P : Prop, ((i + 1 < 8) → I (m - 1) (w32 q :: .dead :: .dead :: .int .i64 ((i : Int) + 1) :: .dead :: .dead :: .dead :: .dead :: .dead :: .dead :: .dead :: .dead :: .dead :: .dead :: .dead :: z :: .dead :: []) h') ∧ (¬ (i + 1 < 8) → q = itT 8 x) := by
    intro q z hq' P
    subst hq'
    refine ⟨fun h4 => ?_, fun h4 => ?_⟩
    · rw [hI]; exact ⟨i + 1, stepT y, z, by omega, h4, rfl, by rw [← hs, h3], rfl⟩
    · have : i = 7 := by omega
      subst this
      rw [← h3, hs]; rfl
  obtain ⟨y1, hy1⟩ : ∃ y1, y1 = y <<< 1 := ⟨_, rfl⟩
  obtain ⟨y2, hy2⟩ : ∃ y2, y2 = y1 ^^^ poly := ⟨_, rfl⟩
  have e1 : ishl .u32 (y.toNat : Int) 1 = (y1.toNat : Int) := by rw [hy1]; exact shl1_w y
  have e2 : ixor .u32 (y1.toNat : Int) 517762881 = (y2.toNat : Int) := by rw [hy2]; exact ixor_poly y1
  simp [w32]
  refine orD (fun h4 => ?_) (fun h4 => ?_)
  · rw [top_iff] at h4
    simp [hw, e1]
    have hf := fin y1 (.bool (decide ((i : Int) + 1 < 8))) (by unfold stepT; rw [h4, hy1]; rfl) True
    refine orD (fun h5 => ?_) (fun h5 => ?_)
    · simp
      exact hrec (m - 1) (by omega) _ _ (hf.1 (by omega))
    · simp
      have := hf.2 (by omega)
      rw [← this] at hq; exact hq
  · rw [top_iff] at h4
    simp [hw, e1, e2]
    have hf := fin y2 (.bool (decide ((i : Int) + 1 < 8))) (by unfold stepT; rw [if_pos (by simpa using h4), hy2, hy1]) True
    refine orD (fun h5 => ?_) (fun h5 => ?_)
    · simp
      exact hrec (m - 1) (by omega) _ _ (hf.1 (by omega))
    · simp
      have := hf.2 (by omega)
      rw [← this] at hq; exact hq

/-- the sum of one list -/
theorem sum67 {h : AHeap} {v : AVal} {o : Nat} {bs : List UInt8} (hv : BS (cfgR ro) h v bs) (ho : h.get o = some (.row 1 false [v])) (hn : bs.length ≤ 2 ^ 40) {Q : AVal → AHeap → Prop} (hq : Q (w32 (crc bs)) h) : Ev (cfgR ro) 67 [.sl o 0 1] h Q := by
  refine Ev.wp rfl rfl Try.func67 rfl ?_
  simp [Try.f67]
  obtain ⟨J, hJ⟩ : ∃ J : Nat → List AVal → AHeap → Prop, J = fun m env h' => h' = h ∧ m ≤ 1 ∧ ∃ (s : BitVec 32) (z : AVal), s = (if m = 0 then sumT 4294967295#32 bs else 4294967295#32) ∧ env = (.dead :: .dead :: .dead :: w32 s :: .dead :: .dead :: .dead :: .dead :: .sl o 0 1 :: .int .i64 1 :: .int .i64 ((1 - m : Nat) : Int) :: .dead :: .dead :: .dead :: .dead :: .dead :: .dead :: .dead :: .dead :: .dead :: .dead :: .dead :: .dead :: .dead :: .dead :: .dead :: .dead :: .dead :: .dead :: .dead :: []) := ⟨_, rfl⟩
  refine loop_of J ?_ 1 (by rw [hJ]; exact ⟨rfl, by omega, 4294967295#32, .dead, rfl, rfl⟩)
  rintro m env h' hj
  rw [hJ] at hj
  obtain ⟨rfl, hm, s, z, hs, rfl⟩ := hj
  have hm01 : m = 0 ∨ m = 1 := by omega
  rcases hm01 with rfl | rfl
  · simp [w32]
    have e1 : inot .u32 (s.toNat : Int) = ((~~~ s).toNat : Int) := inot_w s
    simp at hs
    have : ~~~ s = crc bs := by rw [hs]; rfl
    rw [this] at e1
    rw [e1]; exact hq
  · have hL : lenR (cfgR ro) h' 24 v = .ok (.int .i64 bs.length) := hv.lenR un24
    have hX : ∀ i, i < bs.length → indexAddrR Try.prog 24 v (.int .i64 (i : Int)) = .ok (elp v 1 i) := fun i hi => hv.idx un24 sz5 hi
    have hA : ∀ i (hi : i < bs.length), loadR (cfgR ro) h' 5 (elp v 1 i) = .ok (.int .u8 bs[i].toNat) := fun i hi => hv.load hi ag5
    have hi0 : idxNat (.int .i64 0) 1 = .ok 0 := rfl
    simp [hi0, ho, hL]
    obtain ⟨I, hI⟩ : ∃ I : Nat → List AVal → AHeap → Prop, I = fun m env h2 => ∃ (i : Nat) (s : BitVec 32), i + m = bs.length ∧ h2 = h' ∧ s = sumT 4294967295#32 (bs.take i) ∧ env = (.dead :: .dead :: .dead :: w32 s :: .dead :: .dead :: .dead :: .dead :: .sl o 0 1 :: .int .i64 1 :: .int .i64 0 :: .dead :: .dead :: .dead :: v :: .int .i64 bs.length :: .int .i64 i :: .dead :: .dead :: .dead :: .dead :: .dead :: .dead :: .dead :: .dead :: .dead :: .dead :: .dead :: .dead :: .dead :: []) := ⟨_, rfl⟩
    refine loop_of I ?_ bs.length (by rw [hI]; exact ⟨0, s, by simp, rfl, by rw [hs]; rfl, rfl⟩)
    rintro m env h2 hi
    rw [hI] at hi
    obtain ⟨i, y, hin, rfl, hy, rfl⟩ := hi
    have hw : IntKind.i64.wrap ((i : Int) + 1) = (i : Int) + 1 := w64 (by omega) (by omega)
    simp [w32]
    refine orD (fun h3 => ?_) (fun h3 => ?_)
    · obtain ⟨c1, hc1⟩ : ∃ c1, c1 = BitVec.ofNat 32 bs[i].toNat := ⟨_, rfl⟩
      obtain ⟨c2, hc2⟩ : ∃ c2, c2 = c1 <<< 24 := ⟨_, rfl⟩
      obtain ⟨c3, hc3⟩ : ∃ c3, c3 = y ^^^ c2 := ⟨_, rfl⟩
      have e1 : IntKind.u32.wrap (bs[i].toNat : Int) = (c1.toNat : Int) := by rw [hc1]; exact byte_w _
      have e2 : ishl .u32 (c1.toNat : Int) 24 = (c2.toNat : Int) := by rw [hc2]; exact ishl_w _ 24 (by decide)
      have e3 : ixor .u32 (y.toNat : Int) (c2.toNat : Int) = (c3.toNat : Int) := by rw [hc3]; exact ixor_w _ _
      simp [hX i h3, hA i h3, e1, e2, e3]
      refine turn82 c3 _ ?_
      simp [hw]
      exact .mk (m := m - 1) (by omega) (by rw [hI]; exact ⟨i + 1, _, by omega, rfl, by rw [sumT_take h3, ← hy, hc3, hc2, hc1]; rfl, rfl⟩)
    · simp
      rw [w64 (by omega) (by omega)]
      have : bs.take i = bs := List.take_of_length_le (by omega)
      rw [this] at hy
      exact .mk (m := 0) (by omega) (by rw [hJ]; exact ⟨rfl, by omega, y, .dead, by rw [if_pos rfl]; exact hy, rfl⟩)

theorem sum70 {h : AHeap} {v : AVal} {bs : List UInt8} (hv : BS (cfgR ro) h v bs) (hn : bs.length ≤ 2 ^ 40) {Q : AVal → AHeap → Prop} (hq : Q (w32 (crc bs)) h) : Ev (cfgR ro) 70 [v] h Q := by
  refine Ev.wp rfl rfl Try.func70 rfl ?_
  have hL : lenR (cfgR ro) h 24 v = .ok (.int .i64 bs.length) := hv.lenR un24
  have hX : ∀ i, i < bs.length → indexAddrR Try.prog 24 v (.int .i64 (i : Int)) = .ok (elp v 1 i) := fun i hi => hv.idx un24 sz5 hi
  have hA : ∀ i (hi : i < bs.length), loadR (cfgR ro) h 5 (elp v 1 i) = .ok (.int .u8 bs[i].toNat) := fun i hi => hv.load hi ag5
  simp [Try.f70]
  obtain ⟨J, hJ⟩ : ∃ J : Nat → List AVal → AHeap → Prop, J = fun m env h' => ∃ (i : Nat) (s : BitVec 32), i + m = bs.length ∧ h' = h ∧ s = sumT 4294967295#32 (bs.take i) ∧ env = (v :: .dead :: .dead :: w32 s :: .int .i64 i :: .dead :: .dead :: .dead :: .dead :: .dead :: .dead :: .dead :: .dead :: .dead :: .dead :: .dead :: .dead :: .dead :: .dead :: .dead :: .dead :: .dead :: .dead :: .dead :: .dead :: .dead :: .dead :: .dead :: .dead :: .dead :: .dead :: .dead :: .dead :: .dead :: .dead :: .dead :: .dead :: .dead :: .dead :: []) := ⟨_, rfl⟩
  refine loop_of J ?_ bs.length (by rw [hJ]; exact ⟨0, 4294967295#32, by simp, rfl, rfl, rfl⟩)
  rintro m env h' hj
  rw [hJ] at hj
  obtain ⟨i, s, hin, rfl, hs, rfl⟩ := hj
  have hw : IntKind.i64.wrap ((i : Int) + 1) = (i : Int) + 1 := w64 (by omega) (by omega)
  simp [w32, hL]
  refine orD (fun h3 => ?_) (fun h3 => ?_)
  · simp [hX i h3, hA i h3]
    have hc0 := bs[i].toNat_lt
    obtain ⟨I, hI⟩ : ∃ I : Nat → List AVal → AHeap → Prop, I = fun m env h2 => ∃ (k c : Nat) (y : BitVec 32) (b o : AVal), k + m = 8 ∧ h2 = h' ∧ c = bs[i].toNat * 2 ^ k % 256 ∧ itT (8 - k) (y ^^^ (BitVec.ofNat 32 c <<< 24)) = byteT s bs[i] ∧ env = (v :: .dead :: .dead :: w32 y :: .int .i64 i :: .int .u8 c :: .int .i64 k :: .dead :: .dead :: .dead :: .dead :: .dead :: .dead :: .dead :: .dead :: .dead :: .dead :: .dead :: .dead :: .dead :: .dead :: .dead :: .dead :: .dead :: .dead :: .dead :: .dead :: .dead :: .dead :: .dead :: .dead :: .dead :: .dead :: .dead :: .dead :: .dead :: .dead :: .dead :: .dead :: []) := ⟨_, rfl⟩
    refine loop_of I ?_ 8 (by rw [hI]; exact ⟨0, bs[i].toNat, s, .dead, .dead, by simp, rfl, by omega, rfl, rfl⟩)
    rintro m2 env h2 hi
    rw [hI] at hi
    obtain ⟨k, c, y, b, o, hkm, rfl, hc, hit, rfl⟩ := hi
    have hc256 : c < 256 := by rw [hc]; exact Nat.mod_lt _ (by decide)
    have hwk : IntKind.i64.wrap ((k : Int) + 1) = (k : Int) + 1 := w64 (by omega) (by omega)
    simp [w32]
    refine orD (fun h4 => ?_) (fun h4 => ?_)
    · have hy := y.isLt
      have hst := step_bit y c hc256
      rw [show 8 - k = (8 - (k + 1)) + 1 by omega] at hit
      have hit : itT (8 - (k + 1)) (stepT (y ^^^ (BitVec.ofNat 32 c <<< 24))) = byteT s bs[i] := hit
      rw [hst] at hit
      obtain ⟨y1, hy1⟩ : ∃ y1, y1 = y <<< 1 := ⟨_, rfl⟩
      obtain ⟨y2, hy2⟩ : ∃ y2, y2 = y1 ^^^ poly := ⟨_, rfl⟩
      have e1 : IntKind.u8.wrap ((c : Int) / 128) = ((c / 128 : Nat) : Int) := by rw [wrap8]; omega
      have e2 : IntKind.u32.wrap ((c / 128 : Nat) : Int) = ((c / 128 : Nat) : Int) := by rw [wrap32]; omega
      have e3 : IntKind.u8.wrap ((c : Int) * 2) = ((c * 2 % 256 : Nat) : Int) := by rw [wrap8]; omega
      have e4 : IntKind.u32.wrap ((y.toNat : Int) / 2147483648) = ((y.toNat / 2147483648 : Nat) : Int) := by rw [wrap32]; omega
      have e5 : IntKind.u32.wrap ((y.toNat : Int) * 2) = (y1.toNat : Int) := by
        rw [wrap32, hy1, BitVec.toNat_shiftLeft, Nat.shiftLeft_eq]; omega
      have e6 : ixor .u32 (y1.toNat : Int) 517762881 = (y2.toNat : Int) := by rw [hy2]; exact ixor_poly y1
      have hcc : c * 2 % 256 = bs[i].toNat * 2 ^ (k + 1) % 256 := by rw [hc, Nat.pow_succ, ← Nat.mul_assoc, Nat.mod_mul_mod]
      obtain ⟨q1, hq1⟩ : ∃ q1, q1 = c / 128 := ⟨_, rfl⟩
      obtain ⟨q2, hq2⟩ : ∃ q2, q2 = y.toNat / 2147483648 := ⟨_, rfl⟩
      obtain ⟨q3, hq3⟩ : ∃ q3, q3 = c * 2 % 256 := ⟨_, rfl⟩
      rw [← hq1] at e1 e2
      rw [← hq2] at e4
      rw [← hq3] at e3 hcc
      simp [e1, e2, e3, e4, e5]
      rw [← hy1, ← hq1, ← hq2, ← hq3, ← hy2] at hit
      refine orD (fun h5 => ?_) (fun h5 => ?_)
      · have h5 : q2 = q1 := by omega
        rw [if_pos h5] at hit
        simp [hwk]
        exact .mk (m := m2 - 1) (by omega) (by rw [hI]; exact ⟨k + 1, q3, y1, .dead, .dead, by omega, rfl, hcc, hit, rfl⟩)
      · have h5 : ¬ q2 = q1 := by omega
        rw [if_neg h5] at hit
        simp [hwk, e6]
        exact .mk (m := m2 - 1) (by omega) (by rw [hI]; exact ⟨k + 1, q3, y2, .dead, .dead, by omega, rfl, hcc, hit, rfl⟩)
    · have hk : k = 8 := by omega
      subst hk
      have hc : c = 0 := by rw [hc]; omega
      subst hc
      have hit : y ^^^ (BitVec.ofNat 32 0 <<< 24) = byteT s bs[i] := hit
      have hz : (BitVec.ofNat 32 0 <<< 24) = 0#32 := by decide
      rw [hz, BitVec.xor_zero] at hit
      simp [hw]
      exact .mk (m := m - 1) (by omega) (by rw [hJ]; exact ⟨i + 1, y, by omega, rfl, by rw [sumT_take h3, ← hs, hit], rfl⟩)
  · simp
    have hi : bs.take i = bs := List.take_of_length_le (by omega)
    rw [hi] at hs
    have h1 : (crc bs).toNat = 4294967295 - s.toNat := by
      unfold crc; rw [BitVec.toNat_not, ← hs]
    have h2 := s.isLt
    rw [show IntKind.u32.wrap (4294967295 - (s.toNat : Int)) = ((crc bs).toNat : Int) by rw [wrap32, h1]; omega]
    exact hq
end
end Go.Proofs.Ytomhcjiefmaopaa
