/-
  A part of the proof of ProbeReads, over the seat Ytomhcjiefmaopaa: for every input the law returns true, and the input reads as it did.
-/
import Derived.Test.YtomhcjiefmaopaaRa
import Derived.Test.YtomhcjiefmaopaaZe
set_option linter.all false
set_option linter.all false
set_option maxRecDepth 100000
set_option maxHeartbeats 4000000
namespace Go.Proofs.Ytomhcjiefmaopaa
open Go Go.RowKit Go.Proofs

/-- a writer, at a place that was there at hb -/
def WrAt (hb h : AHeap) (w : Nat) (bs : List UInt8) : Prop := ∃ v, h.get w = some (.row 0 false [v]) ∧ BM hb h v bs ∧ w < hb.next ∧ hb.next ≤ h.next
/-- what writing leaves -/
def Wst (hb : AHeap) (w : Nat) (h h' : AHeap) : Prop := h.next ≤ h'.next ∧ ∀ o, o < hb.next → o ≠ w → h'.get o = h.get o
theorem Wst.refl {hb : AHeap} {w : Nat} {h : AHeap} : Wst hb w h h := ⟨Nat.le_refl _, fun _ _ _ => rfl⟩
theorem Wst.trans {hb : AHeap} {w : Nat} {a b c : AHeap} (h : Wst hb w a b) (k : Wst hb w b c) : Wst hb w a c := ⟨Nat.le_trans h.1 k.1, fun o h1 h2 => (k.2 o h1 h2).trans (h.2 o h1 h2)⟩

/-- one byte more -/
theorem wr_one {hb h : AHeap} {w : Nat} {bs : List UInt8} {b : UInt8} {v : AVal} (hv : h.get w = some (.row 0 false [v])) (hm : BM hb h v bs) (hw : w < hb.next) (hn : hb.next ≤ h.next) (hl : bs.length ≤ 2 ^ 40) (x : AObj) :
    ∃ v' h', appCore 1 1 (h.push x) v 1 [bcell b] = .ok (v', h') ∧ cellsV v' = .ok [v'] ∧ h'.get w = some (.row 0 false [v]) ∧ WrAt hb (h'.set w (.row 0 false [v'])) w (bs ++ [b]) ∧ Wst hb w h (h'.set w (.row 0 false [v'])) := by
  have hm' : BM hb (h.push x) v bs := hm.keep ((Old.refl h).push x)
  obtain ⟨v', h', h1, h2, h3, h4⟩ := Mine.append1G (bytes := 1) (e := [bcell b]) hm' (by omega) rfl (by rw [bes_len]; omega) (by simp; omega)
  refine ⟨v', h', h1, by obtain ⟨_, ⟨_, rfl⟩ | ⟨_, _, rfl, _⟩⟩ := h2 <;> rfl, ?_, ⟨v', by rw [AHeap.get_set]; simp, ?_, hw, by simp at h3 ⊢; omega⟩, by simp at h3 ⊢; omega, fun o ho hne => ?_⟩
  · rw [h4 w hw, AHeap.get_push, if_neg (by omega)]; exact hv
  · unfold BM
    rw [bes_append]
    obtain ⟨e1, e2⟩ := h2
    refine ⟨e1, ?_⟩
    rcases e2 with e2 | ⟨q, fz, e2, e3, e4, e5⟩
    · exact .inl e2
    · exact .inr ⟨q, fz, e2, e3, by simpa using e4, by rw [AHeap.get_set, if_neg (by omega)]; exact e5⟩
  · rw [AHeap.get_set, if_neg (by omega), h4 o ho, AHeap.get_push, if_neg (by omega)]

section
variable {ro : Nat → Option (List AVal)}

theorem byte30 {hb h : AHeap} {w : Nat} {bs : List UInt8} {b : UInt8} (hw : WrAt hb h w bs) (hl : bs.length ≤ 2 ^ 40) {Q : AVal → AHeap → Prop}
    (hq : ∀ h', WrAt hb h' w (bs ++ [b]) → Wst hb w h h' → Q (.tuple []) h') : Ev (cfgR ro) 30 [.ptr w 0, .int .u8 b.toNat] h Q := by
  obtain ⟨v, hv, hm, hwl, hn⟩ := hw
  refine Ev.wp rfl rfl Try.func30 rfl ?_
  obtain ⟨v', h', h1, hc, h2, h3, h4⟩ := wr_one (b := b) hv hm hwl hn hl (.row 1 false [.int .u8 b.toNat])
  simp only [bcell] at h1
  simp [Try.f30, hv, buildSliceR, reps, h1, hc, h2]
  exact hq _ h3 h4

theorem num31 {hb h : AHeap} {w : Nat} {bs : List UInt8} {n : Nat} (hn : n < 2 ^ 63) (hw : WrAt hb h w bs) (hl : bs.length ≤ 2 ^ 39) {Q : AVal → AHeap → Prop}
    (hq : ∀ h', WrAt hb h' w (bs ++ numS n) → Wst hb w h h' → Q (.tuple []) h') : Ev (cfgR ro) 31 [.ptr w 0, .int .u64 n] h Q := by
  refine Ev.wp rfl rfl Try.func31 rfl ?_
  have e0 : IntKind.u64.wrap (n : Int) = n := by rw [wrap64]; omega
  simp [Try.f31, and63 hn]
  obtain ⟨I, hI⟩ : ∃ I : Nat → List AVal → AHeap → Prop, I = fun m env h' => ∃ (bs' : List UInt8), m < 2 ^ 63 ∧ WrAt hb h' w bs' ∧ Wst hb w h h' ∧ bs ++ numS n = bs' ++ numS m ∧ bs'.length + (numS m).length = bs.length + (numS n).length ∧ env = (.ptr w 0 :: .int .u64 m :: .dead :: .dead :: .dead :: .dead :: .dead :: .dead :: .dead :: .dead :: .dead :: .dead :: .dead :: .dead :: .dead :: .dead :: .dead :: .dead :: .dead :: .dead :: .dead :: .dead :: .dead :: .dead :: .dead :: .dead :: .dead :: .dead :: .dead :: .dead :: .dead :: .dead :: .dead :: []) := ⟨_, rfl⟩
  have hnl := numS_len 8 n (by omega)
  refine label_loop I (fun _ _ => rfl) rfl ?_ n (by rw [hI]; exact ⟨bs, hn, hw, Wst.refl, rfl, rfl, rfl⟩)
  rintro m env h' hrec hi
  have hi' := hi
  rw [hI] at hi'
  obtain ⟨bs', hm, hw', hs', he, hle, rfl⟩ := hi'
  obtain ⟨v, hv, hbm, hwl, hnx⟩ := hw'
  simp
  refine orD (fun h1 => ?_) (fun h1 => ?_)
  · have h1 : m < 128 := by omega
    rw [numS_lo h1] at he hle
    have e1 : IntKind.u8.wrap (m : Int) = m := by rw [wrap8]; omega
    obtain ⟨v', h2, k1, kc, k2, k3, k4⟩ := wr_one (b := UInt8.ofNat m) hv hbm hwl hnx (by omega) (.row 1 false [.int .u8 m])
    simp only [bcell, toNat_ofNat (show m < 256 by omega)] at k1
    simp [hv, buildSliceR, reps, e1, k1, kc, k2]
    exact hq _ (by rw [he]; exact k3) (hs'.trans k4)
  · have h1 : ¬ m < 128 := by omega
    rw [numS_hi h1] at he hle
    have e1 : IntKind.u8.wrap (m : Int) = ((m % 256 : Nat) : Int) := by rw [wrap8]; omega
    have e3 : ior .u8 (IntKind.u8.wrap (m : Int)) 128 = ((m % 128 + 128 : Nat) : Int) := by rw [e1, or128 (m % 256) (Nat.mod_lt _ (by omega))]; omega
    obtain ⟨v', h2, k1, kc, k2, k3, k4⟩ := wr_one (b := UInt8.ofNat (m % 128 + 128)) hv hbm hwl hnx (by simp at hle; omega) (.row 1 false [.int .u8 ((m % 128 + 128 : Nat) : Int)])
    simp only [bcell, toNat_ofNat (show m % 128 + 128 < 256 by omega)] at k1
    obtain ⟨x, hx⟩ : ∃ x : Int, x = ((m % 128 + 128 : Nat) : Int) := ⟨_, rfl⟩
    rw [← hx] at k1 e3
    simp [hv, buildSliceR, reps, e3, k1, kc, k2, shr7]
    refine hrec (m / 128) (by omega) _ _ ?_
    rw [hI]
    exact ⟨_, by omega, k3, hs'.trans k4, by rw [he]; simp, by simp at hle ⊢; omega, rfl⟩
end
end Go.Proofs.Ytomhcjiefmaopaa
set_option linter.all false
set_option maxRecDepth 100000
set_option maxHeartbeats 4000000
namespace Go.Proofs.Ytomhcjiefmaopaa
open Go Go.RowKit Go.Proofs
section
variable {ro : Nat → Option (List AVal)}

theorem turn82 (x : BitVec 32) (h : AHeap) {Q : AVal → AHeap → Prop} (hq : Q (w32 (itT 8 x)) h) : Ev (cfgR ro) 82 [w32 x] h Q := by
  refine Ev.wp rfl rfl Try.func82 rfl ?_
  simp [Try.f82, w32]
  obtain ⟨I, hI⟩ : ∃ I : Nat → List AVal → AHeap → Prop, I = fun m env h' => ∃ (i : Nat) (y : BitVec 32) (z : AVal), i + m = 8 ∧ i < 8 ∧ h' = h ∧ itT (8 - i) y = itT 8 x ∧ env = (w32 y :: .dead :: .dead :: .int .i64 i :: .dead :: .dead :: .dead :: .dead :: .dead :: .dead :: .dead :: .dead :: .dead :: .dead :: .dead :: z :: .dead :: []) := ⟨_, rfl⟩
  refine label_loop I (fun _ _ => rfl) rfl ?_ 8 (by rw [hI]; exact ⟨0, x, .dead, rfl, by decide, rfl, rfl, rfl⟩)
  rintro m env h' hrec hi
  rw [hI] at hi
  obtain ⟨i, y, z, h1, h2, rfl, h3, rfl⟩ := hi
  have hw : IntKind.i64.wrap ((i : Int) + 1) = (i : Int) + 1 := w64 (by omega) (by omega)
  have hs : itT (8 - i) y = itT (8 - (i + 1)) (stepT y) := by rw [show 8 - i = (8 - (i + 1)) + 1 by omega]; rfl
  have fin : ∀ (q : BitVec 32) (z : AVal), q = stepT y → ∀ P : Prop, ((i + 1 < 8) → I (m - 1) (w32 q :: .dead :: .dead :: .int .i64 ((i : Int) + 1) :: .dead :: .dead :: .dead :: .dead :: .dead :: .dead :: .dead :: .dead :: .dead :: .dead :: .dead :: z :: .dead :: []) h') ∧ (¬ (i + 1 < 8) → q = itT 8 x) := by
    intro q z hq' P
    subst hq'
    refine ⟨fun h4 => ?_, fun h4 => ?_⟩
    · rw [hI]; exact ⟨i + 1, stepT y, z, by omega, h4, rfl, by rw [← hs, h3], rfl⟩
    · have : i = 7 := by omega
      subst this
      rw [← h3, hs]; rfl
  obtain ⟨y1, hy1⟩ : ∃ y1, y1 = y <<< 1 := ⟨_, rfl⟩
  obtain ⟨y2, hy2⟩ : ∃ y2, y2 = y1 ^^^ poly := ⟨_, rfl⟩
  have e1 : ishl .u32 (y.toNat : Int) 1 = (y1.toNat : Int) := by rw [hy1]; exact shl1_w y
  have e2 : ixor .u32 (y1.toNat : Int) 517762881 = (y2.toNat : Int) := by rw [hy2]; exact ixor_poly y1
  simp [w32]
  refine orD (fun h4 => ?_) (fun h4 => ?_)
  · rw [top_iff] at h4
    simp [hw, e1]
    have hf := fin y1 (.bool (decide ((i : Int) + 1 < 8))) (by unfold stepT; rw [h4, hy1]; rfl) True
    refine orD (fun h5 => ?_) (fun h5 => ?_)
    · simp
      exact hrec (m - 1) (by omega) _ _ (hf.1 (by omega))
    · simp
      have := hf.2 (by omega)
      rw [← this] at hq; exact hq
  · rw [top_iff] at h4
    simp [hw, e1, e2]
    have hf := fin y2 (.bool (decide ((i : Int) + 1 < 8))) (by unfold stepT; rw [if_pos (by simpa using h4), hy2, hy1]) True
    refine orD (fun h5 => ?_) (fun h5 => ?_)
    · simp
      exact hrec (m - 1) (by omega) _ _ (hf.1 (by omega))
    · simp
      have := hf.2 (by omega)
      rw [← this] at hq; exact hq

/-- the sum of one list -/
theorem sum67 {h : AHeap} {v : AVal} {o : Nat} {bs : List UInt8} (hv : BS (cfgR ro) h v bs) (ho : h.get o = some (.row 1 false [v])) (hn : bs.length ≤ 2 ^ 40) {Q : AVal → AHeap → Prop} (hq : Q (w32 (crc bs)) h) : Ev (cfgR ro) 67 [.sl o 0 1] h Q := by
  refine Ev.wp rfl rfl Try.func67 rfl ?_
  simp [Try.f67]
  obtain ⟨J, hJ⟩ : ∃ J : Nat → List AVal → AHeap → Prop, J = fun m env h' => h' = h ∧ m ≤ 1 ∧ ∃ (s : BitVec 32) (z : AVal), s = (if m = 0 then sumT 4294967295#32 bs else 4294967295#32) ∧ env = (.dead :: .dead :: .dead :: w32 s :: .dead :: .dead :: .dead :: .dead :: .sl o 0 1 :: .int .i64 1 :: .int .i64 ((1 - m : Nat) : Int) :: .dead :: .dead :: .dead :: .dead :: .dead :: .dead :: .dead :: .dead :: .dead :: .dead :: .dead :: .dead :: .dead :: .dead :: .dead :: .dead :: .dead :: .dead :: .dead :: []) := ⟨_, rfl⟩
  refine loop_of J ?_ 1 (by rw [hJ]; exact ⟨rfl, by omega, 4294967295#32, .dead, rfl, rfl⟩)
  rintro m env h' hj
  rw [hJ] at hj
  obtain ⟨rfl, hm, s, z, hs, rfl⟩ := hj
  have hm01 : m = 0 ∨ m = 1 := by omega
  rcases hm01 with rfl | rfl
  · simp [w32]
    have e1 : inot .u32 (s.toNat : Int) = ((~~~ s).toNat : Int) := inot_w s
    simp at hs
    have : ~~~ s = crc bs := by rw [hs]; rfl
    rw [this] at e1
    rw [e1]; exact hq
  · have hL : lenR (cfgR ro) h' 24 v = .ok (.int .i64 bs.length) := hv.lenR un24
    have hX : ∀ i, i < bs.length → indexAddrR Try.prog 24 v (.int .i64 (i : Int)) = .ok (elp v 1 i) := fun i hi => hv.idx un24 sz5 hi
    have hA : ∀ i (hi : i < bs.length), loadR (cfgR ro) h' 5 (elp v 1 i) = .ok (.int .u8 bs[i].toNat) := fun i hi => hv.load hi ag5
    have hi0 : idxNat (.int .i64 0) 1 = .ok 0 := rfl
    simp [hi0, ho, hL]
    obtain ⟨I, hI⟩ : ∃ I : Nat → List AVal → AHeap → Prop, I = fun m env h2 => ∃ (i : Nat) (s : BitVec 32), i + m = bs.length ∧ h2 = h' ∧ s = sumT 4294967295#32 (bs.take i) ∧ env = (.dead :: .dead :: .dead :: w32 s :: .dead :: .dead :: .dead :: .dead :: .sl o 0 1 :: .int .i64 1 :: .int .i64 0 :: .dead :: .dead :: .dead :: v :: .int .i64 bs.length :: .int .i64 i :: .dead :: .dead :: .dead :: .dead :: .dead :: .dead :: .dead :: .dead :: .dead :: .dead :: .dead :: .dead :: .dead :: []) := ⟨_, rfl⟩
    refine loop_of I ?_ bs.length (by rw [hI]; exact ⟨0, s, by simp, rfl, by rw [hs]; rfl, rfl⟩)
    rintro m env h2 hi
    rw [hI] at hi
    obtain ⟨i, y, hin, rfl, hy, rfl⟩ := hi
    have hw : IntKind.i64.wrap ((i : Int) + 1) = (i : Int) + 1 := w64 (by omega) (by omega)
    simp [w32]
    refine orD (fun h3 => ?_) (fun h3 => ?_)
    · obtain ⟨c1, hc1⟩ : ∃ c1, c1 = BitVec.ofNat 32 bs[i].toNat := ⟨_, rfl⟩
      obtain ⟨c2, hc2⟩ : ∃ c2, c2 = c1 <<< 24 := ⟨_, rfl⟩
      obtain ⟨c3, hc3⟩ : ∃ c3, c3 = y ^^^ c2 := ⟨_, rfl⟩
      have e1 : IntKind.u32.wrap (bs[i].toNat : Int) = (c1.toNat : Int) := by rw [hc1]; exact byte_w _
      have e2 : ishl .u32 (c1.toNat : Int) 24 = (c2.toNat : Int) := by rw [hc2]; exact ishl_w _ 24 (by decide)
      have e3 : ixor .u32 (y.toNat : Int) (c2.toNat : Int) = (c3.toNat : Int) := by rw [hc3]; exact ixor_w _ _
      simp [hX i h3, hA i h3, e1, e2, e3]
      refine turn82 c3 _ ?_
      simp [hw]
      exact .mk (m := m - 1) (by omega) (by rw [hI]; exact ⟨i + 1, _, by omega, rfl, by rw [sumT_take h3, ← hy, hc3, hc2, hc1]; rfl, rfl⟩)
    · simp
      rw [w64 (by omega) (by omega)]
      have : bs.take i = bs := List.take_of_length_le (by omega)
      rw [this] at hy
      exact .mk (m := 0) (by omega) (by rw [hJ]; exact ⟨rfl, by omega, y, .dead, by rw [if_pos rfl]; exact hy, rfl⟩)

theorem sum70 {h : AHeap} {v : AVal} {bs : List UInt8} (hv : BS (cfgR ro) h v bs) (hn : bs.length ≤ 2 ^ 40) {Q : AVal → AHeap → Prop} (hq : Q (w32 (crc bs)) h) : Ev (cfgR ro) 70 [v] h Q := by
  refine Ev.wp rfl rfl Try.func70 rfl ?_
  have hL : lenR (cfgR ro) h 24 v = .ok (.int .i64 bs.length) := hv.lenR un24
  have hX : ∀ i, i < bs.length → indexAddrR Try.prog 24 v (.int .i64 (i : Int)) = .ok (elp v 1 i) := fun i hi => hv.idx un24 sz5 hi
  have hA : ∀ i (hi : i < bs.length), loadR (cfgR ro) h 5 (elp v 1 i) = .ok (.int .u8 bs[i].toNat) := fun i hi => hv.load hi ag5
  simp [Try.f70]
  obtain ⟨J, hJ⟩ : ∃ J : Nat → List AVal → AHeap → Prop, J = fun m env h' => ∃ (i : Nat) (s : BitVec 32), i + m = bs.length ∧ h' = h ∧ s = sumT 4294967295#32 (bs.take i) ∧ env = (v :: .dead :: .dead :: w32 s :: .int .i64 i :: .dead :: .dead :: .dead :: .dead :: .dead :: .dead :: .dead :: .dead :: .dead :: .dead :: .dead :: .dead :: .dead :: .dead :: .dead :: .dead :: .dead :: .dead :: .dead :: .dead :: .dead :: .dead :: .dead :: .dead :: .dead :: .dead :: .dead :: .dead :: .dead :: .dead :: .dead :: .dead :: .dead :: .dead :: []) := ⟨_, rfl⟩
  refine loop_of J ?_ bs.length (by rw [hJ]; exact ⟨0, 4294967295#32, by simp, rfl, rfl, rfl⟩)
  rintro m env h' hj
  rw [hJ] at hj
  obtain ⟨i, s, hin, rfl, hs, rfl⟩ := hj
  have hw : IntKind.i64.wrap ((i : Int) + 1) = (i : Int) + 1 := w64 (by omega) (by omega)
  simp [w32, hL]
  refine orD (fun h3 => ?_) (fun h3 => ?_)
  · simp [hX i h3, hA i h3]
    have hc0 := bs[i].toNat_lt
    obtain ⟨I, hI⟩ : ∃ I : Nat → List AVal → AHeap → Prop, I = fun m env h2 => ∃ (k c : Nat) (y : BitVec 32) (b o : AVal), k + m = 8 ∧ h2 = h' ∧ c = bs[i].toNat * 2 ^ k % 256 ∧ itT (8 - k) (y ^^^ (BitVec.ofNat 32 c <<< 24)) = byteT s bs[i] ∧ env = (v :: .dead :: .dead :: w32 y :: .int .i64 i :: .int .u8 c :: .int .i64 k :: .dead :: .dead :: .dead :: .dead :: .dead :: .dead :: .dead :: .dead :: .dead :: .dead :: .dead :: .dead :: .dead :: .dead :: .dead :: .dead :: .dead :: .dead :: .dead :: .dead :: .dead :: .dead :: .dead :: .dead :: .dead :: .dead :: .dead :: .dead :: .dead :: .dead :: .dead :: .dead :: []) := ⟨_, rfl⟩
    refine loop_of I ?_ 8 (by rw [hI]; exact ⟨0, bs[i].toNat, s, .dead, .dead, by simp, rfl, by omega, rfl, rfl⟩)
    rintro m2 env h2 hi
    rw [hI] at hi
    obtain ⟨k, c, y, b, o, hkm, rfl, hc, hit, rfl⟩ := hi
    have hc256 : c < 256 := by rw [hc]; exact Nat.mod_lt _ (by decide)
    have hwk : IntKind.i64.wrap ((k : Int) + 1) = (k : Int) + 1 := w64 (by omega) (by omega)
    simp [w32]
    refine orD (fun h4 => ?_) (fun h4 => ?_)
    · have hy := y.isLt
      have hst := step_bit y c hc256
      rw [show 8 - k = (8 - (k + 1)) + 1 by omega] at hit
      have hit : itT (8 - (k + 1)) (stepT (y ^^^ (BitVec.ofNat 32 c <<< 24))) = byteT s bs[i] := hit
      rw [hst] at hit
      obtain ⟨y1, hy1⟩ : ∃ y1, y1 = y <<< 1 := ⟨_, rfl⟩
      obtain ⟨y2, hy2⟩ : ∃ y2, y2 = y1 ^^^ poly := ⟨_, rfl⟩
      have e1 : IntKind.u8.wrap ((c : Int) / 128) = ((c / 128 : Nat) : Int) := by rw [wrap8]; omega
      have e2 : IntKind.u32.wrap ((c / 128 : Nat) : Int) = ((c / 128 : Nat) : Int) := by rw [wrap32]; omega
      have e3 : IntKind.u8.wrap ((c : Int) * 2) = ((c * 2 % 256 : Nat) : Int) := by rw [wrap8]; omega
      have e4 : IntKind.u32.wrap ((y.toNat : Int) / 2147483648) = ((y.toNat / 2147483648 : Nat) : Int) := by rw [wrap32]; omega
      have e5 : IntKind.u32.wrap ((y.toNat : Int) * 2) = (y1.toNat : Int) := by
        rw [wrap32, hy1, BitVec.toNat_shiftLeft, Nat.shiftLeft_eq]; omega
      have e6 : ixor .u32 (y1.toNat : Int) 517762881 = (y2.toNat : Int) := by rw [hy2]; exact ixor_poly y1
      have hcc : c * 2 % 256 = bs[i].toNat * 2 ^ (k + 1) % 256 := by rw [hc, Nat.pow_succ, ← Nat.mul_assoc, Nat.mod_mul_mod]
      obtain ⟨q1, hq1⟩ : ∃ q1, q1 = c / 128 := ⟨_, rfl⟩
      obtain ⟨q2, hq2⟩ : ∃ q2, q2 = y.toNat / 2147483648 := ⟨_, rfl⟩
      obtain ⟨q3, hq3⟩ : ∃ q3, q3 = c * 2 % 256 := ⟨_, rfl⟩
      rw [← hq1] at e1 e2
      rw [← hq2] at e4
      rw [← hq3] at e3 hcc
      simp [e1, e2, e3, e4, e5]
      rw [← hy1, ← hq1, ← hq2, ← hq3, ← hy2] at hit
      refine orD (fun h5 => ?_) (fun h5 => ?_)
      · have h5 : q2 = q1 := by omega
        rw [if_pos h5] at hit
        simp [hwk]
        exact .mk (m := m2 - 1) (by omega) (by rw [hI]; exact ⟨k + 1, q3, y1, .dead, .dead, by omega, rfl, hcc, hit, rfl⟩)
      · have h5 : ¬ q2 = q1 := by omega
        rw [if_neg h5] at hit
        simp [hwk, e6]
        exact .mk (m := m2 - 1) (by omega) (by rw [hI]; exact ⟨k + 1, q3, y2, .dead, .dead, by omega, rfl, hcc, hit, rfl⟩)
    · have hk : k = 8 := by omega
      subst hk
      have hc : c = 0 := by rw [hc]; omega
      subst hc
      have hit : y ^^^ (BitVec.ofNat 32 0 <<< 24) = byteT s bs[i] := hit
      have hz : (BitVec.ofNat 32 0 <<< 24) = 0#32 := by decide
      rw [hz, BitVec.xor_zero] at hit
      simp [hw]
      exact .mk (m := m - 1) (by omega) (by rw [hJ]; exact ⟨i + 1, y, by omega, rfl, by rw [sumT_take h3, ← hs, hit], rfl⟩)
  · simp
    have hi : bs.take i = bs := List.take_of_length_le (by omega)
    rw [hi] at hs
    have h1 : (crc bs).toNat = 4294967295 - s.toNat := by
      unfold crc; rw [BitVec.toNat_not, ← hs]
    have h2 := s.isLt
    rw [show IntKind.u32.wrap (4294967295 - (s.toNat : Int)) = ((crc bs).toNat : Int) by rw [wrap32, h1]; omega]
    exact hq
end
end Go.Proofs.Ytomhcjiefmaopaa
set_option linter.all false
set_option maxRecDepth 100000
set_option maxHeartbeats 4000000
namespace Go.Proofs.Ytomhcjiefmaopaa
open Go Go.RowKit Go.Proofs

def crc4 (x : BitVec 32) : List UInt8 := [UInt8.ofNat (x.toNat / 16777216), UInt8.ofNat (x.toNat / 65536), UInt8.ofNat (x.toNat / 256), UInt8.ofNat x.toNat]
def sealS (bs : List UInt8) : List UInt8 := bs ++ crc4 (crc bs)
theorem bcell_ofNat (n : Nat) : bcell (UInt8.ofNat n) = .int .u8 ((n : Int) % 256) := by
  unfold bcell; rw [UInt8.toNat_ofNat']; rfl

theorem BM.app {h0 h : AHeap} {v : AVal} {bs nb : List UInt8} (m : BM h0 h v bs) (k : Old h0 h) (hl : bs.length + nb.length ≤ 2 ^ 46) :
    ∃ v' h', appCore 1 1 h v nb.length (nb.map bcell) = .ok (v', h') ∧ BM h0 h' v' (bs ++ nb) ∧ Old h0 h' := by
  have := Mine.append (bytes := 1) (new := bes nb) m (by omega) (bes_one nb) (by rw [bes_len, bes_len]; omega) k
  rw [bes_len, bes_flat, ← bes_append] at this
  exact this
theorem BM.cells {h0 h : AHeap} {v : AVal} {bs : List UInt8} (m : BM h0 h v bs) : cellsV v = .ok [v] := by
  obtain ⟨_, ⟨_, rfl⟩ | ⟨_, _, rfl, _⟩⟩ := m <;> rfl
theorem BM.noSlc {h0 h : AHeap} {v : AVal} {bs : List UInt8} (m : BM h0 h v bs) : ∀ o f l q, v ≠ .slc o f l q := by
  obtain ⟨_, ⟨_, rfl⟩ | ⟨_, _, rfl, _⟩⟩ := m <;> intros <;> simp

theorem mkSlice_ok {P : Program} {h : AHeap} {t e n b : Nat} {k k' : IntKind} {l m : Nat} {z : List AVal} (he : elemSl P t = .ok e) (hi : ∃ i, infoR P e = .ok i ∧ i.size = n ∧ i.bytes = b) (hz : zeroCellsR P e = .ok z) (hn : n ≠ 0) (hzl : z.length = n)
    (hlm : l ≤ m) (hm : m < 2 ^ 62) (hb : b * m ≤ 2 ^ 48) : makeSliceR P h t (.int k l) (.int k' m) = .ok (.sl h.next 0 l, h.push (.row n false (reps m z))) := by
  obtain ⟨i, h1, rfl, rfl⟩ := hi
  unfold makeSliceR
  simp only [he, h1, hz, bind_ok]
  rw [if_pos, if_pos hzl]
  · simp
  · refine ⟨w64 (by omega) (by omega), w64 (by omega) (by omega), by omega, by omega, ?_, hn⟩
    have : ((i.bytes * m : Nat) : Int) ≤ 2 ^ 48 := by omega
    simpa using this
theorem reps_len {n : Nat} {z : List AVal} : (reps n z).length = n * z.length := by
  unfold reps; simp

section
variable {ro : Nat → Option (List AVal)}

theorem seal32 {h : AHeap} {v : AVal} {bs : List UInt8} (hv : BS (cfgR ro) h v bs) (hn : bs.length ≤ 2 ^ 40) {Q : AVal → AHeap → Prop} (hq : ∀ v' h', BM h h' v' (sealS bs) → Old h h' → Q v' h') : Ev (cfgR ro) 32 [v] h Q := by
  refine Ev.wp rfl rfl Try.func32 rfl ?_
  have hc : cellsV v = .ok [v] := by
    have h1 := hv.lenA
    cases v <;> simp only [lenA] at h1 <;> first | rfl | (cases h1; done)
  simp [Try.f32, buildSliceR, reps, hc]
  have o1 : Old h (h.push (.row 1 false [v])) := (Old.refl h).push _
  refine sum67 (hv.old o1) (by simp) hn ?_
  have hv1 := hv.old o1
  obtain ⟨v1, h1, e1, m1, k1⟩ := (BM.nil (h0 := h) (h := h.push (.row 1 false [v]))).app (nb := bs) o1 (by simp; omega)
  obtain ⟨x, hx⟩ : ∃ x, x = crc bs := ⟨_, rfl⟩
  rw [← hx]
  have s1 : ishr .u32 (x.toNat : Int) 24 = ((x.toNat / 16777216 : Nat) : Int) := ishr_w x 24 (by decide)
  have s2 : ishr .u32 (x.toNat : Int) 16 = ((x.toNat / 65536 : Nat) : Int) := ishr_w x 16 (by decide)
  have s3 : ishr .u32 (x.toNat : Int) 8 = ((x.toNat / 256 : Nat) : Int) := ishr_w x 8 (by decide)
  obtain ⟨n1, g1⟩ : ∃ n : Nat, n = x.toNat / 16777216 := ⟨_, rfl⟩
  obtain ⟨n2, g2⟩ : ∃ n : Nat, n = x.toNat / 65536 := ⟨_, rfl⟩
  obtain ⟨n3, g3⟩ : ∃ n : Nat, n = x.toNat / 256 := ⟨_, rfl⟩
  obtain ⟨n4, g4⟩ : ∃ n : Nat, n = x.toNat := ⟨_, rfl⟩
  have t : ∀ n : Nat, IntKind.u8.wrap (n : Int) = (n : Int) % 256 := fun n => wrap8 n
  obtain ⟨a1, d1⟩ : ∃ a : AVal, a = bcell (UInt8.ofNat n1) := ⟨_, rfl⟩
  have hm := m1.keep ((Old.refl h1).push (.row 1 false [bcell (UInt8.ofNat n1), bcell (UInt8.ofNat n2), bcell (UInt8.ofNat n3), bcell (UInt8.ofNat n4)]))
  obtain ⟨v2, h2, e2, m2, k2⟩ := hm.app (nb := crc4 x) (k1.push _) (by simp [crc4]; omega)
  rw [← g1] at s1
  rw [← g2] at s2
  rw [← g3] at s3
  have hcr : crc4 x = [UInt8.ofNat n1, UInt8.ofNat n2, UInt8.ofNat n3, UInt8.ofNat n4] := by rw [g1, g2, g3, g4]; rfl
  rw [hcr] at e2
  simp only [List.map_cons, List.map_nil, List.length_cons, List.length_nil, Nat.reduceAdd, bcell_ofNat] at e2
  simp only [w32, ← g4]
  rw [← g4] at s1 s2 s3
  simp [hv1.lenA, hv1.read, e1, s1, s2, s3, buildSliceR, reps, t]
  simp [e2]
  exact hq _ _ (by rw [sealS, ← hx]; exact m2) k2

theorem seal42 {h : AHeap} {v : AVal} {bs : List UInt8} (hv : BS (cfgR ro) h v bs) (hn : bs.length ≤ 2 ^ 40) {Q : AVal → AHeap → Prop} (hq : ∀ v' h', BM h h' v' (sealS bs) → Old h h' → Q v' h') : Ev (cfgR ro) 42 [v] h Q := by
  refine Ev.wp rfl rfl Try.func42 rfl ?_
  simp [Try.f42]
  refine sum70 hv hn ?_
  obtain ⟨v1, h1, e1, m1, k1⟩ := (BM.nil (h0 := h) (h := h)).app (nb := bs) (Old.refl h) (by simp; omega)
  obtain ⟨x, hx⟩ : ∃ x, x = crc bs := ⟨_, rfl⟩
  rw [← hx]
  have hlt := x.isLt
  obtain ⟨n1, g1⟩ : ∃ n : Nat, n = x.toNat / 16777216 := ⟨_, rfl⟩
  obtain ⟨n2, g2⟩ : ∃ n : Nat, n = x.toNat / 65536 := ⟨_, rfl⟩
  obtain ⟨n3, g3⟩ : ∃ n : Nat, n = x.toNat / 256 := ⟨_, rfl⟩
  obtain ⟨n4, g4⟩ : ∃ n : Nat, n = x.toNat := ⟨_, rfl⟩
  have s1 : IntKind.u32.wrap ((n4 : Int) / 16777216) = n1 := by rw [wrap32]; omega
  have s2 : IntKind.u32.wrap ((n4 : Int) / 65536) = n2 := by rw [wrap32]; omega
  have s3 : IntKind.u32.wrap ((n4 : Int) / 256) = n3 := by rw [wrap32]; omega
  have t : ∀ n : Nat, IntKind.u8.wrap (n : Int) = (n : Int) % 256 := fun n => wrap8 n
  have t2 : ∀ n : Nat, IntKind.u8.wrap (Int.tmod (n : Int) 256) = (n : Int) % 256 := fun n => by rw [wrap8, Int.tmod_eq_emod_of_nonneg (by omega)]; omega
  have t3 : ∀ n : Nat, IntKind.u8.wrap ((n : Int) % 256) = (n : Int) % 256 := fun n => by rw [wrap8]; omega
  have hm := m1.keep ((Old.refl h1).push (.row 1 false [bcell (UInt8.ofNat n1), bcell (UInt8.ofNat n2), bcell (UInt8.ofNat n3), bcell (UInt8.ofNat n4)]))
  obtain ⟨v2, h2, e2, m2, k2⟩ := hm.app (nb := crc4 x) (k1.push _) (by simp [crc4]; omega)
  have hcr : crc4 x = [UInt8.ofNat n1, UInt8.ofNat n2, UInt8.ofNat n3, UInt8.ofNat n4] := by rw [g1, g2, g3, g4]; rfl
  rw [hcr] at e2
  simp only [List.map_cons, List.map_nil, List.length_cons, List.length_nil, Nat.reduceAdd, bcell_ofNat] at e2
  simp only [w32, ← g4]
  have n1b : (n1 : Int) % 256 = n1 := by omega
  simp [hv.lenA, hv.read, e1, s1, s2, s3, buildSliceR, reps, t, t2, t3]
  simp [e2]
  exact hq _ _ (by rw [sealS, ← hx]; exact m2) k2

theorem bytes33 {hb h : AHeap} {w : Nat} {bs : List UInt8} (hw : WrAt hb h w bs) (hn : bs.length ≤ 2 ^ 40) {Q : AVal → AHeap → Prop} (hq : ∀ v' h', BM h h' v' bs → Old h h' → Q v' h') : Ev (cfgR ro) 33 [.ptr w 0] h Q := by
  obtain ⟨v, hv, hm, hwl, hx⟩ := hw
  refine Ev.wp rfl rfl Try.func33 rfl ?_
  have hL : lenR (cfgR ro) h 24 v = .ok (.int .i64 bs.length) := (hm.toBS (c := cfgR ro)).lenR un24
  have hM : makeSliceR Try.prog h 24 (.int .i64 (bs.length : Int)) (.int .i64 (bs.length : Int)) = .ok (.sl h.next 0 bs.length, h.push (.row 1 false (reps bs.length [.int .u8 0]))) :=
    mkSlice_ok el24 inf24 zc5 (by decide) rfl (Nat.le_refl _) (by omega) (by omega)
  have hbs : BS (cfgR ro) (h.push (.row 1 false (reps bs.length [.int .u8 0]))) v bs := (hm.keep ((Old.refl h).push _)).toBS
  have hget : (h.push (.row 1 false (reps bs.length [.int .u8 0]))).get w = some (.row 0 false [v]) := by rw [AHeap.get_push, if_neg (by omega)]; exact hv
  have hov : overR (reps bs.length [.int .u8 0]) 0 (bs.map bcell) = .ok (bs.map bcell) := by
    unfold overR
    have : (reps bs.length [AVal.int .u8 0]).length = bs.length := by rw [reps_len]; simp
    rw [if_pos (by rw [this]; simp)]
    simp only [List.take_zero, List.nil_append, Nat.zero_add]
    rw [List.drop_of_length_le (by rw [this]; simp), List.append_nil]
  simp [Try.f33, hv, hL, hM, hget, copyR, hbs.lenA, hbs.read, hov]
  refine hq _ _ ?_ ?_
  · refine ⟨bes_one bs, ?_⟩
    by_cases h0 : bs = []
    · right
      exact ⟨h.next, false, by rw [bes_len], Nat.le_refl _, by simp, by rw [AHeap.get_set, bes_flat]; simp⟩
    · right
      exact ⟨h.next, false, by rw [bes_len], Nat.le_refl _, by simp, by rw [AHeap.get_set, bes_flat]; simp⟩
  · exact ((Old.refl h).push _).set (Nat.le_refl _) _

theorem num41 : ∀ (n : Nat), n < 2 ^ 63 → ∀ (h : AHeap) {Q : AVal → AHeap → Prop}, (∀ v' h', BM h h' v' (numS n) → Old h h' → Q v' h') → Ev (cfgR ro) 41 [.int .u64 n] h Q := by
  intro n
  induction n using Nat.strongRecOn with
  | _ n ih =>
    intro hn h Q hq
    refine Ev.wp rfl rfl Try.func41 rfl ?_
    have e0 : IntKind.u64.wrap (n : Int) = n := by rw [wrap64]; omega
    have e1 : Int.tmod (n : Int) 9223372036854775808 = n := by rw [Int.tmod_eq_emod_of_nonneg (by omega)]; omega
    have e2 : (n : Int) % 9223372036854775808 = n := by omega
    have e3 : IntKind.u64.wrap (n : Int) = n := e0
    simp [Try.f41, e1, e2]
    refine orD (fun h1 => ?_) (fun h1 => ?_)
    · have h1 : n < 128 := by omega
      have e4 : IntKind.u8.wrap (n : Int) = n := by rw [wrap8]; omega
      rw [numS_lo h1] at hq
      simp [buildSliceR, reps, e4]
      refine hq _ _ ⟨bes_one _, .inr ⟨h.next, false, rfl, Nat.le_refl _, by simp, ?_⟩⟩ ((Old.refl h).push _)
      rw [bes_flat]
      simp [bcell_ofNat]
      omega
    · have h1 : ¬ n < 128 := by omega
      rw [numS_hi h1] at hq
      obtain ⟨q, hq1⟩ : ∃ q, q = n / 128 := ⟨_, rfl⟩
      obtain ⟨x, hx⟩ : ∃ x : Int, x = ((n % 128 + 128 : Nat) : Int) := ⟨_, rfl⟩
      have e4 : IntKind.u8.wrap (IntKind.u64.wrap (Int.tmod (n : Int) 128 + 128)) = x := by
        rw [wrap64, wrap8, hx, Int.tmod_eq_emod_of_nonneg (by omega)]; omega
      have e5 : IntKind.u64.wrap ((n : Int) / 128) = (q : Int) := by rw [wrap64, hq1]; omega
      have e6 : IntKind.u8.wrap (IntKind.u64.wrap ((n : Int) % 128 + 128)) = x := by
        rw [wrap64, wrap8, hx]; omega
      simp [buildSliceR, reps, e4, e5, e6]
      refine ih q (by omega) (by omega) _ (fun v1 h1 m1 k1 => ?_)
      have m0 : BM h (h.push (.row 1 false [.int .u8 x])) (.sl h.next 0 1) [UInt8.ofNat (n % 128 + 128)] := by
        refine ⟨bes_one _, .inr ⟨h.next, false, rfl, Nat.le_refl _, by simp, ?_⟩⟩
        have hb : bcell (UInt8.ofNat (n % 128 + 128)) = .int .u8 x := by rw [bcell_ofNat, hx]; congr 1; omega
        rw [get_push_next, bes_flat, List.map_cons, List.map_nil, hb]
      have hlen := numS_len 8 q (by omega)
      have b1 := m1.toBS (c := cfgR ro)
      obtain ⟨v2, h2, g1, m2, k2⟩ := (m0.keep k1).app (nb := numS q) (((Old.refl h).push _).trans k1) (by simp; omega)
      simp [b1.lenA, b1.read, g1]
      exact hq _ _ (by rw [← hq1]; exact m2) k2
end
end Go.Proofs.Ytomhcjiefmaopaa
set_option linter.all false
set_option maxRecDepth 100000
set_option maxHeartbeats 4000000
namespace Go.Proofs.Ytomhcjiefmaopaa
open Go Go.RowKit Go.Proofs

/-- a reader -/
def RdAt (h : AHeap) (r : Nat) (b : List UInt8) (a : Nat) (e : Int) : Prop := h.get r = some (.row 0 false [.str b, .int .i64 a, .int .i64 e]) ∧ r < h.next
/-- what reading leaves -/
def Rst (r : Nat) (h h' : AHeap) : Prop := h'.next = h.next ∧ ∀ o, o ≠ r → h'.get o = h.get o
theorem Rst.refl {r : Nat} {h : AHeap} : Rst r h h := ⟨rfl, fun _ _ => rfl⟩
theorem Rst.trans {r : Nat} {a b c : AHeap} (h : Rst r a b) (k : Rst r b c) : Rst r a c := ⟨k.1.trans h.1, fun o ho => (k.2 o ho).trans (h.2 o ho)⟩
theorem Rst.set {r : Nat} {h : AHeap} {x : AObj} : Rst r h (h.set r x) := ⟨rfl, fun o ho => by rw [AHeap.get_set, if_neg (by omega)]⟩
theorem RdAt.mk {h : AHeap} {r : Nat} {b : List UInt8} {a : Nat} {e : Int} (hr : r < h.next) : RdAt (h.set r (.row 0 false [.str b, .int .i64 a, .int .i64 e])) r b a e := ⟨by rw [AHeap.get_set]; simp, hr⟩

section
variable {ro : Nat → Option (List AVal)}

theorem left68 {h : AHeap} {r : Nat} {b : List UInt8} {a : Nat} {e : Int} (hr : RdAt h r b a e) (hl : b.length ≤ 2 ^ 40) (ha : a ≤ b.length) {Q : AVal → AHeap → Prop} (hq : Q (.int .i64 ((b.length - a : Nat) : Int)) h) : Ev (cfgR ro) 68 [.ptr r 0] h Q := by
  refine Ev.wp rfl rfl Try.func68 rfl ?_
  have e1 : IntKind.i64.wrap ((b.length : Int) - a) = ((b.length - a : Nat) : Int) := by rw [w64 (by omega) (by omega)]; omega
  obtain ⟨x, hx⟩ : ∃ x : Int, x = ((b.length - a : Nat) : Int) := ⟨_, rfl⟩
  rw [← hx] at e1 hq
  simp [Try.f68, hr.1, e1]
  exact hq

theorem fail69 {h : AHeap} {r : Nat} {b : List UInt8} {a : Nat} {e x : Int} (hr : RdAt h r b a e) {Q : AVal → AHeap → Prop} (hq : ∀ h', RdAt h' r b a (if e = 0 then x else e) → Rst r h h' → Q (.int .u64 0) h') : Ev (cfgR ro) 69 [.ptr r 0, .int .i64 x] h Q := by
  refine Ev.wp rfl rfl Try.func69 rfl ?_
  simp [Try.f69, hr.1]
  refine orD (fun h1 => ?_) (fun h1 => ?_)
  · subst h1
    simp [hr.1]
    exact hq _ (.mk hr.2) .set
  · simp
    exact hq _ (by rw [if_neg h1]; exact hr) .refl

theorem err38 {h : AHeap} {r : Nat} {b : List UInt8} {a : Nat} {e : Int} (hr : RdAt h r b a e) {Q : AVal → AHeap → Prop} (hq : Q (.int .i64 e) h) : Ev (cfgR ro) 38 [.ptr r 0] h Q := by
  refine Ev.wp rfl rfl Try.func38 rfl ?_
  simp [Try.f38, hr.1]
  exact hq

theorem done39 {h : AHeap} {r : Nat} {b : List UInt8} {a : Nat} {e : Int} (hr : RdAt h r b a e) (hl : b.length ≤ 2 ^ 40) (ha : a ≤ b.length) {Q : AVal → AHeap → Prop} (hq : Q (.int .i64 (if e = 0 ∧ a < b.length then 15 else e)) h) : Ev (cfgR ro) 39 [.ptr r 0] h Q := by
  refine Ev.wp rfl rfl Try.func39 rfl ?_
  simp [Try.f39, hr.1]
  refine orD (fun h1 => ?_) (fun h1 => ?_)
  · subst h1
    simp
    refine left68 hr hl ha ?_
    simp [hr.1]
    obtain ⟨x, hx⟩ : ∃ x, x = b.length - a := ⟨_, rfl⟩
    refine orD (fun h2 => ?_) (fun h2 => ?_)
    · simp
      rw [if_pos ⟨rfl, by omega⟩] at hq; exact hq
    · simp [hr.1]
      rw [if_neg (by omega)] at hq; exact hq
  · simp [hr.1, h1]
    rw [if_neg (by omega)] at hq; exact hq

theorem from35 {h : AHeap} {v : AVal} {bs : List UInt8} (hv : BS (cfgR ro) h v bs) {Q : AVal → AHeap → Prop} (hq : ∀ h' r, r = h.next → RdAt h' r bs 0 0 → Old h h' → h'.next = h.next + 1 → Q (.ptr r 0) h') : Ev (cfgR ro) 35 [v] h Q := by
  refine Ev.wp rfl rfl Try.func35 rfl ?_
  have hc : convR (cfgR ro) h 24 9 v = .ok (.str bs) := hv.conv un24 un9 un5
  simp [Try.f35, -convR, hc]
  exact hq _ _ rfl ⟨by simp, by simp⟩ ((Old.refl h).push _) (by simp)

theorem byte36 {h : AHeap} {r : Nat} {b : List UInt8} {a : Nat} {e : Int} (hr : RdAt h r b a e) (hl : b.length ≤ 2 ^ 40) (ha : a ≤ b.length) {Q : AVal → AHeap → Prop}
    (hq1 : e = 0 → ∀ (hlt : a < b.length) h', RdAt h' r b (a + 1) 0 → Rst r h h' → Q (.int .u8 b[a].toNat) h') (hq2 : e = 0 → ¬ a < b.length → ∀ h', RdAt h' r b a 14 → Rst r h h' → Q (.int .u8 0) h') (hq3 : e ≠ 0 → Q (.int .u8 0) h) :
    Ev (cfgR ro) 36 [.ptr r 0] h Q := by
  refine Ev.wp rfl rfl Try.func36 rfl ?_
  simp [Try.f36, hr.1]
  refine orD (fun h1 => ?_) (fun h1 => ?_)
  · subst h1
    simp
    refine left68 hr hl ha ?_
    simp
    refine orD (fun h2 => ?_) (fun h2 => ?_)
    · simp
      refine fail69 hr (fun h' hr' hs' => ?_)
      simp
      exact hq2 rfl (by omega) _ hr' hs'
    · have hlt : a < b.length := by omega
      have e1 : IntKind.i64.wrap ((a : Int) + 1) = ((a + 1 : Nat) : Int) := by rw [w64 (by omega) (by omega)]; omega
      have e2 : IntKind.i64.wrap (((a + 1 : Nat) : Int) - 1) = (a : Int) := by rw [w64 (by omega) (by omega)]; omega
      obtain ⟨x, hx⟩ : ∃ x : Int, x = ((a + 1 : Nat) : Int) := ⟨_, rfl⟩
      rw [← hx] at e1 e2
      simp [hr.1, e1, e2, ix_nat hlt, List.getElem?_eq_getElem hlt]
      exact hq1 rfl hlt _ ⟨by rw [AHeap.get_set]; simp [hx], hr.2⟩ .set
  · simp [h1]
    exact hq3 h1

theorem wpow {k : Nat} (hk : k < 9) {n c : Nat} (hn : n < 128 ^ k) (hc : c < 128) : ior .u64 (n : Int) (ishl .u64 (c : Int) ((7 * k : Nat) : Int)) = ((n + c * 128 ^ k : Nat) : Int) ∧ n + c * 128 ^ k < 128 ^ (k + 1) := by
  have h1 : (128 : Nat) ^ k = 2 ^ (7 * k) := by rw [Nat.pow_mul]
  have h4 : n + c * 128 ^ k < 128 ^ (k + 1) := by
    rw [Nat.pow_succ]
    have : c * 128 ^ k ≤ 127 * 128 ^ k := Nat.mul_le_mul_right _ (by omega)
    omega
  have h5 : (128 : Nat) ^ (k + 1) ≤ 128 ^ 9 := Nat.pow_le_pow_right (by decide) (by omega)
  have h6 : (128 : Nat) ^ 9 = 2 ^ 63 := by decide
  refine ⟨?_, h4⟩
  have h2 : ishl .u64 (c : Int) ((7 * k : Nat) : Int) = ((c * 2 ^ (7 * k) : Nat) : Int) := by
    unfold ishl
    show IntKind.u64.wrap ((c : Int) * 2 ^ (min ((7 * k : Nat) : Int).toNat 64)) = _
    have hm : min ((7 * k : Nat) : Int).toNat 64 = 7 * k := by simp; omega
    rw [hm, wrap64]
    rw [h1] at h4
    have : ((c * 2 ^ (7 * k) : Nat) : Int) = (c : Int) * 2 ^ (7 * k) := by simp
    rw [← this]; omega
  rw [h2]
  unfold ior
  show IntKind.u64.wrap ((BitVec.ofInt 64 (n : Int) ||| BitVec.ofInt 64 ((c * 2 ^ (7 * k) : Nat) : Int)).toNat : Int) = _
  have t : ∀ m : Nat, m < 2 ^ 63 → (BitVec.ofInt 64 (m : Int)).toNat = m := fun m hm => by simp; omega
  rw [h1] at hn h4 ⊢
  rw [BitVec.toNat_or, t _ (by omega), t _ (by omega), Nat.or_comm, Nat.mul_comm c, ← Nat.two_pow_add_eq_or_of_lt hn, wrap64]
  rw [Nat.mul_comm c] at h4
  generalize 2 ^ (7 * k) * c = X at h4 ⊢
  omega

theorem num37 {h : AHeap} {r : Nat} {b : List UInt8} {a limit : Nat} {e : Int} (hr : RdAt h r b a e) (hl : b.length ≤ 2 ^ 40) (ha : a ≤ b.length) (hlim : limit < 2 ^ 63) {Q : AVal → AHeap → Prop}
    (hq1 : e = 0 → ∀ v p x h', rdNum b a limit = (v, p, x) → RdAt h' r b p x → Rst r h h' → Q (.int .u64 v) h') (hq3 : e ≠ 0 → Q (.int .u64 0) h) :
    Ev (cfgR ro) 37 [.ptr r 0, .int .u64 limit] h Q := by
  refine Ev.wp rfl rfl Try.func37 rfl ?_
  simp [Try.f37, hr.1]
  refine orD (fun h1 => ?_) (fun h1 => ?_)
  · subst h1
    simp
    obtain ⟨I, hI⟩ : ∃ I : Nat → List AVal → AHeap → Prop, I = fun m env h' => ∃ (k n : Nat) (z z6 z12 : AVal), k + m = 10 ∧ k ≤ 9 ∧ n < 128 ^ k ∧ h' = h ∧ rdGo b a limit (9 - k) k n = rdNum b a limit ∧ env = (.ptr r 0 :: .int .u64 limit :: .dead :: .dead :: .dead :: .int .u64 n :: z6 :: .int .i64 k :: .dead :: .dead :: .dead :: .dead :: z12 :: .dead :: .dead :: .dead :: .dead :: .dead :: .dead :: .dead :: .dead :: .dead :: .dead :: .dead :: .dead :: .dead :: .dead :: .dead :: .dead :: .dead :: .dead :: .dead :: .dead :: .dead :: .dead :: .dead :: .dead :: .dead :: .dead :: .dead :: .dead :: .dead :: .dead :: .dead :: .dead :: .dead :: z :: .dead :: .dead :: .dead :: .dead :: .dead :: .dead :: .dead :: .dead :: .dead :: .dead :: .dead :: .dead :: .dead :: .dead :: .dead :: .dead :: .dead :: .dead :: .dead :: .dead :: .dead :: .dead :: .dead :: .dead :: []) := ⟨_, rfl⟩
    refine label_loop I (fun _ _ => rfl) rfl ?_ 10 (by rw [hI]; exact ⟨0, 0, _, _, _, rfl, by decide, by decide, rfl, rfl, rfl⟩)
    rintro m env h' hrec hi
    rw [hI] at hi
    obtain ⟨k, n, z, z6, z12, hkm, hk, hn, rfl, hgo, rfl⟩ := hi
    have hq1 := hq1 rfl
    simp
    refine orD (fun h2 => ?_) (fun h2 => ?_)
    · have h2 : k = 9 := by omega
      subst h2
      simp
      refine fail69 hr (fun h2 hr2 hs2 => ?_)
      simp
      exact hq1 0 a 11 h2 hgo.symm hr2 hs2
    · simp
      refine left68 hr hl ha ?_
      simp
      rw [show 9 - k = (9 - (k + 1)) + 1 by omega, rdGo] at hgo
      refine orD (fun h3 => ?_) (fun h3 => ?_)
      · simp
        rw [List.getElem?_eq_none (by omega)] at hgo
        refine fail69 hr (fun h2 hr2 hs2 => ?_)
        simp
        exact hq1 0 a 14 h2 hgo.symm hr2 hs2
      · have hak : a + k < b.length := by omega
        rw [List.getElem?_eq_getElem hak] at hgo
        simp only at hgo
        obtain ⟨d, hd⟩ : ∃ d, d = b[a + k].toNat := ⟨_, rfl⟩
        have hd256 : d < 256 := by rw [hd]; exact b[a + k].toNat_lt
        have e1 : IntKind.i64.wrap ((a : Int) + k) = ((a + k : Nat) : Int) := by rw [w64 (by omega) (by omega)]; omega
        obtain ⟨ak, hak'⟩ : ∃ ak, ak = a + k := ⟨_, rfl⟩
        have hix : idxNat (.int .i64 ((a + k : Nat) : Int)) b.length = .ok (a + k) := ix_nat hak
        have hbe : b[a + k]? = some b[a + k] := List.getElem?_eq_getElem hak
        obtain ⟨p1, p2⟩ := wpow (k := k) (by omega) hn (show d % 128 < 128 from Nat.mod_lt _ (by decide))
        have e2 : iand .u8 (d : Int) 127 = ((d % 128 : Nat) : Int) := and127 d hd256
        have e3 : IntKind.u64.wrap ((d % 128 : Nat) : Int) = ((d % 128 : Nat) : Int) := by rw [wrap64]; omega
        have e4 : IntKind.i64.wrap (7 * (k : Int)) = ((7 * k : Nat) : Int) := by rw [w64 (by omega) (by omega)]; omega
        have e5 : IntKind.i64.wrap ((k : Int) + 1) = ((k + 1 : Nat) : Int) := by rw [w64 (by omega) (by omega)]; omega
        obtain ⟨q1, hq1'⟩ : ∃ x : Int, x = ((a + k : Nat) : Int) := ⟨_, rfl⟩
        obtain ⟨q2, hq2'⟩ : ∃ x : Int, x = ((d % 128 : Nat) : Int) := ⟨_, rfl⟩
        obtain ⟨q3, hq3'⟩ : ∃ x : Int, x = ((7 * k : Nat) : Int) := ⟨_, rfl⟩
        obtain ⟨q4, hq4'⟩ : ∃ x : Int, x = ((k + 1 : Nat) : Int) := ⟨_, rfl⟩
        obtain ⟨n', hn'⟩ : ∃ x : Nat, x = n + d % 128 * 128 ^ k := ⟨_, rfl⟩
        rw [← hq1'] at e1 hix
        rw [← hq2'] at e2 e3 p1
        rw [← hq3'] at e4 p1
        rw [← hq4'] at e5
        rw [← hn'] at p1 p2
        rw [← hd, ← hn'] at hgo
        have e6 : IntKind.u64.wrap q3 = q3 := by rw [wrap64]; omega
        have hq3n : 0 ≤ q3 := by omega
        have hk1 : 9 - (k + 1) + 1 + k = 9 := by omega
        simp [hr.1, e1, hix, hbe, ← hd, e2, e3, e4, e5, e6, p1, hq3n]
        refine orD (fun h4 => ?_) (fun h4 => ?_)
        · rw [if_neg (by omega)] at hgo
          simp
          exact hrec (m - 1) (by omega) _ _ (by rw [hI]; exact ⟨k + 1, n', _, _, _, by omega, by omega, p2, rfl, hgo, by rw [hq4']⟩)
        · rw [if_pos (by omega)] at hgo
          simp
          refine orD (fun h5 => ?_) (fun h5 => ?_)
          · simp [h5]
            refine orD (fun h6 => ?_) (fun h6 => ?_)
            · simp
              rw [if_pos ⟨by omega, by omega⟩] at hgo
              refine fail69 hr (fun h2 hr2 hs2 => ?_)
              simp
              exact hq1 0 a 11 h2 hgo.symm hr2 hs2
            · rw [if_neg (by omega)] at hgo
              simp
              refine orD (fun h7 => ?_) (fun h7 => ?_)
              · simp
                rw [if_pos (by omega)] at hgo
                refine fail69 hr (fun h2 hr2 hs2 => ?_)
                simp
                exact hq1 0 a 10 h2 hgo.symm hr2 hs2
              · rw [if_neg (by omega)] at hgo
                have e7 : IntKind.i64.wrap ((a : Int) + q4) = ((a + k + 1 : Nat) : Int) := by rw [w64 (by omega) (by omega)]; omega
                obtain ⟨q5, hq5'⟩ : ∃ x : Int, x = ((a + k + 1 : Nat) : Int) := ⟨_, rfl⟩
                rw [← hq5'] at e7
                simp [hr.1, e7]
                exact hq1 n' (a + k + 1) 0 _ hgo.symm ⟨by rw [get_set_self, hq5']; rfl, hr.2⟩ .set
          · rw [if_neg (by omega)] at hgo
            simp [h5]
            refine orD (fun h7 => ?_) (fun h7 => ?_)
            · simp
              rw [if_pos (by omega)] at hgo
              refine fail69 hr (fun h2 hr2 hs2 => ?_)
              simp
              exact hq1 0 a 10 h2 hgo.symm hr2 hs2
            · rw [if_neg (by omega)] at hgo
              have e7 : IntKind.i64.wrap ((a : Int) + q4) = ((a + k + 1 : Nat) : Int) := by rw [w64 (by omega) (by omega)]; omega
              obtain ⟨q5, hq5'⟩ : ∃ x : Int, x = ((a + k + 1 : Nat) : Int) := ⟨_, rfl⟩
              rw [← hq5'] at e7
              simp [hr.1, e7]
              exact hq1 n' (a + k + 1) 0 _ hgo.symm ⟨by rw [get_set_self, hq5']; rfl, hr.2⟩ .set
  · simp [h1]
    exact hq3 h1
end
end Go.Proofs.Ytomhcjiefmaopaa
set_option linter.all false
set_option maxRecDepth 100000
set_option maxHeartbeats 4000000
namespace Go.Proofs.Ytomhcjiefmaopaa
open Go Go.RowKit Go.Proofs

def wordT (a b c d : UInt8) : BitVec 32 := (((BitVec.ofNat 32 a.toNat <<< 24) ||| (BitVec.ofNat 32 b.toNat <<< 16)) ||| (BitVec.ofNat 32 c.toNat <<< 8)) ||| BitVec.ofNat 32 d.toNat
theorem wordT_nat (a b c d : UInt8) : (wordT a b c d).toNat = a.toNat * 16777216 + b.toNat * 65536 + c.toNat * 256 + d.toNat := by
  have ha := a.toNat_lt
  have hb := b.toNat_lt
  have hc := c.toNat_lt
  have hd := d.toNat_lt
  have h1 : ∀ (x n : Nat), x < 256 → n ≤ 24 → (BitVec.ofNat 32 x <<< n).toNat = x * 2 ^ n := by
    intro x n hx hn
    rw [BitVec.toNat_shiftLeft, Nat.shiftLeft_eq, BitVec.toNat_ofNat, Nat.mod_eq_of_lt (show x < 2 ^ 32 by omega)]
    apply Nat.mod_eq_of_lt
    have h2 : 2 ^ n ≤ 2 ^ 24 := Nat.pow_le_pow_right (by decide) hn
    have h3 : x * 2 ^ n ≤ 255 * 2 ^ 24 := Nat.mul_le_mul (by omega) h2
    omega
  unfold wordT
  rw [BitVec.toNat_or, BitVec.toNat_or, BitVec.toNat_or, h1 _ 24 ha (by decide), h1 _ 16 hb (by decide), h1 _ 8 hc (by decide), BitVec.toNat_ofNat, Nat.mod_eq_of_lt (show d.toNat < 2 ^ 32 by omega)]
  have e1 : a.toNat * 2 ^ 24 ||| b.toNat * 2 ^ 16 = 2 ^ 16 * (a.toNat * 256 + b.toNat) := by
    rw [Nat.mul_comm a.toNat, ← Nat.two_pow_add_eq_or_of_lt (i := 24) (by omega)]; omega
  have e2 : 2 ^ 16 * (a.toNat * 256 + b.toNat) ||| c.toNat * 2 ^ 8 = 2 ^ 8 * ((a.toNat * 256 + b.toNat) * 256 + c.toNat) := by
    rw [← Nat.two_pow_add_eq_or_of_lt (i := 16) (by omega)]; omega
  have e3 : 2 ^ 8 * ((a.toNat * 256 + b.toNat) * 256 + c.toNat) ||| d.toNat = a.toNat * 16777216 + b.toNat * 65536 + c.toNat * 256 + d.toNat := by
    rw [← Nat.two_pow_add_eq_or_of_lt (i := 8) (by omega)]; omega
  rw [e1, e2, e3]

theorem word_iff (a b c d : UInt8) (x : BitVec 32) : wordT a b c d = x ↔ [a, b, c, d] = crc4 x := by
  have ha := a.toNat_lt
  have hb := b.toNat_lt
  have hc := c.toNat_lt
  have hd := d.toNat_lt
  have hx := x.isLt
  have hw := wordT_nat a b c d
  constructor
  · rintro rfl
    unfold crc4
    rw [hw]
    simp only [List.cons.injEq, and_true]
    refine ⟨?_, ?_, ?_, ?_⟩ <;> (apply UInt8.toNat_inj.1; rw [UInt8.toNat_ofNat']; omega)
  · intro h
    unfold crc4 at h
    simp only [List.cons.injEq, and_true] at h
    obtain ⟨h1, h2, h3, h4⟩ := h
    have g1 := congrArg UInt8.toNat h1
    have g2 := congrArg UInt8.toNat h2
    have g3 := congrArg UInt8.toNat h3
    have g4 := congrArg UInt8.toNat h4
    rw [UInt8.toNat_ofNat'] at g1 g2 g3 g4
    apply BitVec.eq_of_toNat_eq
    rw [hw]
    omega

/-- what was sealed -/
def openS (bs : List UInt8) : Option (List UInt8) := if bs.length < 4 then none else if bs = sealS (bs.take (bs.length - 4)) then some (bs.take (bs.length - 4)) else none

theorem last4 {bs : List UInt8} {n : Nat} (h : bs.length = n + 4) : bs = bs.take n ++ [bs[n], bs[n+1], bs[n+2], bs[n+3]] := by
  have h1 : bs.drop n = [bs[n], bs[n+1], bs[n+2], bs[n+3]] := by
    rw [List.drop_eq_getElem_cons (by omega), List.drop_eq_getElem_cons (by omega), List.drop_eq_getElem_cons (by omega), List.drop_eq_getElem_cons (by omega), List.drop_of_length_le (by omega)]
  rw [← h1, List.take_append_drop]

section
variable {ro : Nat → Option (List AVal)}
theorem open34 {h : AHeap} {v : AVal} {bs : List UInt8} (hv : BS (cfgR ro) h v bs) (hs : ∀ o f l q, v ≠ .slc o f l q) (hn : bs.length ≤ 2 ^ 40) {Q : AVal → AHeap → Prop}
    (hq1 : ∀ cs v' h', openS bs = some cs → BM h h' v' cs → Old h h' → Q (.tuple [v', .bool true]) h') (hq2 : ∀ h', openS bs = none → Old h h' → Q (.tuple [.nils, .bool false]) h') : Ev (cfgR ro) 34 [v] h Q := by
  refine Ev.wp rfl rfl Try.func34 rfl ?_
  have hL : lenR (cfgR ro) h 24 v = .ok (.int .i64 bs.length) := hv.lenR un24
  simp [Try.f34, hL]
  refine orD (fun h1 => ?_) (fun h1 => ?_)
  · simp
    exact hq2 _ (by rw [openS, if_pos (by omega)]) (Old.refl h)
  obtain ⟨n, hn4⟩ : ∃ n, bs.length = n + 4 := ⟨bs.length - 4, by omega⟩
  have hX : ∀ i, i < bs.length → indexAddrR Try.prog 24 v (.int .i64 (i : Int)) = .ok (elp v 1 i) := fun i hi => hv.idx un24 sz5 hi
  have hA : ∀ i (hi : i < bs.length), loadR (cfgR ro) h 5 (elp v 1 i) = .ok (.int .u8 bs[i].toNat) := fun i hi => hv.load hi ag5
  have e0 : IntKind.i64.wrap ((bs.length : Int) - 4) = (n : Int) := by rw [w64 (by omega) (by omega)]; omega
  have e1 : IntKind.i64.wrap ((n : Int) + 1) = ((n + 1 : Nat) : Int) := by rw [w64 (by omega) (by omega)]; omega
  have e2 : IntKind.i64.wrap ((n : Int) + 2) = ((n + 2 : Nat) : Int) := by rw [w64 (by omega) (by omega)]; omega
  have e3 : IntKind.i64.wrap ((n : Int) + 3) = ((n + 3 : Nat) : Int) := by rw [w64 (by omega) (by omega)]; omega
  have x0 := hX n (by omega)
  have x1 := hX (n + 1) (by omega)
  have x2 := hX (n + 2) (by omega)
  have x3 := hX (n + 3) (by omega)
  obtain ⟨a, ha⟩ : ∃ a, a = bs[n] := ⟨_, rfl⟩
  obtain ⟨b, hb⟩ : ∃ a, a = bs[n + 1] := ⟨_, rfl⟩
  obtain ⟨c, hc⟩ : ∃ a, a = bs[n + 2] := ⟨_, rfl⟩
  obtain ⟨d, hd⟩ : ∃ a, a = bs[n + 3] := ⟨_, rfl⟩
  have a0 : loadR (cfgR ro) h 5 (elp v 1 n) = .ok (.int .u8 a.toNat) := by rw [ha]; exact hA n (by omega)
  have a1 : loadR (cfgR ro) h 5 (elp v 1 (n + 1)) = .ok (.int .u8 b.toNat) := by rw [hb]; exact hA (n + 1) (by omega)
  have a2 : loadR (cfgR ro) h 5 (elp v 1 (n + 2)) = .ok (.int .u8 c.toNat) := by rw [hc]; exact hA (n + 2) (by omega)
  have a3 : loadR (cfgR ro) h 5 (elp v 1 (n + 3)) = .ok (.int .u8 d.toNat) := by rw [hd]; exact hA (n + 3) (by omega)
  obtain ⟨i1, hi1⟩ : ∃ x : Int, x = ((n + 1 : Nat) : Int) := ⟨_, rfl⟩
  obtain ⟨i2, hi2⟩ : ∃ x : Int, x = ((n + 2 : Nat) : Int) := ⟨_, rfl⟩
  obtain ⟨i3, hi3⟩ : ∃ x : Int, x = ((n + 3 : Nat) : Int) := ⟨_, rfl⟩
  rw [← hi1] at e1 x1
  rw [← hi2] at e2 x2
  rw [← hi3] at e3 x3
  obtain ⟨A, hA'⟩ : ∃ x, x = BitVec.ofNat 32 a.toNat := ⟨_, rfl⟩
  obtain ⟨B, hB'⟩ : ∃ x, x = BitVec.ofNat 32 b.toNat := ⟨_, rfl⟩
  obtain ⟨C, hC'⟩ : ∃ x, x = BitVec.ofNat 32 c.toNat := ⟨_, rfl⟩
  obtain ⟨D, hD'⟩ : ∃ x, x = BitVec.ofNat 32 d.toNat := ⟨_, rfl⟩
  obtain ⟨A2, hA2⟩ : ∃ x, x = A <<< 24 := ⟨_, rfl⟩
  obtain ⟨B2, hB2⟩ : ∃ x, x = B <<< 16 := ⟨_, rfl⟩
  obtain ⟨C2, hC2⟩ : ∃ x, x = C <<< 8 := ⟨_, rfl⟩
  obtain ⟨X1, hX1⟩ : ∃ x, x = A2 ||| B2 := ⟨_, rfl⟩
  obtain ⟨X2, hX2⟩ : ∃ x, x = X1 ||| C2 := ⟨_, rfl⟩
  obtain ⟨X3, hX3⟩ : ∃ x, x = X2 ||| D := ⟨_, rfl⟩
  have w1 : IntKind.u32.wrap (a.toNat : Int) = (A.toNat : Int) := by rw [hA']; exact byte_w a
  have w2 : IntKind.u32.wrap (b.toNat : Int) = (B.toNat : Int) := by rw [hB']; exact byte_w b
  have w3 : IntKind.u32.wrap (c.toNat : Int) = (C.toNat : Int) := by rw [hC']; exact byte_w c
  have w4 : IntKind.u32.wrap (d.toNat : Int) = (D.toNat : Int) := by rw [hD']; exact byte_w d
  have s1 : ishl .u32 (A.toNat : Int) 24 = (A2.toNat : Int) := by rw [hA2]; exact ishl_w _ 24 (by decide)
  have s2 : ishl .u32 (B.toNat : Int) 16 = (B2.toNat : Int) := by rw [hB2]; exact ishl_w _ 16 (by decide)
  have s3 : ishl .u32 (C.toNat : Int) 8 = (C2.toNat : Int) := by rw [hC2]; exact ishl_w _ 8 (by decide)
  have o1 : ior .u32 (A2.toNat : Int) (B2.toNat : Int) = (X1.toNat : Int) := by rw [hX1]; exact ior_w _ _
  have o2 : ior .u32 (X1.toNat : Int) (C2.toNat : Int) = (X2.toNat : Int) := by rw [hX2]; exact ior_w _ _
  have o3 : ior .u32 (X2.toNat : Int) (D.toNat : Int) = (X3.toNat : Int) := by rw [hX3]; exact ior_w _ _
  have hX : X3 = wordT a b c d := by rw [hX3, hX2, hX1, hA2, hB2, hC2, hA', hB', hC', hD']; rfl
  obtain ⟨v', u1, u2⟩ := hv.upto (n := n) (by omega) hs (k := .i64)
  have hcv : cellsV v' = .ok [v'] := by
    have h1 := u2.lenA
    cases v' <;> simp only [lenA] at h1 <;> first | rfl | (cases h1; done)
  simp [hL, e0, e1, e2, e3, x0, x1, x2, x3, a0, a1, a2, a3, w1, w2, w3, w4, s1, s2, s3, o1, o2, o3, u1, buildSliceR, reps, hcv]
  have k1 : Old h (h.push (.row 1 false [v'])) := (Old.refl h).push _
  refine sum67 (bs := bs.take n) (u2.old k1) (by simp) (by simp; omega) ?_
  have hl4 := last4 hn4
  have hop : openS bs = if X3 = crc (bs.take n) then some (bs.take n) else none := by
    unfold openS
    rw [if_neg (by omega), show bs.length - 4 = n by omega]
    have : bs = sealS (bs.take n) ↔ X3 = crc (bs.take n) := by
      rw [hX, word_iff, sealS, ha, hb, hc, hd]
      constructor
      · intro h
        rw [hl4] at h
        have hx : List.take n (bs.take n ++ [bs[n], bs[n+1], bs[n+2], bs[n+3]]) = bs.take n := by rw [← hl4]
        rw [hx] at h
        exact List.append_cancel_left h
      · intro h
        rw [← h]; exact hl4
    by_cases hx : X3 = crc (bs.take n)
    · rw [if_pos hx, if_pos (this.2 hx)]
    · rw [if_neg hx, if_neg (fun h => hx (this.1 h))]
  simp [w32]
  refine orD (fun h4 => ?_) (fun h4 => ?_)
  · have h4 : X3 = crc (bs.take n) := BitVec.eq_of_toNat_eq (by omega)
    obtain ⟨v3, u4, u3⟩ := (hv.old k1).upto (n := n) (by omega) hs (k := .i64)
    rw [if_pos h4] at hop
    obtain ⟨cs, hcs⟩ : ∃ cs, cs = bs.take n := ⟨_, rfl⟩
    have hcl : cs.length ≤ 2 ^ 40 := by rw [hcs]; simp; omega
    rw [← hcs] at u3 hop
    obtain ⟨v2, h2, g1, m2, k2⟩ := (BM.nil (h0 := h) (h := h.push (.row 1 false [v']))).app (nb := cs) k1 (by simp; omega)
    simp [u4, u3.lenA, u3.read, g1]
    exact hq1 _ _ _ hop m2 k2
  · simp
    rw [if_neg (fun h => h4 (by rw [h]))] at hop
    exact hq2 _ hop k1
end
end Go.Proofs.Ytomhcjiefmaopaa
set_option linter.all false
set_option maxRecDepth 100000
set_option maxHeartbeats 4000000
namespace Go.Proofs.Ytomhcjiefmaopaa
open Go Go.RowKit Go.Proofs

abbrev En := Nat × Nat
def ecells (e : En) : List AVal := [.int .u16 e.1, .int .u32 e.2]
def enOk (e : En) : Prop := e.1 < 65536 ∧ e.2 < 4294967296
def okB (l : List En) (i : Nat) : Bool := decide (1 ≤ (l.getD i (0, 0)).2) && decide ((l.getD i (0, 0)).2 ≤ 268435456) && (decide (i = 0) || decide ((l.getD (i - 1) (0, 0)).1 < (l.getD i (0, 0)).1))
def rightB (l : List En) : Bool := (List.range l.length).all (okB l)
theorem right_false {l : List En} {i : Nat} (hi : i < l.length) (h : okB l i = false) : rightB l = false := by
  unfold rightB; rw [List.all_eq_false]; exact ⟨i, List.mem_range.2 hi, by simp [h]⟩
theorem right_true {l : List En} {i : Nat} (hi : l.length ≤ i) (h : ∀ j, j < i → j < l.length → okB l j = true) : rightB l = true := by
  unfold rightB; rw [List.all_eq_true]; intro j hj; have := List.mem_range.1 hj; exact h j (by omega) this

def Ens (c : Cfg) (h : AHeap) (v : AVal) (l : List En) : Prop := Sl c h 2 v (l.map ecells)
theorem Ens.at {l : List En} {i : Nat} (hi : i < l.length) : (l.map ecells)[i]? = some (ecells (l.getD i (0, 0))) := by simp [hi]

section
variable {ro : Nat → Option (List AVal)}

theorem readnum43 {h : AHeap} {v : AVal} {b : List UInt8} {a limit : Nat} (hv : BS (cfgR ro) h v b) (hl : b.length ≤ 2 ^ 40) (ha : a ≤ 2 ^ 40) (hlim : limit < 2 ^ 63) {Q : AVal → AHeap → Prop}
    (hq : ∀ w p x : Nat, rdNum b a limit = (w, p, x) → Q (.tuple [.int .u64 w, .int .i64 p, .int .i64 x]) h) : Ev (cfgR ro) 43 [v, .int .i64 a, .int .u64 limit] h Q := by
  refine Ev.wp rfl rfl Try.func43 rfl ?_
  have hL : lenR (cfgR ro) h 24 v = .ok (.int .i64 b.length) := hv.lenR un24
  have hX : ∀ i, i < b.length → indexAddrR Try.prog 24 v (.int .i64 (i : Int)) = .ok (elp v 1 i) := fun i hi => hv.idx un24 sz5 hi
  have hA : ∀ i (hi : i < b.length), loadR (cfgR ro) h 5 (elp v 1 i) = .ok (.int .u8 b[i].toNat) := fun i hi => hv.load hi ag5
  simp [Try.f43]
  obtain ⟨I, hI⟩ : ∃ I : Nat → List AVal → AHeap → Prop, I = fun m env h' => ∃ (k n u : Nat) (z : AVal), k + m = 9 ∧ n < 128 ^ k ∧ u = 128 ^ k ∧ h' = h ∧ rdGo b a limit (9 - k) k n = rdNum b a limit ∧ env = (v :: .int .i64 a :: .int .u64 limit :: .dead :: .dead :: .dead :: .dead :: .dead :: .dead :: .int .u64 n :: .int .u64 u :: .int .i64 k :: .dead :: .dead :: .dead :: .dead :: .dead :: .dead :: .dead :: .dead :: .dead :: .dead :: .dead :: .dead :: .dead :: .dead :: .dead :: .dead :: .dead :: .dead :: .dead :: .dead :: .dead :: .dead :: .dead :: .dead :: .dead :: .dead :: .dead :: .dead :: .dead :: .dead :: .dead :: .dead :: .dead :: .dead :: .dead :: .dead :: .dead :: .dead :: .dead :: .dead :: .dead :: .dead :: .dead :: .dead :: .dead :: .dead :: []) := ⟨_, rfl⟩
  refine loop_of I ?_ 9 (by rw [hI]; exact ⟨0, 0, 1, .dead, rfl, by decide, rfl, rfl, rfl, rfl⟩)
  rintro m env h' hi
  rw [hI] at hi
  obtain ⟨k, n, u, z, hkm, hn, hu, rfl, hgo, rfl⟩ := hi
  simp
  refine orD (fun h1 => ?_) (fun h1 => ?_)
  · rw [show 9 - k = (9 - (k + 1)) + 1 by omega, rdGo] at hgo
    have e1 : IntKind.i64.wrap ((a : Int) + k) = ((a + k : Nat) : Int) := by rw [w64 (by omega) (by omega)]; omega
    obtain ⟨ak, hak'⟩ : ∃ x : Int, x = ((a + k : Nat) : Int) := ⟨_, rfl⟩
    rw [← hak'] at e1
    simp [e1, hL]
    refine orD (fun h2 => ?_) (fun h2 => ?_)
    · rw [List.getElem?_eq_none (by omega)] at hgo
      simp
      exact hq 0 a 14 hgo.symm
    · have hak : a + k < b.length := by omega
      rw [List.getElem?_eq_getElem hak] at hgo
      simp only at hgo
      obtain ⟨d, hd⟩ : ∃ d, d = b[a + k].toNat := ⟨_, rfl⟩
      have hd256 : d < 256 := by rw [hd]; exact b[a + k].toNat_lt
      have hx := hX (a + k) hak
      have hy := hA (a + k) hak
      rw [← hd] at hy hgo
      rw [← hak'] at hx
      obtain ⟨p1, p2⟩ := wpow (k := k) (by omega) hn (show d % 128 < 128 from Nat.mod_lt _ (by decide))
      have h5 : (128 : Nat) ^ (k + 1) ≤ 128 ^ 9 := Nat.pow_le_pow_right (by decide) (by omega)
      have h6 : (128 : Nat) ^ 9 = 2 ^ 63 := by decide
      obtain ⟨n', hn'⟩ : ∃ x : Nat, x = n + d % 128 * 128 ^ k := ⟨_, rfl⟩
      rw [← hn'] at hgo p2
      have hu2 : u * 128 = 128 ^ (k + 1) := by rw [hu, Nat.pow_succ]
      have f0 : d % 128 * u < 2 ^ 63 := by rw [hu]; omega
      obtain ⟨mu, hmu⟩ : ∃ x : Nat, x = d % 128 * u := ⟨_, rfl⟩
      have f1 : IntKind.u64.wrap ((d : Int) % 128) = ((d % 128 : Nat) : Int) := by rw [wrap64]; omega
      obtain ⟨dm, hdm⟩ : ∃ x : Nat, x = d % 128 := ⟨_, rfl⟩
      have f2 : IntKind.u64.wrap ((dm : Int) * (u : Int)) = (mu : Int) := by
        have : ((dm : Int) * (u : Int)) = ((d % 128 * u : Nat) : Int) := by rw [hdm]; simp
        rw [this, ← hmu, wrap64]; omega
      have f3 : IntKind.u64.wrap ((n : Int) + (mu : Int)) = (n' : Int) := by rw [wrap64, hn', hmu, hu] ; rw [hmu, hu] at *; omega
      have f4 : IntKind.u64.wrap ((u : Int) * 128) = ((u * 128 : Nat) : Int) := by rw [wrap64]; omega
      have f5 : IntKind.i64.wrap ((k : Int) + 1) = ((k + 1 : Nat) : Int) := by rw [w64 (by omega) (by omega)]; omega
      have f6 : Int.tmod (d : Int) 128 = ((d % 128 : Nat) : Int) := by rw [Int.tmod_eq_emod_of_nonneg (by omega)]; omega
      have f7 : IntKind.u64.wrap (dm : Int) = (dm : Int) := by rw [wrap64]; omega
      rw [← hdm] at f1 f6
      obtain ⟨u2, hu2'⟩ : ∃ x : Nat, x = u * 128 := ⟨_, rfl⟩
      rw [← hu2'] at f4
      obtain ⟨k1, hk1⟩ : ∃ x : Int, x = ((k + 1 : Nat) : Int) := ⟨_, rfl⟩
      rw [← hk1] at f5
      simp [e1, hx, hy, f1, f2, f3, f4, f6, f7]
      refine orD (fun h4 => ?_) (fun h4 => ?_)
      · rw [if_pos (by omega)] at hgo
        simp
        have fin : ¬ (d = 0 ∧ 0 < k) → wp (cfgR ro) 43 .skip (fun _ _ => True) noE (fun _ _ => True) noE [] h' := fun _ => trivial
        refine orD (fun h6 => ?_) (fun h6 => ?_)
        · simp [h6]
          refine orD (fun h7 => ?_) (fun h7 => ?_)
          · rw [if_pos ⟨by omega, by omega⟩] at hgo
            simp
            exact hq 0 a 11 hgo.symm
          · rw [if_neg (by omega)] at hgo
            simp
            refine orD (fun h8 => ?_) (fun h8 => ?_)
            · rw [if_pos (by omega)] at hgo
              simp
              exact hq 0 a 10 hgo.symm
            · rw [if_neg (by omega)] at hgo
              have g1 : IntKind.i64.wrap (ak + 1) = ((a + k + 1 : Nat) : Int) := by rw [w64 (by omega) (by omega)]; omega
              simp [e1, g1]
              exact hq n' (a + k + 1) 0 hgo.symm
        · rw [if_neg (by omega)] at hgo
          simp [h6]
          refine orD (fun h8 => ?_) (fun h8 => ?_)
          · rw [if_pos (by omega)] at hgo
            simp
            exact hq 0 a 10 hgo.symm
          · rw [if_neg (by omega)] at hgo
            have g1 : IntKind.i64.wrap (ak + 1) = ((a + k + 1 : Nat) : Int) := by rw [w64 (by omega) (by omega)]; omega
            simp [e1, g1]
            exact hq n' (a + k + 1) 0 hgo.symm
      · rw [if_neg (by omega)] at hgo
        simp [f5]
        exact .mk (m := m - 1) (by omega) (by rw [hI]; exact ⟨k + 1, n', u2, .dead, by omega, p2, by rw [hu2', hu2], rfl, hgo, by rw [hk1]⟩)
  · have hk : k = 9 := by omega
    subst hk
    simp
    exact hq 0 a 11 hgo.symm
end
end Go.Proofs.Ytomhcjiefmaopaa
