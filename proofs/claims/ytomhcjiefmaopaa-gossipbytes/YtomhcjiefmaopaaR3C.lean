/-
  A part of the proof of GossipBytes, over the seat Ytomhcjiefmaopaa: for every input the law returns true, and the input reads as it did.
-/
import Derived.Test.YtomhcjiefmaopaaR3B
set_option linter.all false
set_option maxRecDepth 100000
set_option maxHeartbeats 4000000
namespace Go.Proofs.Ytomhcjiefmaopaa
open Go Go.RowKit Go.Proofs

def crc4 (x : BitVec 32) : List UInt8 := [UInt8.ofNat (x.toNat / 16777216), UInt8.ofNat (x.toNat / 65536), UInt8.ofNat (x.toNat / 256), UInt8.ofNat x.toNat]
def sealS (bs : List UInt8) : List UInt8 := bs ++ crc4 (crc bs)
theorem bcell_ofNat (n : Nat) : bcell (UInt8.ofNat n) = .int .u8 ((n : Int) % 256) := by
  unfold bcell; rw [UInt8.toNat_ofNat']; rfl

theorem BM.app {h0 h : AHeap} {v : AVal} {bs nb : List UInt8} (m : BM h0 h v bs) (k : Old h0 h) (hl : bs.length + nb.length ≤ 2 ^ 46) :
    ∃ v' h', appCore 1 1 h v nb.length (nb.map bcell) = .ok (v', h') ∧ BM h0 h' v' (bs ++ nb) ∧ Old h0 h' := by
  have := Mine.append (bytes := 1) (new := bes nb) m (by omega) (bes_one nb) (by rw [bes_len, bes_len]; omega) k
  rw [bes_len, bes_flat, ← bes_append] at this
  exact this
theorem BM.cells {h0 h : AHeap} {v : AVal} {bs : List UInt8} (m : BM h0 h v bs) : cellsV v = .ok [v] := by
  obtain ⟨_, ⟨_, rfl⟩ | ⟨_, _, rfl, _⟩⟩ := m <;> rfl
theorem BM.noSlc {h0 h : AHeap} {v : AVal} {bs : List UInt8} (m : BM h0 h v bs) : ∀ o f l q, v ≠ .slc o f l q := by
  obtain ⟨_, ⟨_, rfl⟩ | ⟨_, _, rfl, _⟩⟩ := m <;> intros <;> simp

theorem mkSlice_ok {P : Program} {h : AHeap} {t e n b : Nat} {k k' : IntKind} {l m : Nat} {z : List AVal} (he : elemSl P t = .ok e) (hi : ∃ i, infoR P e = .ok i ∧ i.size = n ∧ i.bytes = b) (hz : zeroCellsR P e = .ok z) (hn : n ≠ 0) (hzl : z.length = n)
    (hlm : l ≤ m) (hm : m < 2 ^ 62) (hb : b * m ≤ 2 ^ 48) : makeSliceR P h t (.int k l) (.int k' m) = .ok (.sl h.next 0 l, h.push (.row n false (reps m z))) := by
  obtain ⟨i, h1, rfl, rfl⟩ := hi
  unfold makeSliceR
  simp only [he, h1, hz, bind_ok]
  rw [if_pos, if_pos hzl]
  · simp
  · refine ⟨w64 (by omega) (by omega), w64 (by omega) (by omega), by omega, by omega, ?_, hn⟩
    have : ((i.bytes * m : Nat) : Int) ≤ 2 ^ 48 := by omega
    simpa using this
theorem reps_len {n : Nat} {z : List AVal} : (reps n z).length = n * z.length := by
  unfold reps; simp

section
variable {ro : Nat → Option (List AVal)}

theorem seal32 {h : AHeap} {v : AVal} {bs : List UInt8} (hv : BS (cfgR ro) h v bs) (hn : bs.length ≤ 2 ^ 40) {Q : AVal → AHeap → Prop} (hq : ∀ v' h', BM h h' v' (sealS bs) → Old h h' → Q v' h') : Ev (cfgR ro) 32 [v] h Q := by
  refine Ev.wp rfl rfl Try.func32 rfl ?_
  have hc : cellsV v = .ok [v] := by
    have h1 := hv.lenA
    cases v <;> simp only [lenA] at h1 <;> first | rfl | (cases h1; done)
  simp [Try.f32, buildSliceR, reps, hc]
  have o1 : Old h (h.push (.row 1 false [v])) := (Old.refl h).push _
  refine sum67 (hv.old o1) (by simp) hn ?_
  have hv1 := hv.old o1
  obtain ⟨v1, h1, e1, m1, k1⟩ := (BM.nil (h0 := h) (h := h.push (.row 1 false [v]))).app (nb := bs) o1 (by simp; omega)
  obtain ⟨x, hx⟩ : ∃ x, x = crc bs := ⟨_, rfl⟩
  rw [← hx]
  have s1 : ishr .u32 (x.toNat : Int) 24 = ((x.toNat / 16777216 : Nat) : Int) := ishr_w x 24 (by decide)
  have s2 : ishr .u32 (x.toNat : Int) 16 = ((x.toNat / 65536 : Nat) : Int) := ishr_w x 16 (by decide)
  have s3 : ishr .u32 (x.toNat : Int) 8 = ((x.toNat / 256 : Nat) : Int) := ishr_w x 8 (by decide)
  obtain ⟨n1, g1⟩ : ∃ n : Nat, n = x.toNat / 16777216 := ⟨_, rfl⟩
  obtain ⟨n2, g2⟩ : ∃ n : Nat, n = x.toNat / 65536 := ⟨_, rfl⟩
  obtain ⟨n3, g3⟩ : ∃ n : Nat, n = x.toNat / 256 := ⟨_, rfl⟩
  obtain ⟨n4, g4⟩ : ∃ n : Nat, n = x.toNat := ⟨_, rfl⟩
  have t : ∀ n : Nat, IntKind.u8.wrap (n : Int) = (n : Int) % 256 := fun n => wrap8 n
  obtain ⟨a1, d1⟩ : ∃ a : AVal, a = bcell (UInt8.ofNat n1) := ⟨_, rfl⟩
  have hm := m1.keep ((Old.refl h1).push (.row 1 false [bcell (UInt8.ofNat n1), bcell (UInt8.ofNat n2), bcell (UInt8.ofNat n3), bcell (UInt8.ofNat n4)]))
  obtain ⟨v2, h2, e2, m2, k2⟩ := hm.app (nb := crc4 x) (k1.push _) (by simp [crc4]; omega)
  rw [← g1] at s1
  rw [← g2] at s2
  rw [← g3] at s3
  have hcr : crc4 x = [UInt8.ofNat n1, UInt8.ofNat n2, UInt8.ofNat n3, UInt8.ofNat n4] := by rw [g1, g2, g3, g4]; rfl
  rw [hcr] at e2
  simp only [List.map_cons, List.map_nil, List.length_cons, List.length_nil, Nat.reduceAdd, bcell_ofNat] at e2
  simp only [w32, ← g4]
  rw [← g4] at s1 s2 s3
  simp [hv1.lenA, hv1.read, e1, s1, s2, s3, buildSliceR, reps, t]
  simp [e2]
  exact hq _ _ (by rw [sealS, ← hx]; exact m2) k2

theorem seal42 {h : AHeap} {v : AVal} {bs : List UInt8} (hv : BS (cfgR ro) h v bs) (hn : bs.length ≤ 2 ^ 40) {Q : AVal → AHeap → Prop} (hq : ∀ v' h', BM h h' v' (sealS bs) → Old h h' → Q v' h') : Ev (cfgR ro) 42 [v] h Q := by
  refine Ev.wp rfl rfl Try.func42 rfl ?_
  simp [Try.f42]
  refine sum70 hv hn ?_
  obtain ⟨v1, h1, e1, m1, k1⟩ := (BM.nil (h0 := h) (h := h)).app (nb := bs) (Old.refl h) (by simp; omega)
  obtain ⟨x, hx⟩ : ∃ x, x = crc bs := ⟨_, rfl⟩
  rw [← hx]
  have hlt := x.isLt
  obtain ⟨n1, g1⟩ : ∃ n : Nat, n = x.toNat / 16777216 := ⟨_, rfl⟩
  obtain ⟨n2, g2⟩ : ∃ n : Nat, n = x.toNat / 65536 := ⟨_, rfl⟩
  obtain ⟨n3, g3⟩ : ∃ n : Nat, n = x.toNat / 256 := ⟨_, rfl⟩
  obtain ⟨n4, g4⟩ : ∃ n : Nat, n = x.toNat := ⟨_, rfl⟩
  have s1 : IntKind.u32.wrap ((n4 : Int) / 16777216) = n1 := by rw [wrap32]; omega
  have s2 : IntKind.u32.wrap ((n4 : Int) / 65536) = n2 := by rw [wrap32]; omega
  have s3 : IntKind.u32.wrap ((n4 : Int) / 256) = n3 := by rw [wrap32]; omega
  have t : ∀ n : Nat, IntKind.u8.wrap (n : Int) = (n : Int) % 256 := fun n => wrap8 n
  have t2 : ∀ n : Nat, IntKind.u8.wrap (Int.tmod (n : Int) 256) = (n : Int) % 256 := fun n => by rw [wrap8, Int.tmod_eq_emod_of_nonneg (by omega)]; omega
  have t3 : ∀ n : Nat, IntKind.u8.wrap ((n : Int) % 256) = (n : Int) % 256 := fun n => by rw [wrap8]; omega
  have hm := m1.keep ((Old.refl h1).push (.row 1 false [bcell (UInt8.ofNat n1), bcell (UInt8.ofNat n2), bcell (UInt8.ofNat n3), bcell (UInt8.ofNat n4)]))
  obtain ⟨v2, h2, e2, m2, k2⟩ := hm.app (nb := crc4 x) (k1.push _) (by simp [crc4]; omega)
  have hcr : crc4 x = [UInt8.ofNat n1, UInt8.ofNat n2, UInt8.ofNat n3, UInt8.ofNat n4] := by rw [g1, g2, g3, g4]; rfl
  rw [hcr] at e2
  simp only [List.map_cons, List.map_nil, List.length_cons, List.length_nil, Nat.reduceAdd, bcell_ofNat] at e2
  simp only [w32, ← g4]
  have n1b : (n1 : Int) % 256 = n1 := by omega
  simp [hv.lenA, hv.read, e1, s1, s2, s3, buildSliceR, reps, t, t2, t3]
  simp [e2]
  exact hq _ _ (by rw [sealS, ← hx]; exact m2) k2

theorem bytes33 {hb h : AHeap} {w : Nat} {bs : List UInt8} (hw : WrAt hb h w bs) (hn : bs.length ≤ 2 ^ 40) {Q : AVal → AHeap → Prop} (hq : ∀ v' h', BM h h' v' bs → Old h h' → Q v' h') : Ev (cfgR ro) 33 [.ptr w 0] h Q := by
  obtain ⟨v, hv, hm, hwl, hx⟩ := hw
  refine Ev.wp rfl rfl Try.func33 rfl ?_
  have hL : lenR (cfgR ro) h 24 v = .ok (.int .i64 bs.length) := (hm.toBS (c := cfgR ro)).lenR un24
  have hM : makeSliceR Try.prog h 24 (.int .i64 (bs.length : Int)) (.int .i64 (bs.length : Int)) = .ok (.sl h.next 0 bs.length, h.push (.row 1 false (reps bs.length [.int .u8 0]))) :=
    mkSlice_ok el24 inf24 zc5 (by decide) rfl (Nat.le_refl _) (by omega) (by omega)
  have hbs : BS (cfgR ro) (h.push (.row 1 false (reps bs.length [.int .u8 0]))) v bs := (hm.keep ((Old.refl h).push _)).toBS
  have hget : (h.push (.row 1 false (reps bs.length [.int .u8 0]))).get w = some (.row 0 false [v]) := by rw [AHeap.get_push, if_neg (by omega)]; exact hv
  have hov : overR (reps bs.length [.int .u8 0]) 0 (bs.map bcell) = .ok (bs.map bcell) := by
    unfold overR
    have : (reps bs.length [AVal.int .u8 0]).length = bs.length := by rw [reps_len]; simp
    rw [if_pos (by rw [this]; simp)]
    simp only [List.take_zero, List.nil_append, Nat.zero_add]
    rw [List.drop_of_length_le (by rw [this]; simp), List.append_nil]
  simp [Try.f33, hv, hL, hM, hget, copyR, hbs.lenA, hbs.read, hov]
  refine hq _ _ ?_ ?_
  · refine ⟨bes_one bs, ?_⟩
    by_cases h0 : bs = []
    · right
      exact ⟨h.next, false, by rw [bes_len], Nat.le_refl _, by simp, by rw [AHeap.get_set, bes_flat]; simp⟩
    · right
      exact ⟨h.next, false, by rw [bes_len], Nat.le_refl _, by simp, by rw [AHeap.get_set, bes_flat]; simp⟩
  · exact ((Old.refl h).push _).set (Nat.le_refl _) _

theorem num41 : ∀ (n : Nat), n < 2 ^ 63 → ∀ (h : AHeap) {Q : AVal → AHeap → Prop}, (∀ v' h', BM h h' v' (numS n) → Old h h' → Q v' h') → Ev (cfgR ro) 41 [.int .u64 n] h Q := by
  intro n
  induction n using Nat.strongRecOn with
  | _ n ih =>
    intro hn h Q hq
    refine Ev.wp rfl rfl Try.func41 rfl ?_
    have e0 : IntKind.u64.wrap (n : Int) = n := by rw [wrap64]; omega
    have e1 : Int.tmod (n : Int) 9223372036854775808 = n := by rw [Int.tmod_eq_emod_of_nonneg (by omega)]; omega
    have e2 : (n : Int) % 9223372036854775808 = n := by omega
    have e3 : IntKind.u64.wrap (n : Int) = n := e0
    simp [Try.f41, e1, e2]
    refine orD (fun h1 => ?_) (fun h1 => ?_)
    · have h1 : n < 128 := by omega
      have e4 : IntKind.u8.wrap (n : Int) = n := by rw [wrap8]; omega
      rw [numS_lo h1] at hq
      simp [buildSliceR, reps, e4]
      refine hq _ _ ⟨bes_one _, .inr ⟨h.next, false, rfl, Nat.le_refl _, by simp, ?_⟩⟩ ((Old.refl h).push _)
      rw [bes_flat]
      simp [bcell_ofNat]
      omega
    · have h1 : ¬ n < 128 := by omega
      rw [numS_hi h1] at hq
      obtain ⟨q, hq1⟩ : ∃ q, q = n / 128 := ⟨_, rfl⟩
      obtain ⟨x, hx⟩ : ∃ x : Int, x = ((n % 128 + 128 : Nat) : Int) := ⟨_, rfl⟩
      have e4 : IntKind.u8.wrap (IntKind.u64.wrap (Int.tmod (n : Int) 128 + 128)) = x := by
        rw [wrap64, wrap8, hx, Int.tmod_eq_emod_of_nonneg (by omega)]; omega
      have e5 : IntKind.u64.wrap ((n : Int) / 128) = (q : Int) := by rw [wrap64, hq1]; omega
      have e6 : IntKind.u8.wrap (IntKind.u64.wrap ((n : Int) % 128 + 128)) = x := by
        rw [wrap64, wrap8, hx]; omega
      simp [buildSliceR, reps, e4, e5, e6]
      refine ih q (by omega) (by omega) _ (fun v1 h1 m1 k1 => ?_)
      have m0 : BM h (h.push (.row 1 false [.int .u8 x])) (.sl h.next 0 1) [UInt8.ofNat (n % 128 + 128)] := by
        refine ⟨bes_one _, .inr ⟨h.next, false, rfl, Nat.le_refl _, by simp, ?_⟩⟩
        have hb : bcell (UInt8.ofNat (n % 128 + 128)) = .int .u8 x := by rw [bcell_ofNat, hx]; congr 1; omega
        rw [get_push_next, bes_flat, List.map_cons, List.map_nil, hb]
      have hlen := numS_len 8 q (by omega)
      have b1 := m1.toBS (c := cfgR ro)
      obtain ⟨v2, h2, g1, m2, k2⟩ := (m0.keep k1).app (nb := numS q) (((Old.refl h).push _).trans k1) (by simp; omega)
      simp [b1.lenA, b1.read, g1]
      exact hq _ _ (by rw [← hq1]; exact m2) k2
end
end Go.Proofs.Ytomhcjiefmaopaa
