/-
  A part of the proof of ArchiveBytes, over the seat Ytomhcjiefmaopaa: for every input the law returns true, and the input reads as it did.
-/
import Derived.Test.YtomhcjiefmaopaaGg
import Derived.Test.YtomhcjiefmaopaaRows
import Derived.ProofKit
set_option linter.all false
set_option linter.all false
set_option maxRecDepth 100000
set_option maxHeartbeats 4000000
namespace Go.Proofs.Ytomhcjiefmaopaa
open Go Go.RowKit Go.Proofs
theorem st_stop {c : List UInt8} {s : Nat × Nat} {lim : Nat} (h : s.2 ≠ 0) : st c s lim = (0, s) := by unfold st; rw [if_neg h]
theorem take4 : ∀ {c : List UInt8} (h : 4 ≤ c.length), c.take 4 = [c[0]'(by omega), c[1]'(by omega), c[2]'(by omega), c[3]'(by omega)]
  | _ :: _ :: _ :: _ :: _, _ => rfl
  | [], g => by simp at g
  | [_], g => by simp at g
  | [_, _], g => by simp at g
  | [_, _, _], g => by simp at g
theorem cl_set4 {vs : List AVal} (hk : vs.length < 16) (a b c d e x : AVal) : overR (a :: b :: c :: d :: (cl vs ++ [e])) (4 + vs.length) [x] = .ok (a :: b :: c :: d :: (cl (vs ++ [x]) ++ [e])) := by
  unfold overR
  rw [if_pos (by simp [cl]; omega)]
  congr 1
  have h1 : cl vs = vs ++ (.nils :: List.replicate (15 - vs.length) .nils) := by
    unfold cl; rw [show 16 - vs.length = (15 - vs.length) + 1 by omega, List.replicate_succ]
  have h2 : cl (vs ++ [x]) = vs ++ (x :: List.replicate (15 - vs.length) .nils) := by
    unfold cl; rw [List.length_append, List.length_singleton, show 16 - (vs.length + 1) = 15 - vs.length by omega]; simp
  rw [h1, h2]
  generalize List.replicate (15 - vs.length) AVal.nils = q
  rw [show 4 + vs.length = vs.length + 1 + 1 + 1 + 1 by omega]
  simp only [List.take_succ_cons, List.length_cons, List.length_nil, List.cons_append, List.append_assoc]
  rw [show vs.length + 1 + 1 + 1 + 1 + (0 + 1) = vs.length + 1 + 1 + 1 + 1 + 1 by omega]
  simp only [List.drop_succ_cons]
  simp
theorem decV_l (c : List UInt8) : (decV c).lists = (rdL c).1 := by simp only [decV]
theorem decV_s (c : List UInt8) : (decV c).sent = (rdT c).1 := by simp only [decV]
theorem decE_eq (c : List UInt8) : decE c = if (rdT c).2.2 = 0 ∧ (rdT c).2.1 < c.length then 15 else (rdT c).2.2 := by simp only [decE]
theorem decV_rf (c : List UInt8) (sv : AVal) (ls : List AVal) : rfL sv ls (decV c) = .int .u16 (rd1 c).1 :: .int .u64 (rd2 c).1 :: .int .u32 (rd3 c).1 :: .int .u32 (rd4 c).1 :: (ls ++ [sv]) := by simp only [decV, rfL]
/-- the four numbers at the head -/
def rdS (c : List UInt8) : Nat → Nat × Nat
  | 0 => (4, 0)
  | 1 => (rd1 c).2
  | 2 => (rd2 c).2
  | 3 => (rd3 c).2
  | _ => (rd4 c).2
theorem rdS_stop {c : List UInt8} : ∀ i, i ≤ 4 → (rdS c i).2 ≠ 0 → rdS c i = (rd4 c).2
  | 0, _, h => absurd rfl h
  | 1, _, h => by
    have h1 : (rd1 c).2.2 ≠ 0 := h
    have e2 : rd2 c = (0, (rd1 c).2) := st_stop h1
    have e3 : rd3 c = (0, (rd1 c).2) := by unfold rd3; rw [e2]; exact st_stop h1
    have e4 : rd4 c = (0, (rd1 c).2) := by unfold rd4; rw [e3]; exact st_stop h1
    rw [e4]; rfl
  | 2, _, h => by
    have h1 : (rd2 c).2.2 ≠ 0 := h
    have e3 : rd3 c = (0, (rd2 c).2) := st_stop h1
    have e4 : rd4 c = (0, (rd2 c).2) := by unfold rd4; rw [e3]; exact st_stop h1
    rw [e4]; rfl
  | 3, _, h => by
    have h1 : (rd3 c).2.2 ≠ 0 := h
    have e4 : rd4 c = (0, (rd3 c).2) := st_stop h1
    rw [e4]; rfl
  | 4, _, _ => rfl
  | i + 5, h, _ => by omega
theorem stMany_stop {α : Type} {f : Nat → α × Nat × Nat} {z : α} : ∀ (k : Nat) (s : Nat × Nat), s.2 ≠ 0 → (stMany (onS f z) k s).2 = s
  | 0, _, _ => rfl
  | k + 1, s, h => by
    have : onS f z s = (z, s) := by unfold onS; rw [if_neg h]
    rw [stMany, this]
    exact stMany_stop k s h
section
variable {ro : Nat → Option (List AVal)}
theorem read20 {h : AHeap} {v : AVal} {bs : List UInt8} (hv : BS (cfgR ro) h v bs) (hns : notSlc v) (hn : bs.length ≤ 67108864) {Q : AVal → AHeap → Prop}
    (hq1 : ∀ h', errA bs ≠ 0 → Old h h' → Q (.tuple [.agg zeroA, .int .i64 (errA bs : Nat)]) h')
    (hq2 : ∀ h' c sv ls, openS bs = some c → c.take 4 = [67, 80, 65, 1] → decE c = 0 → Old h h' → RfM (cfgR ro) h' sv ls (decV c) → Q (.tuple [.agg (rfL sv ls (decV c)), .int .i64 0]) h') : Ev (cfgR ro) 20 [v] h Q := by
  refine Ev.wp rfl rfl Try.func20 rfl ?_
  have hL : ∀ h', Old h h' → lenR (cfgR ro) h' 24 v = .ok (.int .i64 bs.length) := fun h' o => (hv.old o).lenR un24
  have hL0 := hL h (Old.refl h)
  have g1 : ¬ (67108864 : Int) < (bs.length : Int) := by omega
  have g2 : ¬ 67108864 < bs.length := by omega
  by_cases h4 : bs.length < 4
  · have h4' : (bs.length : Int) < 4 := by omega
    have hop : openS bs = none := by unfold openS; rw [if_pos h4]
    have he : errA bs = 31 := by unfold errA; rw [hop]
    rw [he] at hq1
    simp -implicitDefEqProofs [Try.f20, hL0, g1, g2, h4, h4', same_self]
    exact hq1 h (by omega) (Old.refl h)
  have h4' : ¬ (bs.length : Int) < 4 := by omega
  obtain ⟨k, hk⟩ : ∃ k, k = bs.length - 4 := ⟨_, rfl⟩
  have w1 : IntKind.i64.wrap ((bs.length : Int) - 4) = (k : Int) := by rw [w64 (by omega) (by omega)]; omega
  obtain ⟨c1, c2, c3⟩ := Sl.upto (at_ := k) hv (by omega) hns (by rw [bes_len]; omega) .i64
  obtain ⟨v4, hv4⟩ : ∃ v4, v4 = cutV v 1 0 k := ⟨_, rfl⟩
  rw [← hv4] at c1 c2 c3
  have b4 : BS (cfgR ro) h v4 (bs.take k) := by
    have : (bes bs).take k = bes (bs.take k) := by unfold bes; rw [← List.map_take]
    rw [this] at c2; exact c2
  obtain ⟨c, hc⟩ : ∃ c, c = bs.take k := ⟨_, rfl⟩
  rw [← hc] at b4
  have hcl : c.length = k := by rw [hc, List.length_take]; omega
  have cv0 := hv.conv (s := 24) (d := 9) (e := 5) un24 un9 un5
  simp -implicitDefEqProofs [Try.f20, hL0, g1, g2, h4, h4', same_self, w1, c1]
  refine seal42 b4 (by omega) (fun v5 h5 b5 o5 => ?_)
  have cv1 := (hv.old o5).conv (s := 24) (d := 9) (e := 5) un24 un9 un5
  have cv5 := b5.toBS.conv (c := cfgR ro) (s := 24) (d := 9) (e := 5) un24 un9 un5
  simp -implicitDefEqProofs [cv0, cv1, cv5, -convR, same_self, hL0, hL h5 o5]
  refine ⟨.inl (by decide +kernel), .inl (by decide +kernel), ?_⟩
  have hse : (sealS c = bs) ∨ ¬ (sealS c = bs) := Decidable.em _
  have hopen : openS bs = if sealS c = bs then some c else none := by
    unfold openS
    rw [if_neg h4, ← hk, ← hc]
    by_cases h : sealS c = bs
    · rw [if_pos h, if_pos h.symm]
    · rw [if_neg h, if_neg (fun e => h e.symm)]
  by_cases hse : sealS c = bs
  rotate_left
  · have he : errA bs = 31 := by unfold errA; rw [hopen, if_neg hse]
    rw [he] at hq1
    simp -implicitDefEqProofs [hse]
    exact hq1 h5 (by omega) o5
  rw [if_pos hse] at hopen
  have hv5 := hv.old o5
  have e1 := (Sl.upto (at_ := k) hv5 (by omega) hns (by rw [bes_len]; omega) .i64).1
  rw [← hv4] at e1
  have bc := b4.old o5
  have hLc : ∀ h', Old h5 h' → lenR (cfgR ro) h' 24 v4 = .ok (.int .i64 c.length) := fun h' o => (bc.old o).lenR un24
  have hLc5 := hLc h5 (Old.refl _)
  have hX : ∀ i, i < c.length → indexAddrR Try.prog 24 v4 (.int .i64 (i : Int)) = .ok (elp v4 1 i) := fun i hi => bc.idx un24 sz5 hi
  have hA : ∀ i (hi : i < c.length), loadR (cfgR ro) h5 5 (elp v4 1 i) = .ok (.int .u8 c[i].toNat) := fun i hi => bc.load hi ag5
  by_cases hhd : c.take 4 = [67, 80, 65, 1]
  rotate_left
  · have he : errA bs = 30 := by unfold errA; rw [hopen]; simp [hhd]
    rw [he] at hq1
    have fin := hq1 h5 (by omega) o5
    by_cases g4 : c.length < 4
    · have g4' : (c.length : Int) < 4 := by omega
      simp -implicitDefEqProofs [hse, hL h5 o5, w1, e1, hLc5, g4, g4']
      exact fin
    · have g4' : ¬ (c.length : Int) < 4 := by omega
      have x0 : indexAddrR Try.prog 24 v4 (.int .i64 0) = .ok (elp v4 1 0) := hX 0 (by omega); have x1 : indexAddrR Try.prog 24 v4 (.int .i64 1) = .ok (elp v4 1 1) := hX 1 (by omega); have x2 : indexAddrR Try.prog 24 v4 (.int .i64 2) = .ok (elp v4 1 2) := hX 2 (by omega); have x3 : indexAddrR Try.prog 24 v4 (.int .i64 3) = .ok (elp v4 1 3) := hX 3 (by omega)
      have a0 := hA 0 (by omega); have a1 := hA 1 (by omega); have a2 := hA 2 (by omega); have a3 := hA 3 (by omega)
      have ct := take4 (c := c) (by omega)
      generalize c[0] = y0 at a0 ct
      generalize c[1] = y1 at a1 ct
      generalize c[2] = y2 at a2 ct
      generalize c[3] = y3 at a3 ct
      simp -implicitDefEqProofs [hse, hL h5 o5, w1, e1, hLc5, g4, g4', x0, x1, x2, x3, a0, a1, a2, a3]
      have key : ∀ (y : UInt8) (n : Nat), n < 256 → (y.toNat : Int) = (n : Int) → y = UInt8.ofNat n := fun y n hn h => UInt8.toNat_inj.1 (by rw [toNat_ofNat hn]; omega)
      refine orD (fun q0 => ?_) (fun q0 => ?_)
      rotate_left
      · simp -implicitDefEqProofs [q0]; exact fin
      simp -implicitDefEqProofs [q0, x1, a1]
      refine orD (fun q1 => ?_) (fun q1 => ?_)
      rotate_left
      · simp -implicitDefEqProofs [q1]; exact fin
      simp -implicitDefEqProofs [q1, x2, a2]
      refine orD (fun q2 => ?_) (fun q2 => ?_)
      rotate_left
      · simp -implicitDefEqProofs [q2]; exact fin
      simp -implicitDefEqProofs [q2, x3, a3]
      refine orD (fun q3 => ?_) (fun q3 => ?_)
      rotate_left
      · simp -implicitDefEqProofs [q3]; exact fin
      exfalso
      refine hhd ?_
      rw [ct, key y0 67 (by omega) q0, key y1 80 (by omega) q1, key y2 65 (by omega) q2, key y3 1 (by omega) q3]
      rfl
  have he : errA bs = decE c := by unfold errA; rw [hopen]; simp [hhd]
  rw [he] at hq1
  have hc4 : 4 ≤ c.length := by
    have := congrArg List.length hhd
    rw [List.length_take] at this
    simp at this
    omega
  have g4 : ¬ c.length < 4 := by omega
  have g4' : ¬ (c.length : Int) < 4 := by omega
  have x0 : indexAddrR Try.prog 24 v4 (.int .i64 0) = .ok (elp v4 1 0) := hX 0 (by omega); have x1 : indexAddrR Try.prog 24 v4 (.int .i64 1) = .ok (elp v4 1 1) := hX 1 (by omega); have x2 : indexAddrR Try.prog 24 v4 (.int .i64 2) = .ok (elp v4 1 2) := hX 2 (by omega); have x3 : indexAddrR Try.prog 24 v4 (.int .i64 3) = .ok (elp v4 1 3) := hX 3 (by omega)
  have a0 := hA 0 (by omega); have a1 := hA 1 (by omega); have a2 := hA 2 (by omega); have a3 := hA 3 (by omega)
  have ct := take4 (c := c) (by omega)
  rw [hhd] at ct
  simp only [List.cons.injEq, and_true] at ct
  obtain ⟨t0, t1, t2, t3⟩ := ct
  rw [← t0] at a0; rw [← t1] at a1; rw [← t2] at a2; rw [← t3] at a3
  simp -implicitDefEqProofs [hse, hL h5 o5, w1, e1, hLc5, g4, g4', x0, x1, x2, x3, a0, a1, a2, a3]
  generalize hK : seqK _ _ _ _ _ _ _ = K
  have tail : ∀ (z9 z74 : AVal) (b0 b1 b2 b3 : Nat), (b0 < 2 ^ 63 ∧ b1 < 2 ^ 63 ∧ b2 < 2 ^ 63 ∧ b3 < 2 ^ 63) → ((rd4 c).2.2 = 0 → b0 = (rd1 c).1 ∧ b1 = (rd2 c).1 ∧ b2 = (rd3 c).1 ∧ b3 = (rd4 c).1) →
      K (.dead :: .dead :: .cell (.int .u16 0 :: .int .u64 0 :: .int .u32 0 :: .int .u32 0 :: List.replicate 17 .nils) :: .dead :: v4 :: .cell [.int .u64 65535, .int .u64 1099511627776, .int .u64 268435456, .int .u64 268435457] :: .cell [.int .u64 (b0 : Nat), .int .u64 (b1 : Nat), .int .u64 (b2 : Nat), .int .u64 (b3 : Nat)] :: .int .i64 ((rd4 c).2.1 : Nat) :: .int .i64 ((rd4 c).2.2 : Nat) :: z9 :: .dead :: .dead :: .dead :: .dead :: .dead :: .dead :: .dead :: .dead :: .dead :: .dead :: .dead :: .dead :: .dead :: .dead :: .dead :: .dead :: .dead :: .dead :: .dead :: .dead :: .dead :: .dead :: .dead :: .dead :: .dead :: .dead :: .dead :: .dead :: .dead :: .dead :: .dead :: .dead :: .dead :: .dead :: .dead :: .dead :: .dead :: .dead :: .dead :: .dead :: .dead :: .dead :: .dead :: .dead :: .dead :: .dead :: .dead :: .dead :: .dead :: .dead :: .dead :: .dead :: .dead :: .dead :: .dead :: .dead :: .dead :: .dead :: .dead :: .dead :: .dead :: .dead :: .dead :: .dead :: z74 :: .dead :: .dead :: .dead :: .dead :: .dead :: .dead :: .dead :: .dead :: .dead :: .dead :: .dead :: .dead :: .dead :: .dead :: .dead :: .dead :: .dead :: .dead :: .dead :: .dead :: .dead :: .dead :: .dead :: .dead :: .dead :: .dead :: .dead :: .dead :: .dead :: .dead :: .dead :: .dead :: .dead :: .dead :: .dead :: .dead :: .dead :: .dead :: .dead :: .dead :: .dead :: .dead :: .dead :: .dead :: .dead :: .dead :: .dead :: .dead :: .dead :: .dead :: .dead :: .dead :: .dead :: .dead :: .dead :: .dead :: .dead :: .dead :: .dead :: .dead :: .dead :: .dead :: .dead :: .dead :: .dead :: .dead :: .dead :: .dead :: .dead :: .dead :: .dead :: .dead :: .dead :: .dead :: .dead :: .dead :: .dead :: .dead :: .dead :: .dead :: .dead :: .dead :: .dead :: .dead :: .dead :: []) h5 := by
    intro z9 z74 b0 b1 b2 b3 hbb hbv
    obtain ⟨B0, hB0⟩ : ∃ B, B = b0 % 65536 := ⟨_, rfl⟩
    obtain ⟨B2, hB2⟩ : ∃ B, B = b2 % 4294967296 := ⟨_, rfl⟩
    obtain ⟨B3, hB3⟩ : ∃ B, B = b3 % 4294967296 := ⟨_, rfl⟩
    have w0 : IntKind.u16.wrap (b0 : Int) = (B0 : Int) := by rw [wrap16]; omega
    have w2 : IntKind.u32.wrap (b2 : Int) = (B2 : Int) := by rw [wrap32]; omega
    have w3 : IntKind.u32.wrap (b3 : Int) = (B3 : Int) := by rw [wrap32]; omega
    have ix0 : idxNat (.int .i64 0) 4 = .ok 0 := rfl
    have ix1 : idxNat (.int .i64 1) 4 = .ok 1 := rfl
    have ix2 : idxNat (.int .i64 2) 4 = .ok 2 := rfl
    have ix3 : idxNat (.int .i64 3) 4 = .ok 3 := rfl
    have l1 := st_lt (cs := c) (s := (4, 0)) (lim := 65535) hc4
    have l2 := st_lt (cs := c) (s := (rd1 c).2) (lim := 1099511627776) l1.1
    have l3 := st_lt (cs := c) (s := (rd2 c).2) (lim := 268435456) l2.1
    have l4 := st_lt (cs := c) (s := (rd3 c).2) (lim := 268435457) l3.1
    rw [show st c (4, 0) 65535 = rd1 c from rfl] at l1
    rw [show st c (rd2 c).2 268435456 = rd3 c from rfl] at l3
    rw [show st c (rd3 c).2 268435457 = rd4 c from rfl] at l4
    have hBv : (rd4 c).2.2 = 0 → B0 = (rd1 c).1 ∧ b1 = (rd2 c).1 ∧ B2 = (rd3 c).1 ∧ B3 = (rd4 c).1 := fun h0 => by
      obtain ⟨f1, f2, f3, f4⟩ := hbv h0
      exact ⟨by omega, f2, by omega, by omega⟩
    rw [← hK]
    simp -implicitDefEqProofs [ix0, ix1, ix2, ix3, w0, w2, w3]
    generalize hK2 : seqK _ _ _ _ _ _ _ = K2
    have tail2 : ∀ (z11 z106 : AVal) (h6 : AHeap) (s : Nat × Nat) (vs : List AVal), Old h5 h6 → (rdL c).2 = s → (s.2 = 0 → vs.length = 16 ∧ ∀ j, j < 16 → Mine h5 h6 1 (u32s ((rdL c).1.getD j [])) (vs.getD j .dead)) → s.1 ≤ c.length →
        K2 (.dead :: .dead :: .cell (.int .u16 0 :: .int .u64 0 :: .int .u32 0 :: .int .u32 0 :: List.replicate 17 .nils) :: .dead :: v4 :: .dead :: .dead :: .int .i64 (s.1 : Nat) :: .int .i64 (s.2 : Nat) :: .dead :: .cell (.int .u16 B0 :: .int .u64 b1 :: .int .u32 B2 :: .int .u32 B3 :: (cl vs ++ [.nils])) :: z11 :: .dead :: .dead :: .dead :: .dead :: .dead :: .dead :: .dead :: .dead :: .dead :: .dead :: .dead :: .dead :: .dead :: .dead :: .dead :: .dead :: .dead :: .dead :: .dead :: .dead :: .dead :: .dead :: .dead :: .dead :: .dead :: .dead :: .dead :: .dead :: .dead :: .dead :: .dead :: .dead :: .dead :: .dead :: .dead :: .dead :: .dead :: .dead :: .dead :: .dead :: .dead :: .dead :: .dead :: .dead :: .dead :: .dead :: .dead :: .dead :: .dead :: .dead :: .dead :: .dead :: .dead :: .dead :: .dead :: .dead :: .dead :: .dead :: .dead :: .dead :: .dead :: .dead :: .dead :: .dead :: .dead :: .dead :: .dead :: .dead :: .dead :: .dead :: .dead :: .dead :: .dead :: .dead :: .dead :: .dead :: .dead :: .dead :: .dead :: .dead :: .dead :: .dead :: .dead :: .dead :: .dead :: .dead :: .dead :: .dead :: .dead :: .dead :: .dead :: .dead :: .dead :: .dead :: z106 :: .dead :: .dead :: .dead :: .dead :: .dead :: .dead :: .dead :: .dead :: .dead :: .dead :: .dead :: .dead :: .dead :: .dead :: .dead :: .dead :: .dead :: .dead :: .dead :: .dead :: .dead :: .dead :: .dead :: .dead :: .dead :: .dead :: .dead :: .dead :: .dead :: .dead :: .dead :: .dead :: .dead :: .dead :: .dead :: .dead :: .dead :: .dead :: .dead :: .dead :: .dead :: .dead :: .dead :: .dead :: .dead :: .dead :: .dead :: .dead :: .dead :: .dead :: .dead :: .dead :: .dead :: []) h6 := by
      intro z11 z106 h6 s vs o6 hrl hvs hsc
      have o56 := o5.trans o6
      rw [← hK2]
      by_cases hx : s.2 = 0
      rotate_left
      · have hx' : ¬ (s.2 : Int) = 0 := by omega
        have hG : rdT c = ([], s) := by unfold rdT; rw [hrl]; unfold onS; rw [if_neg hx]
        have hd : decE c = s.2 := by rw [decE_eq, hG]; simp [hx]
        rw [hd] at hq1
        simp -implicitDefEqProofs [hx, hx']
        obtain ⟨J, hJ⟩ : ∃ J : Nat → List AVal → AHeap → Prop, J = fun m env h' => h' = h6 ∧ env = (.dead :: .dead :: .cell (.int .u16 0 :: .int .u64 0 :: .int .u32 0 :: .int .u32 0 :: List.replicate 17 .nils) :: .dead :: v4 :: .dead :: .dead :: .int .i64 (s.1 : Nat) :: .int .i64 (s.2 : Nat) :: .dead :: .cell (.int .u16 B0 :: .int .u64 b1 :: .int .u32 B2 :: .int .u32 B3 :: (cl vs ++ [.nils])) :: .dead :: .int .u64 0 :: .int .u64 0 :: .dead :: .dead :: .dead :: .dead :: .dead :: .dead :: .dead :: .dead :: .dead :: .dead :: .dead :: .dead :: .dead :: .dead :: .dead :: .dead :: .dead :: .dead :: .dead :: .dead :: .dead :: .dead :: .dead :: .dead :: .dead :: .dead :: .dead :: .dead :: .dead :: .dead :: .dead :: .dead :: .dead :: .dead :: .dead :: .dead :: .dead :: .dead :: .dead :: .dead :: .dead :: .dead :: .dead :: .dead :: .dead :: .dead :: .dead :: .dead :: .dead :: .dead :: .dead :: .dead :: .dead :: .dead :: .dead :: .dead :: .dead :: .dead :: .dead :: .dead :: .dead :: .dead :: .dead :: .dead :: .dead :: .dead :: .dead :: .dead :: .dead :: .dead :: .dead :: .dead :: .dead :: .dead :: .dead :: .dead :: .dead :: .dead :: .dead :: .dead :: .dead :: .dead :: .dead :: .dead :: .dead :: .dead :: .dead :: .dead :: .dead :: .dead :: .dead :: .dead :: .dead :: .dead :: .dead :: .dead :: .dead :: .dead :: .dead :: .dead :: .dead :: .dead :: .dead :: .dead :: .dead :: .dead :: .dead :: .dead :: .dead :: .dead :: .dead :: .dead :: .dead :: .dead :: .dead :: .dead :: .dead :: .dead :: .dead :: .dead :: .dead :: .dead :: .dead :: .dead :: .dead :: .dead :: .dead :: .dead :: .dead :: .dead :: .dead :: .dead :: .dead :: .dead :: .dead :: .dead :: .dead :: .dead :: .dead :: .dead :: .dead :: .dead :: .dead :: .dead :: .dead :: .dead :: []) := ⟨_, rfl⟩
        refine loop_of J ?_ 0 (by rw [hJ]; exact ⟨rfl, rfl⟩)
        intro m env h' hj
        rw [hJ] at hj
        obtain ⟨rfl, rfl⟩ := hj
        simp -implicitDefEqProofs [hx, hx']
        exact hq1 h' hx o56
      obtain ⟨hvl, hmi⟩ := hvs hx
      have hcl16 : cl vs = vs := by unfold cl; rw [hvl]; simp
      rw [hcl16]
      simp -implicitDefEqProofs [hx]
      refine readnum43 (a := s.1) (limit := 65536) (bc.old o6) (by omega) (by omega) (by omega) (fun n p x e2 => ?_)
      have hle := rdNum_le (c := c) (a := s.1) (lim := 65536) hsc
      rw [e2] at hle
      simp only at hle
      obtain ⟨G, hG⟩ : ∃ G, G = rdT c := ⟨_, rfl⟩
      have hGe : G = if x ≠ 0 then ([], p, x) else gMany (gText c) n p := by
        rw [hG]; unfold rdT; rw [hrl]; unfold onS; rw [if_pos hx]; unfold gSent; rw [e2]
      have hdec : decE c = if G.2.2 = 0 ∧ G.2.1 < c.length then 15 else G.2.2 := by rw [hG]; exact decE_eq c
      have h40 : (rd4 c).2.2 = 0 := by
        rcases Nat.eq_zero_or_pos (rd4 c).2.2 with h | h
        · exact h
        · have h2 : (rdL c).2 = (rd4 c).2 := by rw [rdL]; exact stMany_stop (f := gList c) (z := []) 16 (rd4 c).2 (by omega)
          rw [hrl] at h2
          rw [h2] at hx
          exact hx
      obtain ⟨v1, v2, v3, v4'⟩ := hBv h40
      simp -implicitDefEqProofs
      generalize hK3 : seqK _ _ _ _ _ _ _ = K3
      have tail3 : ∀ (z12 z13 z134 : AVal) (h7 : AHeap) (a x : Nat) (T : List (List UInt8)) (w : AVal), Old h6 h7 → G.2 = (a, x) → (x = 0 → G.1 = T ∧ Mine h6 h7 1 (T.map fun t => [.str t]) w) →
          K3 (.dead :: .dead :: .cell (.int .u16 0 :: .int .u64 0 :: .int .u32 0 :: .int .u32 0 :: List.replicate 17 .nils) :: .dead :: v4 :: .dead :: .dead :: .int .i64 (a : Nat) :: .int .i64 (x : Nat) :: .dead :: .cell (.int .u16 B0 :: .int .u64 b1 :: .int .u32 B2 :: .int .u32 B3 :: (vs ++ [w])) :: .dead :: z12 :: z13 :: .dead :: .dead :: .dead :: .dead :: .dead :: .dead :: .dead :: .dead :: .dead :: .dead :: .dead :: .dead :: .dead :: .dead :: .dead :: .dead :: .dead :: .dead :: .dead :: .dead :: .dead :: .dead :: .dead :: .dead :: .dead :: .dead :: .dead :: .dead :: .dead :: .dead :: .dead :: .dead :: .dead :: .dead :: .dead :: .dead :: .dead :: .dead :: .dead :: .dead :: .dead :: .dead :: .dead :: .dead :: .dead :: .dead :: .dead :: .dead :: .dead :: .dead :: .dead :: .dead :: .dead :: .dead :: .dead :: .dead :: .dead :: .dead :: .dead :: .dead :: .dead :: .dead :: .dead :: .dead :: .dead :: .dead :: .dead :: .dead :: .dead :: .dead :: .dead :: .dead :: .dead :: .dead :: .dead :: .dead :: .dead :: .dead :: .dead :: .dead :: .dead :: .dead :: .dead :: .dead :: .dead :: .dead :: .dead :: .dead :: .dead :: .dead :: .dead :: .dead :: .dead :: .dead :: .dead :: .dead :: .dead :: .dead :: .dead :: .dead :: .dead :: .dead :: .dead :: .dead :: .dead :: .dead :: .dead :: .dead :: .dead :: .dead :: .dead :: .dead :: .dead :: .dead :: .dead :: .dead :: .dead :: .dead :: .dead :: .dead :: z134 :: .dead :: .dead :: .dead :: .dead :: .dead :: .dead :: .dead :: .dead :: .dead :: .dead :: .dead :: .dead :: .dead :: .dead :: .dead :: .dead :: .dead :: .dead :: .dead :: .dead :: .dead :: .dead :: .dead :: .dead :: .dead :: []) h7 := by
        intro z12 z13 z134 h7 a x T w o7 hGa hGx
        rw [hGa] at hdec
        have o57 := o56.trans o7
        rw [← hK3]
        by_cases hxx : x = 0
        · subst hxx
          by_cases hal : a < c.length
          · have hal' : (a : Int) < (c.length : Int) := by omega
            simp only [hal, and_self, if_true] at hdec
            rw [hdec] at hq1
            simp -implicitDefEqProofs [hLc h7 (o6.trans o7), hal, hal']
            exact hq1 h7 (by omega) o57
          · have hal' : ¬ (a : Int) < (c.length : Int) := by omega
            have hd0 : decE c = 0 := by rw [hdec]; simp [hal]
            obtain ⟨g1, g2⟩ := hGx rfl
            have t17 := last_take hvl w
            simp -implicitDefEqProofs [hLc h7 (o6.trans o7), hal, hal', hvl, t17]
            have hT : (rdT c).1 = T := by rw [← hG]; exact g1
            have hRf : RfM (cfgR ro) h7 w vs (decV c) := by
              refine ⟨hvl, fun j hj => ?_, ?_⟩
              · rw [decV_l]; exact ((hmi j hj).keep o7).sl
              · rw [decV_s, hT]; exact g2.sl
            have hfin := hq2 h7 c w vs hopen hhd hd0 o57 hRf
            rw [decV_rf, ← v1, ← v2, ← v3, ← v4'] at hfin
            exact hfin
        · have hxx' : ¬ (x : Int) = 0 := by omega
          rw [if_neg (fun h => hxx h.1)] at hdec
          rw [hdec] at hq1
          simp -implicitDefEqProofs [hxx, hxx']
          exact hq1 h7 hxx o57
      obtain ⟨J, hJ⟩ : ∃ J : Nat → List AVal → AHeap → Prop, J = fun m env h' => ∃ (k a x : Nat) (T : List (List UInt8)) (w z134 : AVal), k ≤ 65536 ∧ a ≤ c.length ∧ Old h6 h' ∧ T.length = k ∧ Mine h6 h' 1 (T.map fun t => [.str t]) w ∧ ((x = 0 ∧ k + m = n ∧ G = (T ++ (gMany (gText c) m a).1, (gMany (gText c) m a).2)) ∨ (x ≠ 0 ∧ G.2 = (a, x))) ∧ env = (.dead :: .dead :: .cell (.int .u16 0 :: .int .u64 0 :: .int .u32 0 :: .int .u32 0 :: List.replicate 17 .nils) :: .dead :: v4 :: .dead :: .dead :: .int .i64 (a : Nat) :: .int .i64 (x : Nat) :: .dead :: .cell (.int .u16 B0 :: .int .u64 b1 :: .int .u32 B2 :: .int .u32 B3 :: (vs ++ [w])) :: .dead :: .int .u64 (n : Nat) :: .int .u64 (k : Nat) :: .dead :: .dead :: .dead :: .dead :: .dead :: .dead :: .dead :: .dead :: .dead :: .dead :: .dead :: .dead :: .dead :: .dead :: .dead :: .dead :: .dead :: .dead :: .dead :: .dead :: .dead :: .dead :: .dead :: .dead :: .dead :: .dead :: .dead :: .dead :: .dead :: .dead :: .dead :: .dead :: .dead :: .dead :: .dead :: .dead :: .dead :: .dead :: .dead :: .dead :: .dead :: .dead :: .dead :: .dead :: .dead :: .dead :: .dead :: .dead :: .dead :: .dead :: .dead :: .dead :: .dead :: .dead :: .dead :: .dead :: .dead :: .dead :: .dead :: .dead :: .dead :: .dead :: .dead :: .dead :: .dead :: .dead :: .dead :: .dead :: .dead :: .dead :: .dead :: .dead :: .dead :: .dead :: .dead :: .dead :: .dead :: .dead :: .dead :: .dead :: .dead :: .dead :: .dead :: .dead :: .dead :: .dead :: .dead :: .dead :: .dead :: .dead :: .dead :: .dead :: .dead :: .dead :: .dead :: .dead :: .dead :: .dead :: .dead :: .dead :: .dead :: .dead :: .dead :: .dead :: .dead :: .dead :: .dead :: .dead :: .dead :: .dead :: .dead :: .dead :: .dead :: .dead :: .dead :: .dead :: .dead :: .dead :: .dead :: .dead :: z134 :: .dead :: .dead :: .dead :: .dead :: .dead :: .dead :: .dead :: .dead :: .dead :: .dead :: .dead :: .dead :: .dead :: .dead :: .dead :: .dead :: .dead :: .dead :: .dead :: .dead :: .dead :: .dead :: .dead :: .dead :: .dead :: []) := ⟨_, rfl⟩
      refine loop_of J ?_ n (by
        rw [hJ]
        refine ⟨0, p, x, [], .nils, .dead, by omega, hle.1, Old.refl _, rfl, Mine.nil _ _ _, ?_, rfl⟩
        by_cases hxx : x = 0
        · exact .inl ⟨hxx, by omega, by rw [hGe, if_neg (by omega)]; simp⟩
        · exact .inr ⟨hxx, by rw [hGe, if_pos hxx]⟩)
      intro m env h' hj
      rw [hJ] at hj
      obtain ⟨k, a, x, T, w, z134, hk, hac, oh, hTl, mw, hd, rfl⟩ := hj
      by_cases hxx : x = 0
      rotate_left
      · obtain ⟨_, hg⟩ := hd.resolve_left (fun h => hxx h.1)
        have hxx' : ¬ (x : Int) = 0 := by omega
        by_cases hlt : k < n
        · have hlt' : (k : Int) < (n : Int) := by omega
          simp -implicitDefEqProofs [hlt, hlt', hxx, hxx']
          exact tail3 _ _ _ h' a x T w oh hg (fun h => absurd h hxx)
        · have hlt' : ¬ (k : Int) < (n : Int) := by omega
          simp -implicitDefEqProofs [hlt, hlt']
          exact tail3 _ _ _ h' a x T w oh hg (fun h => absurd h hxx)
      obtain ⟨_, hkm, hg⟩ := hd.resolve_right (fun h => h.1 hxx)
      subst hxx
      by_cases hlt : k < n
      · have hlt' : (k : Int) < (n : Int) := by omega
        have w1 : IntKind.u64.wrap ((k : Int) + 1) = ((k + 1 : Nat) : Int) := by rw [wrap64]; omega
        simp -implicitDefEqProofs [hlt, hlt']
        refine readtext53 (a := a) (bc.old (o6.trans oh)) c3 (by omega) hac ?_
        have hgl := gText_le (c := c) hac
        obtain ⟨m', rfl⟩ : ∃ m', m = m' + 1 := ⟨m - 1, by omega⟩
        have hst := gMany_step (f := gText c) (k := m') (a := a)
        obtain ⟨g, hgg⟩ : ∃ g, g = gText c a := ⟨_, rfl⟩
        rw [← hgg] at hst hgl ⊢
        obtain ⟨t, p2, x2⟩ := g
        simp only at hst hgl ⊢
        obtain ⟨v', h8, f8, m8, o8⟩ := (mw.keep ((Old.refl h').push (.row 1 false [.str t]))).append1 (bytes := 16) (e := [.str t]) (by omega) rfl (by simp; omega) (oh.trans ((Old.refl h').push _))
        have n16 := last_nth hvl w
        have vc := (m8.sl (c := cfgR ro)).one
        have ov := last_over hvl (.int .u16 B0) (.int .u64 b1) (.int .u32 B2) (.int .u32 B3) w v'
        simp -implicitDefEqProofs [hvl, buildSliceR, reps, n16, f8, vc, ov, w1]
        refine .mk (m := m') (by omega) ?_
        rw [hJ]
        refine ⟨k + 1, p2, x2, T ++ [t], v', .dead, by omega, hgl.1, o8, by simp [hTl], by simpa using m8, ?_, rfl⟩
        by_cases hx2 : x2 = 0
        · refine .inl ⟨hx2, by omega, ?_⟩
          rw [hg, hst]; simp [hx2]
        · refine .inr ⟨hx2, ?_⟩
          rw [hg, hst]; simp [hx2]
      · have hlt' : ¬ (k : Int) < (n : Int) := by omega
        have hm0 : m = 0 := by omega
        subst hm0
        simp -implicitDefEqProofs [hlt, hlt']
        have tl := fun z1 z2 z3 => tail3 z1 z2 z3 h' a 0 T w oh (by rw [hg]; simp [gMany]) (fun _ => ⟨by rw [hg]; simp [gMany], mw⟩)
        exact tl _ _ _
    obtain ⟨I, hI⟩ : ∃ I : Nat → List AVal → AHeap → Prop, I = fun m env h' => ∃ (u : Nat) (s : Nat × Nat) (L : List (List Nat)) (vs : List AVal) (z106 : AVal), u + m = 16 ∧ stMany (onS (gList c) []) u (rd4 c).2 = (L, s) ∧ vs.length = u ∧ s.1 ≤ c.length ∧ Old h5 h' ∧ (s.2 = 0 → ∀ j, j < u → Mine h5 h' 1 (u32s (L.getD j [])) (vs.getD j .dead)) ∧ env = (.dead :: .dead :: .cell (.int .u16 0 :: .int .u64 0 :: .int .u32 0 :: .int .u32 0 :: List.replicate 17 .nils) :: .dead :: v4 :: .dead :: .dead :: .int .i64 (s.1 : Nat) :: .int .i64 (s.2 : Nat) :: .dead :: .cell (.int .u16 B0 :: .int .u64 b1 :: .int .u32 B2 :: .int .u32 B3 :: (cl vs ++ [.nils])) :: .int .i64 (u : Nat) :: .dead :: .dead :: .dead :: .dead :: .dead :: .dead :: .dead :: .dead :: .dead :: .dead :: .dead :: .dead :: .dead :: .dead :: .dead :: .dead :: .dead :: .dead :: .dead :: .dead :: .dead :: .dead :: .dead :: .dead :: .dead :: .dead :: .dead :: .dead :: .dead :: .dead :: .dead :: .dead :: .dead :: .dead :: .dead :: .dead :: .dead :: .dead :: .dead :: .dead :: .dead :: .dead :: .dead :: .dead :: .dead :: .dead :: .dead :: .dead :: .dead :: .dead :: .dead :: .dead :: .dead :: .dead :: .dead :: .dead :: .dead :: .dead :: .dead :: .dead :: .dead :: .dead :: .dead :: .dead :: .dead :: .dead :: .dead :: .dead :: .dead :: .dead :: .dead :: .dead :: .dead :: .dead :: .dead :: .dead :: .dead :: .dead :: .dead :: .dead :: .dead :: .dead :: .dead :: .dead :: .dead :: .dead :: .dead :: .dead :: .dead :: .dead :: .dead :: .dead :: .dead :: .dead :: z106 :: .dead :: .dead :: .dead :: .dead :: .dead :: .dead :: .dead :: .dead :: .dead :: .dead :: .dead :: .dead :: .dead :: .dead :: .dead :: .dead :: .dead :: .dead :: .dead :: .dead :: .dead :: .dead :: .dead :: .dead :: .dead :: .dead :: .dead :: .dead :: .dead :: .dead :: .dead :: .dead :: .dead :: .dead :: .dead :: .dead :: .dead :: .dead :: .dead :: .dead :: .dead :: .dead :: .dead :: .dead :: .dead :: .dead :: .dead :: .dead :: .dead :: .dead :: .dead :: .dead :: .dead :: []) := ⟨_, rfl⟩
    refine loop_of I ?_ 16 (by rw [hI]; exact ⟨0, (rd4 c).2, [], [], .dead, by omega, rfl, rfl, l4.1, Old.refl _, fun _ j hj => by omega, rfl⟩)
    intro m env h' hi
    rw [hI] at hi
    obtain ⟨u, s, L, vs, z106, hum, hst, hvl, hsc, oh, hmi, rfl⟩ := hi
    by_cases hx : s.2 = 0
    rotate_left
    · have hx' : ¬ (s.2 : Int) = 0 := by omega
      have hrl : (rdL c).2 = s := by
        unfold rdL
        have : stMany (onS (gList c) []) 16 (rd4 c).2 = stMany (onS (gList c) []) 16 (rd4 c).2 := rfl
        have key : ∀ k, u ≤ k → (stMany (onS (gList c) []) k (rd4 c).2).2 = s := by
          intro k hk
          induction k with
          | zero => have : u = 0 := by omega
                    subst this; rw [hst]
          | succ k ih =>
            by_cases h1 : u = k + 1
            · subst h1; rw [hst]
            · rw [stMany_snoc]
              simp only
              rw [ih (by omega)]
              unfold onS; rw [if_neg hx]
        exact key 16 (by omega)
      by_cases hlt : u < 16
      · have hlt' : (u : Int) < 16 := by omega
        simp -implicitDefEqProofs [hlt, hlt', hx, hx']
        exact tail2 _ _ h' s vs oh hrl (fun h => absurd h hx) hsc
      · have hlt' : ¬ (u : Int) < 16 := by omega
        simp -implicitDefEqProofs [hlt, hlt']
        exact tail2 _ _ h' s vs oh hrl (fun h => absurd h hx) hsc
    by_cases hlt : u < 16
    · have hlt' : (u : Int) < 16 := by omega
      have w1 : IntKind.i64.wrap ((u : Int) + 1) = ((u + 1 : Nat) : Int) := by rw [w64 (by omega) (by omega)]; omega
      have hix : idxNat (.int .i64 (u : Int)) 16 = .ok u := ix_nat hlt
      simp -implicitDefEqProofs [hlt, hlt', hx]
      refine list52 (a := s.1) (bc.old oh) (by omega) hsc (fun va h7 o7 vc hva => ?_)
      have hon : onS (gList c) [] s = gList c s.1 := by unfold onS; rw [if_pos hx]
      have hgl := (gList_le (c := c) hsc).1
      have cs := cl_set4 (vs := vs) (by omega) (.int .u16 B0) (.int .u64 b1) (.int .u32 B2) (.int .u32 B3) .nils va
      rw [hvl] at cs
      simp -implicitDefEqProofs [hix, vc, cs, w1]
      refine .mk (m := m - 1) (by omega) ?_
      rw [hI]
      have hLl : L.length = u := by have := stMany_len (f := onS (gList c) []) u (rd4 c).2; rw [hst] at this; exact this
      refine ⟨u + 1, (gList c s.1).2, L ++ [(gList c s.1).1], vs ++ [va], .dead, by omega, ?_, by simp [hvl], hgl, oh.trans o7, fun h0 j hj => ?_, rfl⟩
      · rw [stMany_snoc, hst]
        simp only
        rw [hon]
      · rcases (show j < u ∨ j = u by omega) with hj | rfl
        · have := (hmi hx j hj).keep o7
          simp only [List.getD_eq_getElem?_getD] at this ⊢
          rw [List.getElem?_append_left (by omega), List.getElem?_append_left (by omega)]
          exact this
        · have := (hva h0).base oh.1
          simp only [List.getD_eq_getElem?_getD]
          rw [List.getElem?_append_right (by omega), List.getElem?_append_right (by omega), hLl, hvl, Nat.sub_self]
          exact this
    · have hlt' : ¬ (u : Int) < 16 := by omega
      have hu : u = 16 := by omega
      subst hu
      have hrl : rdL c = (L, s) := by rw [rdL]; exact hst
      simp -implicitDefEqProofs [hlt, hlt']
      exact tail2 _ _ h' s vs oh (by rw [hrl]) (fun _ => ⟨hvl, by rw [hrl]; exact hmi hx⟩) hsc
  obtain ⟨I, hI⟩ : ∃ I : Nat → List AVal → AHeap → Prop, I = fun m env h' => h' = h5 ∧ ∃ (i b0 b1 b2 b3 : Nat) (z74 : AVal), i ≤ 4 ∧ i + m = 4 ∧ (b0 < 2 ^ 63 ∧ b1 < 2 ^ 63 ∧ b2 < 2 ^ 63 ∧ b3 < 2 ^ 63) ∧ ((rdS c i).2 = 0 → (0 < i → b0 = (rd1 c).1) ∧ (1 < i → b1 = (rd2 c).1) ∧ (2 < i → b2 = (rd3 c).1) ∧ (3 < i → b3 = (rd4 c).1)) ∧ (rdS c i).1 ≤ c.length ∧ env = (.dead :: .dead :: .cell (.int .u16 0 :: .int .u64 0 :: .int .u32 0 :: .int .u32 0 :: List.replicate 17 .nils) :: .dead :: v4 :: .cell [.int .u64 65535, .int .u64 1099511627776, .int .u64 268435456, .int .u64 268435457] :: .cell [.int .u64 (b0 : Nat), .int .u64 (b1 : Nat), .int .u64 (b2 : Nat), .int .u64 (b3 : Nat)] :: .int .i64 ((rdS c i).1 : Nat) :: .int .i64 ((rdS c i).2 : Nat) :: .int .i64 (i : Nat) :: .dead :: .dead :: .dead :: .dead :: .dead :: .dead :: .dead :: .dead :: .dead :: .dead :: .dead :: .dead :: .dead :: .dead :: .dead :: .dead :: .dead :: .dead :: .dead :: .dead :: .dead :: .dead :: .dead :: .dead :: .dead :: .dead :: .dead :: .dead :: .dead :: .dead :: .dead :: .dead :: .dead :: .dead :: .dead :: .dead :: .dead :: .dead :: .dead :: .dead :: .dead :: .dead :: .dead :: .dead :: .dead :: .dead :: .dead :: .dead :: .dead :: .dead :: .dead :: .dead :: .dead :: .dead :: .dead :: .dead :: .dead :: .dead :: .dead :: .dead :: .dead :: .dead :: .dead :: .dead :: z74 :: .dead :: .dead :: .dead :: .dead :: .dead :: .dead :: .dead :: .dead :: .dead :: .dead :: .dead :: .dead :: .dead :: .dead :: .dead :: .dead :: .dead :: .dead :: .dead :: .dead :: .dead :: .dead :: .dead :: .dead :: .dead :: .dead :: .dead :: .dead :: .dead :: .dead :: .dead :: .dead :: .dead :: .dead :: .dead :: .dead :: .dead :: .dead :: .dead :: .dead :: .dead :: .dead :: .dead :: .dead :: .dead :: .dead :: .dead :: .dead :: .dead :: .dead :: .dead :: .dead :: .dead :: .dead :: .dead :: .dead :: .dead :: .dead :: .dead :: .dead :: .dead :: .dead :: .dead :: .dead :: .dead :: .dead :: .dead :: .dead :: .dead :: .dead :: .dead :: .dead :: .dead :: .dead :: .dead :: .dead :: .dead :: .dead :: .dead :: .dead :: .dead :: .dead :: .dead :: .dead :: .dead :: []) := ⟨_, rfl⟩
  refine loop_of I ?_ 4 (by rw [hI]; exact ⟨rfl, 0, 0, 0, 0, 0, .dead, by omega, rfl, by omega, fun _ => ⟨fun h => by omega, fun h => by omega, fun h => by omega, fun h => by omega⟩, hc4, rfl⟩)
  intro m env h' hi
  rw [hI] at hi
  obtain ⟨rfl, i, b0, b1, b2, b3, z74, hi4, him, hbb, hbv, hpc, rfl⟩ := hi
  obtain ⟨p, hp⟩ : ∃ p, p = rdS c i := ⟨_, rfl⟩
  rw [← hp] at hbv hpc ⊢
  by_cases hx : p.2 = 0
  rotate_left
  · have hx' : ¬ (p.2 : Int) = 0 := by omega
    have hp4 : p = (rd4 c).2 := by rw [hp]; exact rdS_stop i hi4 (by rw [← hp]; exact hx)
    by_cases hlt : i < 4
    · have hlt' : (i : Int) < 4 := by omega
      simp -implicitDefEqProofs [hlt, hlt', hx, hx']
      rw [hp4] at hx hx' ⊢
      exact tail _ _ b0 b1 b2 b3 hbb (fun h => absurd h hx)
    · have hlt' : ¬ (i : Int) < 4 := by omega
      simp -implicitDefEqProofs [hlt, hlt']
      rw [hp4] at hx hx' ⊢
      exact tail _ _ b0 b1 b2 b3 hbb (fun h => absurd h hx)
  obtain ⟨q1, q2, q3, q4⟩ := hbv hx
  have w2 : IntKind.i64.wrap ((i : Int) + 1) = ((i + 1 : Nat) : Int) := by rw [w64 (by omega) (by omega)]; omega
  have ix0 : idxNat (.int .i64 0) 4 = .ok 0 := rfl
  have ix1 : idxNat (.int .i64 1) 4 = .ok 1 := rfl
  have ix2 : idxNat (.int .i64 2) 4 = .ok 2 := rfl
  have ix3 : idxNat (.int .i64 3) 4 = .ok 3 := rfl
  rcases (show i = 0 ∨ i = 1 ∨ i = 2 ∨ i = 3 ∨ i = 4 by omega) with rfl | rfl | rfl | rfl | rfl
  · have wj : IntKind.i64.wrap (0 + 1) = 1 := by decide
    have wk : IntKind.i64.wrap 1 = 1 := by decide
    simp -implicitDefEqProofs [hx, ix0]
    refine readnum43 (a := p.1) (limit := 65535) bc (by omega) (by omega) (by omega) (fun w pp x e2 => ?_)
    have hr : rd1 c = (w, pp, x) := by
      show st c (rdS c 0) 65535 = _
      rw [← hp]; unfold st; rw [if_pos hx, e2]
    have hle := rdNum_le (c := c) (a := p.1) (lim := 65535) hpc
    rw [e2] at hle
    simp only at hle
    simp -implicitDefEqProofs [ix0, wj, wk]
    refine .mk (m := m - 1) (by omega) ?_
    rw [hI]
    refine ⟨rfl, 1, w, b1, b2, b3, .dead, by omega, by omega, ⟨by omega, by omega, by omega, by omega⟩, fun _ => ⟨fun _ => by rw [hr], fun h => by omega, fun h => by omega, fun h => by omega⟩, ?_, ?_⟩
    · rw [show rdS c 1 = (rd1 c).2 from rfl, hr]; exact hle.1
    · rw [show rdS c 1 = (rd1 c).2 from rfl, hr]; rfl
  · have wj : IntKind.i64.wrap (1 + 1) = 2 := by decide
    have wk : IntKind.i64.wrap 2 = 2 := by decide
    simp -implicitDefEqProofs [hx, ix1]
    refine readnum43 (a := p.1) (limit := 1099511627776) bc (by omega) (by omega) (by omega) (fun w pp x e2 => ?_)
    have hr : rd2 c = (w, pp, x) := by
      show st c (rdS c 1) 1099511627776 = _
      rw [← hp]; unfold st; rw [if_pos hx, e2]
    have hle := rdNum_le (c := c) (a := p.1) (lim := 1099511627776) hpc
    rw [e2] at hle
    simp only at hle
    simp -implicitDefEqProofs [ix1, wj, wk]
    refine .mk (m := m - 1) (by omega) ?_
    rw [hI]
    refine ⟨rfl, 2, b0, w, b2, b3, .dead, by omega, by omega, ⟨by omega, by omega, by omega, by omega⟩, fun _ => ⟨fun _ => q1 (by omega), fun _ => by rw [hr], fun h => by omega, fun h => by omega⟩, ?_, ?_⟩
    · rw [show rdS c 2 = (rd2 c).2 from rfl, hr]; exact hle.1
    · rw [show rdS c 2 = (rd2 c).2 from rfl, hr]; rfl
  · have wj : IntKind.i64.wrap (2 + 1) = 3 := by decide
    have wk : IntKind.i64.wrap 3 = 3 := by decide
    simp -implicitDefEqProofs [hx, ix2]
    refine readnum43 (a := p.1) (limit := 268435456) bc (by omega) (by omega) (by omega) (fun w pp x e2 => ?_)
    have hr : rd3 c = (w, pp, x) := by
      show st c (rdS c 2) 268435456 = _
      rw [← hp]; unfold st; rw [if_pos hx, e2]
    have hle := rdNum_le (c := c) (a := p.1) (lim := 268435456) hpc
    rw [e2] at hle
    simp only at hle
    simp -implicitDefEqProofs [ix2, wj, wk]
    refine .mk (m := m - 1) (by omega) ?_
    rw [hI]
    refine ⟨rfl, 3, b0, b1, w, b3, .dead, by omega, by omega, ⟨by omega, by omega, by omega, by omega⟩, fun _ => ⟨fun _ => q1 (by omega), fun _ => q2 (by omega), fun _ => by rw [hr], fun h => by omega⟩, ?_, ?_⟩
    · rw [show rdS c 3 = (rd3 c).2 from rfl, hr]; exact hle.1
    · rw [show rdS c 3 = (rd3 c).2 from rfl, hr]; rfl
  · have wj : IntKind.i64.wrap (3 + 1) = 4 := by decide
    have wk : IntKind.i64.wrap 4 = 4 := by decide
    simp -implicitDefEqProofs [hx, ix3]
    refine readnum43 (a := p.1) (limit := 268435457) bc (by omega) (by omega) (by omega) (fun w pp x e2 => ?_)
    have hr : rd4 c = (w, pp, x) := by
      show st c (rdS c 3) 268435457 = _
      rw [← hp]; unfold st; rw [if_pos hx, e2]
    have hle := rdNum_le (c := c) (a := p.1) (lim := 268435457) hpc
    rw [e2] at hle
    simp only at hle
    simp -implicitDefEqProofs [ix3, wj, wk]
    refine .mk (m := m - 1) (by omega) ?_
    rw [hI]
    refine ⟨rfl, 4, b0, b1, b2, w, .dead, by omega, by omega, ⟨by omega, by omega, by omega, by omega⟩, fun _ => ⟨fun _ => q1 (by omega), fun _ => q2 (by omega), fun _ => q3 (by omega), fun _ => by rw [hr]⟩, ?_, ?_⟩
    · rw [show rdS c 4 = (rd4 c).2 from rfl, hr]; exact hle.1
    · rw [show rdS c 4 = (rd4 c).2 from rfl, hr]; rfl
  · have hp4 : p = (rd4 c).2 := hp
    simp -implicitDefEqProofs [hx]
    rw [hp4] at hx ⊢
    have tl := fun z => tail (.int .i64 4) z b0 b1 b2 b3 hbb (fun _ => ⟨q1 (by omega), q2 (by omega), q3 (by omega), q4 (by omega)⟩)
    simp only [hx] at tl
    exact tl _
end
end Go.Proofs.Ytomhcjiefmaopaa
set_option linter.all false
set_option maxRecDepth 100000
set_option maxHeartbeats 4000000
namespace Go.Proofs.Ytomhcjiefmaopaa
open Go Go.RowKit Go.Proofs
theorem rdGo_mono {bs : List UInt8} {a L L' : Nat} (hL : L ≤ L') : ∀ f k n, (rdGo bs a L f k n).2.2 = 0 → rdGo bs a L' f k n = rdGo bs a L f k n
  | 0, k, n, h => rfl
  | f + 1, k, n, h => by
    simp only [rdGo] at h ⊢
    cases hb : bs[a + k]? with
    | none => simp [hb] at h
    | some c =>
      simp only [hb] at h ⊢
      by_cases h1 : c.toNat < 128
      · simp only [h1, if_true] at h ⊢
        by_cases h2 : c.toNat = 0 ∧ 0 < k
        · simp only [h2, and_self, if_true] at h ⊢
        · simp only [h2, if_false] at h ⊢
          by_cases h3 : L < n + c.toNat % 128 * 128 ^ k
          · simp [h3] at h
          · have h4 : ¬ L' < n + c.toNat % 128 * 128 ^ k := by omega
            simp only [h3, h4, if_false]
      · simp only [h1, if_false] at h ⊢
        exact rdGo_mono hL f (k + 1) _ h
/-- a reader that finds `x` where its text `t` lies -/
def Right {α : Type} (c : List UInt8) (f : Nat → α × Nat × Nat) (t : List UInt8) (x : α) : Prop := ∀ pre post, c = pre ++ (t ++ post) → (f pre.length).2.2 = 0 → f pre.length = (x, (pre ++ t).length, 0)
theorem right_num {c : List UInt8} {m L : Nat} (hm : m < 2 ^ 63) : Right c (fun a => rdNum c a L) (numS m) m := by
  intro pre post hc h0
  have h128 : m < 128 ^ 9 := by omega
  have h1 := rdNum_num (pre := pre) (post := post) (m := m) (limit := max L m) h128 (Nat.le_max_right _ _)
  rw [← hc] at h1
  have h2 : rdNum c pre.length (max L m) = rdNum c pre.length L := rdGo_mono (Nat.le_max_left _ _) 9 0 0 h0
  show rdNum c pre.length L = _
  rw [← h2, h1]
  simp
theorem right_many {α : Type} {c : List UInt8} {f : Nat → α × Nat × Nat} {e : α → List UInt8} : ∀ (xs : List α), (∀ x ∈ xs, Right c f (e x) x) → Right c (gMany f xs.length) (xs.flatMap e) xs
  | [], _ => by intro pre post hc h0; simp [gMany]
  | x :: xs, h => by
    intro pre post hc h0
    rw [List.length_cons, gMany_step] at h0 ⊢
    simp only [List.flatMap_cons, List.append_assoc] at hc
    by_cases he : (f pre.length).2.2 = 0
    · have hx := h x (by simp) pre (xs.flatMap e ++ post) hc he
      rw [if_neg (by omega)] at h0 ⊢
      rw [hx] at h0 ⊢
      simp only at h0 ⊢
      have ih := right_many xs (fun y hy => h y (by simp [hy])) (pre ++ e x) post (by rw [hc]; simp) h0
      rw [ih]
      simp
    · rw [if_pos he] at h0
      exact absurd h0 he
theorem right_list {c : List UInt8} {l : List Nat} (hn : ∀ n ∈ l, n < 2 ^ 32) (hl : l.length < 2 ^ 63) : Right c (gList c) (lstS l) l := by
  intro pre post hc h0
  unfold lstS at hc
  rw [List.append_assoc] at hc
  unfold gList at h0 ⊢
  by_cases he : (rdNum c pre.length 64).2.2 = 0
  · have h1 := right_num (c := c) (L := 64) hl pre _ hc he
    simp only at h1
    rw [if_neg (by omega)] at h0 ⊢
    rw [h1] at h0 ⊢
    simp only at h0 ⊢
    have ih := right_many (c := c) (f := gNum c) (e := numS) l (fun n hm => right_num (by have := hn n hm; omega)) (pre ++ numS l.length) post (by rw [hc]; simp) h0
    rw [ih]
    simp [lstS]
  · rw [if_pos he] at h0
    exact absurd h0 he
theorem right_text {c : List UInt8} {t : List UInt8} (ht : t.length < 2 ^ 63) : Right c (gText c) (txtS t) t := by
  intro pre post hc h0
  unfold txtS at hc
  rw [List.append_assoc] at hc
  unfold gText at h0 ⊢
  by_cases he : (rdNum c pre.length 1048576).2.2 = 0
  · have h1 := right_num (c := c) (L := 1048576) ht pre _ hc he
    simp only at h1
    rw [if_neg (by omega)] at h0 ⊢
    rw [h1] at h0 ⊢
    simp only at h0 ⊢
    have hlen : c.length - (pre ++ numS t.length).length = t.length + post.length := by rw [hc]; simp; omega
    rw [hlen, if_neg (by omega)]
    have hd : c.drop (pre ++ numS t.length).length = t ++ post := by
      rw [hc, ← List.append_assoc]
      exact List.drop_left
    rw [hd]
    simp [txtS]
    omega
  · rw [if_pos he] at h0
    exact absurd h0 he
theorem right_sent {c : List UInt8} {l : List (List UInt8)} (hn : ∀ t ∈ l, t.length < 2 ^ 63) (hl : l.length < 2 ^ 63) : Right c (gSent c) (numS l.length ++ l.flatMap txtS) l := by
  intro pre post hc h0
  rw [List.append_assoc] at hc
  unfold gSent at h0 ⊢
  by_cases he : (rdNum c pre.length 65536).2.2 = 0
  · have h1 := right_num (c := c) (L := 65536) hl pre _ hc he
    simp only at h1
    rw [if_neg (by omega)] at h0 ⊢
    rw [h1] at h0 ⊢
    simp only at h0 ⊢
    have ih := right_many (c := c) (f := gText c) (e := txtS) l (fun t hm => right_text (hn t hm)) (pre ++ numS l.length) post (by rw [hc]; simp) h0
    rw [ih]
    simp
  · rw [if_pos he] at h0
    exact absurd h0 he
theorem right_st {α : Type} {c : List UInt8} {f : Nat → α × Nat × Nat} {z : α} {e : α → List UInt8} : ∀ (xs : List α) (pre post : List UInt8), (∀ x ∈ xs, Right c f (e x) x) → c = pre ++ (xs.flatMap e ++ post) → (stMany (onS f z) xs.length (pre.length, 0)).2.2 = 0 → stMany (onS f z) xs.length (pre.length, 0) = (xs, (pre ++ xs.flatMap e).length, 0)
  | [], pre, post, _, hc, h0 => by simp [stMany]
  | x :: xs, pre, post, h, hc, h0 => by
    rw [List.length_cons, stMany] at h0 ⊢
    simp only [List.flatMap_cons, List.append_assoc] at hc
    have ho : onS f z (pre.length, 0) = f pre.length := by simp [onS]
    rw [ho] at h0 ⊢
    have he : (f pre.length).2.2 = 0 := by
      rcases Nat.eq_zero_or_pos (f pre.length).2.2 with h1 | h1
      · exact h1
      · rw [stMany_stop _ _ (by omega)] at h0; exact h0
    have hx := h x (by simp) pre (xs.flatMap e ++ post) hc he
    rw [hx] at h0 ⊢
    simp only at h0 ⊢
    have ih := right_st (z := z) xs (pre ++ e x) post (fun y hy => h y (by simp [hy])) (by rw [hc]; simp) h0
    rw [ih]
    simp
theorem dec_body {s : Sta} (ok : s.Ok) (hf : ∀ l ∈ s.lists, l.length ≤ 100) (hs : s.sent.length ≤ 30) (ht : ∀ t ∈ s.sent, t.length ≤ 500) (h0 : decE (bodyA s) = 0) : decV (bodyA s) = s := by
  obtain ⟨c, hc⟩ : ∃ c, c = bodyA s := ⟨_, rfl⟩
  rw [← hc] at h0 ⊢
  have eT : (rdT c).2.2 = 0 := by
    rw [decE_eq] at h0
    by_cases h : (rdT c).2.2 = 0 ∧ (rdT c).2.1 < c.length
    · rw [if_pos h] at h0; omega
    · rw [if_neg h] at h0; exact h0
  have eL : (rdL c).2.2 = 0 := on_err (by rw [← rdT]; exact eT)
  have e4 : (rd4 c).2.2 = 0 := by
    rcases Nat.eq_zero_or_pos (rd4 c).2.2 with h1 | h1
    · exact h1
    · rw [rdL, stMany_stop _ _ (by omega)] at eL; exact eL
  have e3 : (rd3 c).2.2 = 0 := on_err (by rw [← st_on]; exact e4)
  have e2 : (rd2 c).2.2 = 0 := on_err (by rw [← st_on]; exact e3)
  have e1 : (rd1 c).2.2 = 0 := on_err (by rw [← st_on]; exact e2)
  have hb : c = [67, 80, 65, 1] ++ (numS s.r ++ (numS s.clock ++ (numS s.n ++ (numS s.next ++ (s.lists.flatMap lstS ++ ((numS s.sent.length ++ s.sent.flatMap txtS) ++ [])))))) := by
    rw [hc]; unfold bodyA headS; simp only [List.append_assoc, List.append_nil]
  have b1 := ok.r; have b2 := ok.clock; have b3 := ok.n; have b4 := ok.next
  have f1 : rd1 c = (s.r, ([67, 80, 65, 1] ++ numS s.r).length, 0) := by
    have := right_num (c := c) (m := s.r) (L := 65535) (by omega) [67, 80, 65, 1] _ hb (by simpa [rd1, st] using e1)
    simpa [rd1, st] using this
  have f2 : rd2 c = (s.clock, (([67, 80, 65, 1] ++ numS s.r) ++ numS s.clock).length, 0) := by
    have hs2 : rd2 c = rdNum c ([67, 80, 65, 1] ++ numS s.r).length 1099511627776 := by unfold rd2 st; rw [f1]; simp
    rw [hs2] at e2 ⊢
    exact right_num (c := c) (m := s.clock) (L := 1099511627776) (by omega) _ _ (by rw [List.append_assoc]; exact hb) e2
  have f3 : rd3 c = (s.n, ((([67, 80, 65, 1] ++ numS s.r) ++ numS s.clock) ++ numS s.n).length, 0) := by
    have hs2 : rd3 c = rdNum c (([67, 80, 65, 1] ++ numS s.r) ++ numS s.clock).length 268435456 := by unfold rd3 st; rw [f2]; simp
    rw [hs2] at e3 ⊢
    exact right_num (c := c) (m := s.n) (L := 268435456) (by omega) _ _ (by simp only [List.append_assoc]; simpa only [List.append_assoc] using hb) e3
  have f4 : rd4 c = (s.next, (((([67, 80, 65, 1] ++ numS s.r) ++ numS s.clock) ++ numS s.n) ++ numS s.next).length, 0) := by
    have hs2 : rd4 c = rdNum c ((([67, 80, 65, 1] ++ numS s.r) ++ numS s.clock) ++ numS s.n).length 268435457 := by unfold rd4 st; rw [f3]; simp
    rw [hs2] at e4 ⊢
    exact right_num (c := c) (m := s.next) (L := 268435457) (by omega) _ _ (by simp only [List.append_assoc]; simpa only [List.append_assoc] using hb) e4
  obtain ⟨P, hP⟩ : ∃ P, P = (((([67, 80, 65, 1] : List UInt8) ++ numS s.r) ++ numS s.clock) ++ numS s.n) ++ numS s.next := ⟨_, rfl⟩
  have hb5 : c = P ++ (s.lists.flatMap lstS ++ ((numS s.sent.length ++ s.sent.flatMap txtS) ++ [])) := by
    rw [hP]; simp only [List.append_assoc]; simpa only [List.append_assoc] using hb
  rw [← hP] at f4
  have f5 : rdL c = (s.lists, (P ++ s.lists.flatMap lstS).length, 0) := by
    have hs2 : rdL c = stMany (onS (gList c) []) s.lists.length (P.length, 0) := by unfold rdL; rw [f4, ok.len]
    rw [hs2] at eL ⊢
    exact right_st s.lists P _ (fun l hl => right_list (ok.nums l hl) (by have := hf l hl; omega)) hb5 eL
  have f6 : (rdT c).1 = s.sent := by
    have hs2 : rdT c = gSent c (P ++ s.lists.flatMap lstS).length := by unfold rdT onS; rw [f5]; simp
    rw [hs2] at eT ⊢
    have := right_sent (c := c) (l := s.sent) (fun t h => by have := ht t h; omega) (by omega) (P ++ s.lists.flatMap lstS) [] (by rw [List.append_assoc]; exact hb5) eT
    rw [this]
  unfold decV
  rw [f1, f2, f3, f4, f5, f6]
end Go.Proofs.Ytomhcjiefmaopaa
set_option linter.all false
set_option maxRecDepth 100000
set_option maxHeartbeats 4000000
namespace Go.Proofs.Ytomhcjiefmaopaa
open Go Go.RowKit Go.Proofs
section
variable {ro : Nat → Option (List AVal)}
theorem numbers54 {h : AHeap} {x y : AVal} {l : List Nat} (hx : Sl (cfgR ro) h 1 x (u32s l)) (hy : Sl (cfgR ro) h 1 y (u32s l)) (hn : l.length < 2 ^ 62) {Q : AVal → AHeap → Prop} (hq : Q (.bool true) h) : Ev (cfgR ro) 54 [x, y] h Q := by
  refine Ev.wp rfl rfl Try.func54 rfl ?_
  have hL : lenR (cfgR ro) h 44 x = .ok (.int .i64 l.length) := by have := hx.lenR (t := 44) un44; rw [u32s_len] at this; exact this
  have hL2 : lenR (cfgR ro) h 44 y = .ok (.int .i64 l.length) := by have := hy.lenR (t := 44) un44; rw [u32s_len] at this; exact this
  have hX : ∀ i, i < l.length → indexAddrR Try.prog 44 x (.int .i64 (i : Int)) = .ok (elp x 1 i) := fun i hi => hx.idx un44 sz40 (by rw [u32s_len]; exact hi)
  have hX2 : ∀ i, i < l.length → indexAddrR Try.prog 44 y (.int .i64 (i : Int)) = .ok (elp y 1 i) := fun i hi => hy.idx un44 sz40 (by rw [u32s_len]; exact hi)
  have hA : ∀ i (hi : i < l.length), loadR (cfgR ro) h 40 (elp x 1 i) = .ok (.int .u32 (l.getD i 0 : Nat)) := fun i hi => hx.load1 (u32s_get hi) rfl ag40
  have hA2 : ∀ i (hi : i < l.length), loadR (cfgR ro) h 40 (elp y 1 i) = .ok (.int .u32 (l.getD i 0 : Nat)) := fun i hi => hy.load1 (u32s_get hi) rfl ag40
  simp -implicitDefEqProofs [Try.f54, hL, hL2]
  obtain ⟨I, hI⟩ : ∃ I : Nat → List AVal → AHeap → Prop, I = fun m env h' => h' = h ∧ ∃ i : Nat, i + m = l.length ∧ env = (x :: y :: .dead :: .dead :: .dead :: .dead :: .dead :: .dead :: .dead :: .dead :: .dead :: .dead :: .int .i64 (l.length : Nat) :: .int .i64 (i : Nat) :: .dead :: .dead :: .dead :: .dead :: .dead :: .dead :: .dead :: .dead :: .dead :: .dead :: .dead :: .dead :: []) := ⟨_, rfl⟩
  refine loop_of I ?_ l.length (by rw [hI]; exact ⟨rfl, 0, by omega, rfl⟩)
  intro m env h' hi
  rw [hI] at hi
  obtain ⟨rfl, i, him, rfl⟩ := hi
  by_cases hlt : i < l.length
  · have hlt' : (i : Int) < (l.length : Int) := by omega
    have w1 : IntKind.i64.wrap ((i : Int) + 1) = ((i + 1 : Nat) : Int) := by rw [w64 (by omega) (by omega)]; omega
    have a1 := hA i hlt
    have a2 := hA2 i hlt
    generalize l.getD i 0 = z at a1 a2
    simp -implicitDefEqProofs [hlt, hlt', hX i hlt, hX2 i hlt, a1, a2, w1]
    refine .mk (m := m - 1) (by omega) ?_
    rw [hI]
    exact ⟨rfl, i + 1, by omega, rfl⟩
  · have hlt' : ¬ (i : Int) < (l.length : Int) := by omega
    simp -implicitDefEqProofs [hlt, hlt']
    exact hq

theorem same21 {h : AHeap} {sv tv : AVal} {ls ks : List AVal} {s : Sta} (m : RfM (cfgR ro) h sv ls s) (k : RfM (cfgR ro) h tv ks s) (hf : ∀ i, (s.lists.getD i []).length < 2 ^ 62) (hs : s.sent.length < 2 ^ 62) {Q : AVal → AHeap → Prop} (hq : Q (.bool true) h) : Ev (cfgR ro) 21 [.agg (rfL sv ls s), .agg (rfL tv ks s)] h Q := by
  refine Ev.wp rfl rfl Try.func21 rfl ?_
  have hl := m.len
  have hl2 := k.len
  simp only [rfL]
  have n16 := last_nth hl sv
  have n16' := last_nth hl2 tv
  have hL : lenR (cfgR ro) h 52 sv = .ok (.int .i64 (s.sent.length : Nat)) := by have := m.sent.lenR (t := 52) un52; simpa using this
  have hL2 : lenR (cfgR ro) h 52 tv = .ok (.int .i64 (s.sent.length : Nat)) := by have := k.sent.lenR (t := 52) un52; simpa using this
  simp -implicitDefEqProofs [Try.f21, n16, n16', hL, hL2, hl, hl2]
  obtain ⟨I, hI⟩ : ∃ I : Nat → List AVal → AHeap → Prop, I = fun m env h' => h' = h ∧ ∃ i : Nat, i + m = 16 ∧ env = (.dead :: .dead :: .cell (.int .u16 s.r :: .int .u64 s.clock :: .int .u32 s.n :: .int .u32 s.next :: (ls ++ [sv])) :: .cell (.int .u16 s.r :: .int .u64 s.clock :: .int .u32 s.n :: .int .u32 s.next :: (ks ++ [tv])) :: .dead :: .dead :: .dead :: .dead :: .dead :: .dead :: .dead :: .dead :: .dead :: .dead :: .dead :: .dead :: .dead :: .dead :: .dead :: .dead :: .dead :: .dead :: .dead :: .dead :: .dead :: .dead :: .dead :: .dead :: .dead :: .dead :: .dead :: .dead :: .dead :: .dead :: .dead :: .dead :: .dead :: .dead :: .dead :: .dead :: .dead :: .dead :: .int .i64 (i : Nat) :: .dead :: .dead :: .dead :: .dead :: .dead :: .dead :: .dead :: .dead :: .dead :: .dead :: .dead :: .dead :: .dead :: .dead :: .dead :: .dead :: .dead :: .dead :: .dead :: .dead :: .dead :: .dead :: .dead :: .dead :: .dead :: .dead :: .dead :: .dead :: .dead :: .dead :: .dead :: []) := ⟨_, rfl⟩
  refine loop_of I ?_ 16 (by rw [hI]; exact ⟨rfl, 0, by omega, rfl⟩)
  intro m2 env h' hi
  rw [hI] at hi
  obtain ⟨rfl, i, him, rfl⟩ := hi
  by_cases hlt : i < 16
  · have hlt' : (i : Int) < 16 := by omega
    have w1 : IntKind.i64.wrap ((i : Int) + 1) = ((i + 1 : Nat) : Int) := by rw [w64 (by omega) (by omega)]; omega
    have hix : idxNat (.int .i64 (i : Int)) 16 = .ok i := ix_nat hlt
    have hn4 := nth4 (ls := ls) (k := i) (by omega) (.int .u16 s.r) (.int .u64 s.clock) (.int .u32 s.n) (.int .u32 s.next) sv
    have hn5 := nth4 (ls := ks) (k := i) (by omega) (.int .u16 s.r) (.int .u64 s.clock) (.int .u32 s.n) (.int .u32 s.next) tv
    have sx := m.lst i (by omega)
    have sy := k.lst i (by omega)
    have hfi := hf i
    generalize s.lists.getD i [] = l at sx sy hfi
    generalize ls.getD i .dead = x at sx hn4
    generalize ks.getD i .dead = y at sy hn5
    simp -implicitDefEqProofs [hlt, hlt', hix, hn4, hn5]
    refine numbers54 sx sy hfi ?_
    simp -implicitDefEqProofs [w1]
    refine .mk (m := m2 - 1) (by omega) ?_
    rw [hI]
    exact ⟨rfl, i + 1, by omega, rfl⟩
  · have hlt' : ¬ (i : Int) < 16 := by omega
    simp -implicitDefEqProofs [hlt, hlt', n16, n16', hL, hl]
    obtain ⟨J, hJ⟩ : ∃ J : Nat → List AVal → AHeap → Prop, J = fun m env h3 => h3 = h' ∧ ∃ i : Nat, i + m = s.sent.length ∧ env = (.dead :: .dead :: .cell (.int .u16 s.r :: .int .u64 s.clock :: .int .u32 s.n :: .int .u32 s.next :: (ls ++ [sv])) :: .cell (.int .u16 s.r :: .int .u64 s.clock :: .int .u32 s.n :: .int .u32 s.next :: (ks ++ [tv])) :: .dead :: .dead :: .dead :: .dead :: .dead :: .dead :: .dead :: .dead :: .dead :: .dead :: .dead :: .dead :: .dead :: .dead :: .dead :: .dead :: .dead :: .dead :: .dead :: .dead :: .dead :: .dead :: .dead :: .dead :: .dead :: .dead :: .dead :: .dead :: .dead :: .dead :: .dead :: .dead :: .dead :: .dead :: .dead :: .dead :: .dead :: .dead :: .dead :: .dead :: .dead :: .dead :: .dead :: .dead :: .dead :: .dead :: .dead :: .dead :: .dead :: .dead :: .dead :: .dead :: .dead :: .dead :: .int .i64 (s.sent.length : Nat) :: .int .i64 (i : Nat) :: .dead :: .dead :: .dead :: .dead :: .dead :: .dead :: .dead :: .dead :: .dead :: .dead :: .dead :: .dead :: .dead :: .dead :: []) := ⟨_, rfl⟩
    refine loop_of J ?_ s.sent.length (by rw [hJ]; exact ⟨rfl, 0, by omega, rfl⟩)
    intro m3 env h5 hj
    rw [hJ] at hj
    obtain ⟨rfl, j, hjm, rfl⟩ := hj
    by_cases hj : j < s.sent.length
    · have hj' : (j : Int) < (s.sent.length : Int) := by omega
      have w2 : IntKind.i64.wrap ((j : Int) + 1) = ((j + 1 : Nat) : Int) := by rw [w64 (by omega) (by omega)]; omega
      have hX : indexAddrR Try.prog 52 sv (.int .i64 (j : Int)) = .ok (elp sv 1 j) := m.sent.idx un52 sz9 (by simpa using hj)
      have hX2 : indexAddrR Try.prog 52 tv (.int .i64 (j : Int)) = .ok (elp tv 1 j) := k.sent.idx un52 sz9 (by simpa using hj)
      obtain ⟨z, hz⟩ : ∃ z, z = s.sent.getD j [] := ⟨_, rfl⟩
      have hA : loadR (cfgR ro) h5 9 (elp sv 1 j) = .ok (.str z) := m.sent.load1 (e := [.str z]) (by rw [hz, List.getElem?_map, List.getElem?_eq_getElem hj, List.getD_eq_getElem?_getD, List.getElem?_eq_getElem hj]; rfl) rfl ag9
      have hA2 : loadR (cfgR ro) h5 9 (elp tv 1 j) = .ok (.str z) := k.sent.load1 (e := [.str z]) (by rw [hz, List.getElem?_map, List.getElem?_eq_getElem hj, List.getD_eq_getElem?_getD, List.getElem?_eq_getElem hj]; rfl) rfl ag9
      simp -implicitDefEqProofs [hj, hj', n16, n16', hX, hX2, hA, hA2, w2, hl, hl2]
      refine .mk (m := m3 - 1) (by omega) ?_
      rw [hJ]
      exact ⟨rfl, j + 1, by omega, rfl⟩
    · have hj' : ¬ (j : Int) < (s.sent.length : Int) := by omega
      simp -implicitDefEqProofs [hj, hj']
      exact hq
def isTrueA (r : Res (AVal × AHeap)) : Bool := match r with
  | .ok (.bool true, _) => true
  | _ => false
theorem isTrueA_ok {r : Res (AVal × AHeap)} (h : isTrueA r = true) : ∃ h', r = .ok (.bool true, h') := by
  unfold isTrueA at h
  split at h
  · exact ⟨_, rfl⟩
  · cases h
end
end Go.Proofs.Ytomhcjiefmaopaa
set_option linter.all false
set_option maxRecDepth 100000
set_option maxHeartbeats 4000000
namespace Go.Proofs.Ytomhcjiefmaopaa
open Go Go.RowKit Go.Proofs
section
variable {ro : Nat → Option (List AVal)}
theorem anchor14 : ∃ h', Run (cfgR ro) 14 [] heap0 (.bool true) h' := by
  have h : isTrueA (callF (cfgR ro) 1000 14 [] heap0) = true := by kernel_rfl
  obtain ⟨h', e⟩ := isTrueA_ok h
  exact ⟨h', 1000, e⟩
end
end Go.Proofs.Ytomhcjiefmaopaa
set_option linter.all false
set_option maxRecDepth 100000
set_option maxHeartbeats 4000000
namespace Go.Proofs.Ytomhcjiefmaopaa
open Go Go.RowKit Go.Proofs
section
variable {ro : Nat → Option (List AVal)}
def sta0 : Sta := ⟨0, 0, 0, 0, [], List.replicate 16 []⟩
theorem zero_st : zeroA = stA .nils (List.replicate 16 .nils) sta0 := rfl
theorem rep16 (i : Nat) (hi : i < 16) : (List.replicate 16 AVal.nils).getD i .dead = .nils := by
  rw [List.getD_eq_getElem?_getD, List.getElem?_replicate, if_pos hi]; rfl
theorem rep16' (i : Nat) : (List.replicate 16 ([] : List Nat)).getD i [] = [] := by
  rw [List.getD_eq_getElem?_getD, List.getElem?_replicate]
  split <;> rfl
theorem zero_stm (h : AHeap) : StM (cfgR ro) h .nils (List.replicate 16 .nils) [] sta0 := by
  refine ⟨by simp, fun i hi => ?_, Sl.nil, rfl, fun i hi => by simp [sta0] at hi⟩
  rw [rep16 i hi]
  show Sl _ _ _ _ (u32s ((List.replicate 16 ([] : List Nat)).getD i []))
  rw [rep16']
  exact Sl.nil
theorem zero_rfm (h : AHeap) : RfM (cfgR ro) h .nils (List.replicate 16 .nils) sta0 := by
  refine ⟨by simp, fun i hi => ?_, Sl.nil⟩
  rw [rep16 i hi]
  show Sl _ _ _ _ (u32s ((List.replicate 16 ([] : List Nat)).getD i []))
  rw [rep16']
  exact Sl.nil
theorem zero_rf : zeroA = rfL .nils (List.replicate 16 .nils) sta0 := rfl
theorem enc_len {s : Sta} (ok : s.Ok) (hf : ∀ l ∈ s.lists, l.length ≤ 100) (hs : s.sent.length ≤ 30) (ht : ∀ t ∈ s.sent, t.length ≤ 500) : (encA s).length ≤ 67108864 := by
  have n1 := numS_len 8 s.r (by have := ok.r; omega)
  have n2 := numS_len 8 s.clock (by have := ok.clock; omega)
  have n3 := numS_len 8 s.n (by have := ok.n; omega)
  have n4 := numS_len 8 s.next (by have := ok.next; omega)
  have n5 := numS_len 8 s.sent.length (by omega)
  have hfl := len_flat (f := lstS) (B := 9009) (L := s.lists) (fun l hl => lstS_len (ok.nums l hl) (by have := hf l hl; omega))
  rw [ok.len] at hfl
  have htl := len_flat (f := txtS) (B := 600) (L := s.sent) (fun t hm => by have := ht t hm; have := numS_len 8 t.length (by omega); simp only [txtS, List.length_append]; omega)
  unfold encA sealS bodyA headS
  simp only [List.length_append, List.length_cons, List.length_nil, crc4]
  omega
theorem take_head (s : Sta) : (bodyA s).take 4 = [67, 80, 65, 1] := rfl
theorem decode19' {h : AHeap} {v : AVal} {bs : List UInt8} (hv : BS (cfgR ro) h v bs) (hs : ∀ o f l q, v ≠ .slc o f l q ∧ v ≠ .esl) (hn : bs.length ≤ 67108864) {Q : AVal → AHeap → Prop}
    (hq : ∀ (e : Nat) h' tv ts tvs t, Old h h' → errA bs = e → (e ≠ 0 → t = sta0) → (e = 0 → ∃ c, openS bs = some c ∧ decE c = 0 ∧ t = decV c) → StM (cfgR ro) h' tv ts tvs t → Q (.tuple [.agg (stA tv ts t), .int .i64 e]) h') : Ev (cfgR ro) 19 [v] h Q :=
  decode19 hv hs hn (fun h' hne o => hq (errA bs) h' .nils (List.replicate 16 .nils) [] sta0 o rfl (fun _ => rfl) (fun h => absurd h hne) (zero_stm h'))
    (fun h' c tv ts tvs hop hhd hd0 o mt => hq 0 h' tv ts tvs (decV c) o (by unfold errA; rw [hop]; simp [hhd, hd0]) (fun h => absurd rfl h) (fun _ => ⟨c, hop, hd0, rfl⟩) mt)
theorem read20' {h : AHeap} {v : AVal} {bs : List UInt8} (hv : BS (cfgR ro) h v bs) (hs : notSlc v) (hn : bs.length ≤ 67108864) {Q : AVal → AHeap → Prop}
    (hq : ∀ (e : Nat) h' tv ts t, Old h h' → errA bs = e → (e ≠ 0 → t = sta0) → (e = 0 → ∃ c, openS bs = some c ∧ decE c = 0 ∧ t = decV c) → RfM (cfgR ro) h' tv ts t → Q (.tuple [.agg (rfL tv ts t), .int .i64 e]) h') : Ev (cfgR ro) 20 [v] h Q :=
  read20 hv hs hn (fun h' hne o => hq (errA bs) h' .nils (List.replicate 16 .nils) sta0 o rfl (fun _ => rfl) (fun h => absurd h hne) (zero_rfm h'))
    (fun h' c tv ts hop hhd hd0 o mt => hq 0 h' tv ts (decV c) o (by unfold errA; rw [hop]; simp [hhd, hd0]) (fun h => absurd rfl h) (fun _ => ⟨c, hop, hd0, rfl⟩) mt)
theorem law4 {sv : AVal} {ls svs : List AVal} {s : Sta} (m : ∀ h, StM (cfgR ro) h sv ls svs s) (h1 : s.r < 2 ^ 16) (h3 : s.n < 2 ^ 32) (h4 : s.next < 2 ^ 32) (hl16 : s.lists.length = 16)
    (hn : ∀ l ∈ s.lists, ∀ n ∈ l, n < 2 ^ 32) (hbig : s.sent.length < 2 ^ 63) : Ev (cfgR ro) 4 [.agg (stA sv ls s)] heap0 (fun v h => v = .bool true) := by
  refine Ev.wp rfl rfl Try.func4 rfl ?_
  obtain ⟨ha, hrun⟩ := anchor14 (ro := ro)
  have hl := (m heap0).len
  simp only [stA]
  have t16 : List.take 16 ls = ls := List.take_of_length_le (by omega)
  have l16 : 16 ≤ ls.length := by omega
  simp -implicitDefEqProofs [Try.f4, Ev.run hrun, t16, l16]
  refine few15 (m ha) hl16 hbig (fun b hb => ?_)
  cases b
  · simp -implicitDefEqProofs
  simp -implicitDefEqProofs
  by_cases hc : 1099511627776 < s.clock
  · have hc' : (1099511627776 : Int) < (s.clock : Int) := by omega
    simp -implicitDefEqProofs [hc, hc']
  have hc' : ¬ (1099511627776 : Int) < (s.clock : Int) := by omega
  obtain ⟨f1, f2, f3⟩ := hb rfl
  have ok : s.Ok := ⟨h1, by omega, h3, h4, hl16, hn⟩
  simp -implicitDefEqProofs [hc, hc', t16, l16]
  refine ref16 (m ha) (by omega) (fun v1 h5 o5 m5 => ?_)
  have t17 := last_take hl v1
  simp -implicitDefEqProofs [rfL, hl, t17, t16, l16]
  refine enc17 (m h5) ok f1 f3 f2 (fun v2 h6 o6 b6 => ?_)
  have rx : ∀ h', Old h6 h' → RfM (cfgR ro) h' v1 ls s := fun h' o => ⟨hl, fun i hi => (m h').lst i hi, m5.sl.old (o6.trans o)⟩
  have c6 := b6.cells
  have cv2 := (b6.toBS (c := cfgR ro)).conv (s := 24) (d := 9) (e := 5) un24 un9 un5
  simp -implicitDefEqProofs [-convR, c6, cv2, hl, t17]
  refine bytes18 (rx h6 (Old.refl _)) ok f1 f3 f2 (fun v3 h7 o7 b7 => ?_)
  have cv2' := ((b6.toBS (c := cfgR ro)).old o7).conv (s := 24) (d := 9) (e := 5) un24 un9 un5
  have cv3 := (b7.toBS (c := cfgR ro)).conv (s := 24) (d := 9) (e := 5) un24 un9 un5
  simp -implicitDefEqProofs [-convR, cv2, cv2', cv3, same_self, hl, t17]
  have el := enc_len ok f1 f3 f2
  have hop : openS (encA s) = some (bodyA s) := open_seal _
  have hts : ∀ (e : Nat) (t : Sta), (e ≠ 0 → t = sta0) → (e = 0 → ∃ c, openS (encA s) = some c ∧ decE c = 0 ∧ t = decV c) → t = if e = 0 then s else sta0 := fun e t a b => by
    by_cases h : e = 0
    · obtain ⟨c, c1, c2, c3⟩ := b h
      rw [hop] at c1
      cases c1
      rw [if_pos h, c3, dec_body ok f1 f3 f2 c2]
    · rw [if_neg h, a h]
  refine ⟨.inl (by decide +kernel), ?_⟩
  refine decode19' ((b6.toBS (c := cfgR ro)).old o7) b6.noSlc el (fun e h8 tv ts tvs t o8 he ht1 ht2 mt => ?_)
  have htt := hts e t ht1 ht2
  clear ht1 ht2
  have ht70 : t.sent.length ≤ 30 := by rw [htt]; split; exact f3; exact Nat.zero_le _
  have htl : ∀ i, (t.lists.getD i []).length < 2 ^ 62 := fun i => by
    rw [htt]; split
    · rw [List.getD_eq_getElem?_getD]
      by_cases hi : i < s.lists.length
      · rw [List.getElem?_eq_getElem hi]; have := f1 _ (List.getElem_mem hi); show (s.lists[i]).length < _; omega
      · rw [List.getElem?_eq_none (by omega)]; show 0 < _; omega
    · show ((List.replicate 16 ([] : List Nat)).getD i []).length < _
      rw [rep16']; show 0 < _; omega
  have htlen := mt.len
  have u16 : List.take 16 ts = ts := List.take_of_length_le (by omega)
  have ul16 : 16 ≤ ts.length := by omega
  simp -implicitDefEqProofs [stA, htlen, u16, ul16]
  refine read20' ((b6.toBS (c := cfgR ro)).old (o7.trans o8)) b6.noSlc el (fun e2 h9 wv ws t2 o9 he2 ht1 ht2 mw => ?_)
  have htt2 := hts e2 t2 ht1 ht2
  clear ht1 ht2
  rw [he] at he2
  subst he2
  rw [← htt] at htt2
  subst htt2
  have hwl := mw.len
  have w17 := last_take hwl wv
  have o79 := o7.trans (o8.trans o9)
  simp -implicitDefEqProofs [rfL, hwl, w17, u16, ul16]
  refine ref16 (mt.old o9) (by omega) (fun xv ha2 oa ma => ?_)
  simp -implicitDefEqProofs [w17, hwl]
  refine same21 ⟨htlen, fun i hi => (mt.old (o9.trans oa)).lst i hi, ma.sl⟩ (mw.old oa) htl (by omega) ?_
  by_cases h0 : e = 0
  · rw [if_pos h0] at htt
    subst h0
    subst htt
    simp -implicitDefEqProofs [w17, hwl, t17, hl]
    refine same21 (mw.old oa) (rx ha2 (o79.trans oa)) htl (by omega) ?_
    simp -implicitDefEqProofs
  · have h0' : ¬ (e : Int) = 0 := by omega
    simp -implicitDefEqProofs [h0, h0', w17, hwl, t17, hl]
end
end Go.Proofs.Ytomhcjiefmaopaa
set_option linter.all false
set_option maxRecDepth 100000
set_option maxHeartbeats 4000000
namespace Go.Proofs.Ytomhcjiefmaopaa
open Go Go.RowKit Go.Proofs Go.ChangeShapes Go.WideShapes Go.ChangeAt

theorem nat_of {k : IntKind} {t : Nat} {ro n} {x : List AVal} (ht : Try.prog.underlying t = some (.int k)) (hm : k.min = 0) (h : Rdg Try.prog ro n t x) : ∃ a : Nat, x = [.int k (a : Nat)] ∧ (a : Int) ≤ k.max := by
  obtain ⟨i, h0, l0, u0⟩ := rdg_int ht h
  rw [hm] at l0
  obtain ⟨a, rfl⟩ := Int.eq_ofNat_of_zero_le l0
  exact ⟨a, h0, u0⟩
theorem u32s_of {ro n} : ∀ {ess : List (List AVal)}, (∀ x ∈ ess, x.length = 1 ∧ Rdg Try.prog ro n 40 x) → ∃ l : List Nat, ess = u32s l ∧ ∀ m ∈ l, m < 2 ^ 32
  | [], _ => ⟨[], rfl, by simp⟩
  | x :: ess, h => by
    obtain ⟨a, rfl, ha⟩ := nat_of Try.underlying40 (by decide) (h x (by simp)).2
    obtain ⟨l, rfl, h2⟩ := u32s_of (ess := ess) (fun y hy => h y (by simp [hy]))
    have hx : IntKind.u32.max = 4294967295 := by decide
    rw [hx] at ha
    exact ⟨a :: l, rfl, fun m hm => by rcases List.mem_cons.1 hm with rfl | hm; omega; exact h2 m hm⟩
theorem list_of {ro n} {cs : List AVal} (h : Rdg Try.prog ro n 44 cs) : ∃ (v : AVal) (l : List Nat), cs = [v] ∧ (∀ m ∈ l, m < 2 ^ 32) ∧ ∀ h, Sl (cfgR ro) h 1 v (u32s l) := by
  obtain ⟨v, ess, k, h1, h2, h3, h4⟩ := rdg_slice Try.underlying44 (by rw [co40]; decide) h
  rw [co40] at h3 h4
  obtain ⟨l, rfl, h5⟩ := u32s_of h3
  exact ⟨v, l, h1, h5, fun hh => h4 _ hh rfl⟩
theorem byte_of {ro n} {x : List AVal} (h : Rdg Try.prog ro n 5 x) : ∃ b : UInt8, x = [bcell b] := by
  obtain ⟨a, rfl, ha⟩ := nat_of Try.underlying5 (by decide) h
  have hx : IntKind.u8.max = 255 := by decide
  rw [hx] at ha
  exact ⟨UInt8.ofNat a, by unfold bcell; rw [toNat_ofNat (by omega)]⟩
theorem bytes_of : ∀ {ess : List (List AVal)}, (∀ x ∈ ess, ∃ b : UInt8, x = [bcell b]) → ∃ bs : List UInt8, ess = bes bs
  | [], _ => ⟨[], rfl⟩
  | x :: ess, h => by
    obtain ⟨b, rfl⟩ := h x (by simp)
    obtain ⟨bs, rfl⟩ := bytes_of (ess := ess) (fun y hy => h y (by simp [hy]))
    exact ⟨b :: bs, rfl⟩
theorem text_of {ro n} {x : List AVal} (h : Rdg Try.prog ro n 24 x) : ∃ (v : AVal) (t : List UInt8), x = [v] ∧ ∀ h, BS (cfgR ro) h v t := by
  obtain ⟨v, ess, k, h1, h2, h3, h4⟩ := rdg_slice Try.underlying24 (by rw [co5]; decide) h
  rw [co5] at h3 h4
  obtain ⟨t, rfl⟩ := bytes_of (fun x hx => byte_of (h3 x hx).2)
  exact ⟨v, t, h1, fun hh => h4 _ hh rfl⟩
theorem texts_of {ro n} : ∀ {ess : List (List AVal)}, (∀ x ∈ ess, Rdg Try.prog ro n 24 x) → ∃ (svs : List AVal) (ts : List (List UInt8)), ess = svs.map (fun v => [v]) ∧ svs.length = ts.length ∧ ∀ i, i < ts.length → ∀ h, BS (cfgR ro) h (svs.getD i .dead) (ts.getD i [])
  | [], _ => ⟨[], [], rfl, rfl, fun i hi => by simp at hi⟩
  | x :: ess, h => by
    obtain ⟨v, t, rfl, h1⟩ := text_of (h x (by simp))
    obtain ⟨svs, ts, rfl, h2, h3⟩ := texts_of (ess := ess) (fun y hy => h y (by simp [hy]))
    refine ⟨v :: svs, t :: ts, rfl, by simp [h2], fun i hi hh => ?_⟩
    cases i with
    | zero => exact h1 hh
    | succ i => simpa using h3 i (by simpa using hi) hh
theorem two_lists {ro n} {x : List AVal} (h : Rdg Try.prog ro n 46 x) : ∃ (a b : AVal) (l k : List Nat), x = [a, b] ∧ (∀ m ∈ l, m < 2 ^ 32) ∧ (∀ m ∈ k, m < 2 ^ 32) ∧ (∀ h, Sl (cfgR ro) h 1 a (u32s l)) ∧ ∀ h, Sl (cfgR ro) h 1 b (u32s k) := by
  obtain ⟨hl, m, hf⟩ := rdg_struct Try.underlying46 h
  rw [co46] at hl
  obtain ⟨a, b, rfl⟩ : ∃ a b, x = [a, b] := by
    match x, hl with
    | [a, b], _ => exact ⟨a, b, rfl⟩
  obtain ⟨v, l, e1, e2, e3⟩ := list_of (hf 0 _ rfl)
  obtain ⟨w, k, g1, g2, g3⟩ := list_of (hf 1 _ rfl)
  simp at e1 g1
  subst e1 g1
  exact ⟨_, _, l, k, rfl, e2, g2, e3, g3⟩
/-- the sixteen lists: two by two -/
theorem many_lists {ro n} : ∀ (m : Nat) (cs : List AVal), cs.length = m * 2 → (∀ i, i < m → Rdg Try.prog ro n 46 ((cs.drop (i * 2)).take 2)) →
    ∃ L : List (List Nat), L.length = m * 2 ∧ (∀ l ∈ L, ∀ k ∈ l, k < 2 ^ 32) ∧ ∀ i, i < m * 2 → ∀ h, Sl (cfgR ro) h 1 (cs.getD i .dead) (u32s (L.getD i []))
  | 0, cs, hl, h => ⟨[], rfl, by simp, fun i hi => by omega⟩
  | m + 1, cs, hl, h => by
    have h0 := h 0 (by omega)
    obtain ⟨a, b, cs, rfl⟩ : ∃ a b cs', cs = a :: b :: cs' := by
      match cs, hl with
      | [], hl => simp at hl
      | [x], hl => simp at hl; omega
      | a :: b :: cs, _ => exact ⟨a, b, cs, rfl⟩
    simp at h0
    obtain ⟨a', b', l, k, e, e1, e2, e3, e4⟩ := two_lists h0
    cases e
    obtain ⟨L, f1, f2, f3⟩ := many_lists (n := n) m cs (by simp at hl; omega) (fun i hi => by
      have := h (i + 1) (by omega)
      rw [show (i + 1) * 2 = i * 2 + 1 + 1 by omega, List.drop_succ_cons, List.drop_succ_cons] at this
      exact this)
    refine ⟨l :: k :: L, by simp [f1]; omega, fun x hx => ?_, fun i hi hh => ?_⟩
    · simp at hx
      rcases hx with rfl | rfl | hx
      · exact e1
      · exact e2
      · exact f2 x hx
    · match i, hi with
      | 0, _ => exact e3 hh
      | 1, _ => exact e4 hh
      | i + 2, hi => simpa using f3 i (by omega) hh
theorem state_of {ro n} {cs : List AVal} (h : Rdg Try.prog ro n 49 cs) : ∃ (sv : AVal) (ls svs : List AVal) (s : Sta), cs = stA sv ls s ∧ (∀ h, StM (cfgR ro) h sv ls svs s) ∧ s.r < 2 ^ 16 ∧ s.n < 2 ^ 32 ∧ s.next < 2 ^ 32 ∧ s.lists.length = 16 ∧
    (∀ l ∈ s.lists, ∀ n ∈ l, n < 2 ^ 32) ∧ s.sent.length < 2 ^ 63 := by
  obtain ⟨hl, m, hf⟩ := rdg_struct Try.underlying49 h
  rw [co49] at hl
  obtain ⟨c0, c1, c2, c3, c4, ls, rfl, hls⟩ : ∃ c0 c1 c2 c3 c4 ls, cs = c0 :: c1 :: c2 :: c3 :: c4 :: ls ∧ ls.length = 16 := by
    match cs, hl with
    | c0 :: c1 :: c2 :: c3 :: c4 :: ls, hl => exact ⟨c0, c1, c2, c3, c4, ls, rfl, by simpa using hl⟩
  have x32 : IntKind.u32.max = 4294967295 := by decide
  have x16 : IntKind.u16.max = 65535 := by decide
  obtain ⟨_, m2, hs⟩ := rdg_struct Try.underlying42 (hf 0 _ rfl)
  obtain ⟨r, r0, r1⟩ := nat_of Try.underlying38 (by decide) (hs 0 _ rfl)
  obtain ⟨k, k0, k1⟩ := nat_of Try.underlying39 (by decide) (hs 1 _ rfl)
  obtain ⟨nn, n0, n1⟩ := nat_of Try.underlying40 (by decide) (hs 2 _ rfl)
  obtain ⟨nx, x0, x1⟩ := nat_of Try.underlying40 (by decide) (hf 1 _ rfl)
  simp at r0 k0 n0 x0
  subst r0 k0 n0 x0
  rw [x32] at n1 x1
  rw [x16] at r1
  obtain ⟨v, ess, q, h1, h2, h3, h4⟩ := rdg_slice Try.underlying43 (by rw [co24]; decide) (hf 2 _ rfl)
  simp at h1
  subst h1
  rw [co24] at h4
  obtain ⟨svs, ts, rfl, t1, t2⟩ := texts_of (fun x hx => (h3 x hx).2)
  have hf3 := hf 3 _ rfl
  have hdrop : ((AVal.int .u16 (r : Nat) :: .int .u64 (k : Nat) :: .int .u32 (nn : Nat) :: .int .u32 (nx : Nat) :: c4 :: ls).drop 5).take 16 = ls := by
    simp only [List.drop_succ_cons, List.drop_zero]
    exact List.take_of_length_le (by omega)
  have hf4 : Rdg Try.prog ro m 47 (((AVal.int .u16 (r : Nat) :: .int .u64 (k : Nat) :: .int .u32 (nn : Nat) :: .int .u32 (nx : Nat) :: c4 :: ls).drop 5).take (Try.prog.cellsOf 47)) := hf3
  rw [co47, hdrop] at hf4
  obtain ⟨_, q2, h5⟩ := rdg_array Try.underlying47 hf4
  rw [co46] at h5
  obtain ⟨L, f1, f2, f3⟩ := many_lists (n := q2) 8 ls (by omega) h5
  refine ⟨c4, ls, svs, ⟨r, k, nn, nx, ts, L⟩, rfl, fun hh => ⟨hls, fun i hi => f3 i (by omega) hh, h4 _ hh rfl, t1, fun i hi => t2 i hi hh⟩, by show r < _; omega, by show nn < _; omega, by show nx < _; omega, f1, f2, ?_⟩
  show ts.length < _
  simp at h2
  omega

theorem own : ownKnob Try.prog.godebug = none := by kernel_rfl
theorem laidOut : laidOutB Try.prog = true := by kernel_rfl

theorem archive_lifted (os : Os) (started : os.Started) (H : Type) (enc : TypeId × Value → H) :
    ReturnsInHanded {} Try.checked os 4 .any (Ytomhcjiefmaopaa.Rows.archiveBytesSpec.pre6 enc Try.prog Try.f4 Ytomhcjiefmaopaa.Rows.archiveBytesRow.domain false) (Ytomhcjiefmaopaa.Rows.archiveBytesSpec.post enc Try.prog Try.f4 false true false false) := by
  refine returnsInHanded_of_change (C := Try.checked) own started (by kernel_rfl) Try.func4
    (ChangeSpec.witness6 (enc := enc) (C := Try.checked) false ⟨#[], #[.agg (#[.int .u16 0, .int .u64 0, .int .u32 0, .int .u32 0] ++ Array.replicate 17 (.slice none 0 0))], []⟩ 8 (by kernel_rfl) (by kernel_rfl) (by kernel_rfl) (by kernel_rfl)) ?_
  intro W base args ds gs before hval0 hW hcnd _
  have hval : ∀ (j : Nat) t v, Try.f4.params[j]? = some t → args[j]? = some v → Value.okWide Try.prog W .any base t v := hval0
  have hW' := hW
  have hlt := hW.lt
  obtain ⟨p, q, hA0, hV, rfl, hfz, hnd⟩ := hW
  have hA : DataW.TrodAll enc Try.prog W 0 (fun _ => true) true Try.f4.params.toList args.toList ds p := hA0
  have hA1 := hA
  rw [Try.params4] at hA hval
  obtain ⟨v0, d0, rfl, rfl, h0⟩ := trodAll_one hA
  obtain ⟨rfl, rfl⟩ := trodVars_none hV
  obtain ⟨cs, n2, hx1, hx2⟩ := argAgg covAll (of_decide_eq_true (by kernel_rfl)) Try.underlying49 (hval 0 49 v0 rfl rfl) h0
  obtain ⟨sv, ls, svs, s, rfl, m, b1, b2, b3, b4, b5, b6⟩ := state_of hx2
  obtain ⟨k, v, h', hq, rfl⟩ := law4 m b1 b2 b3 b4 b5 b6
  rw [← hx1] at hq
  refine (entry (c := cfg) sureC (W := W) (args := #[v0]) (k := k) (v := .bool true) (h' := h') Try.func4 rfl rfl hq).mono fun e W' ⟨u, ι, he, hv, hb⟩ => ?_
  have hu : u = .bool true := hv
  subst hu
  refine ⟨_, he, post_below hW' (fun b sp hd => trodAll_mk1 (shut_bool Try.underlying4 true)) (trodAll_below laidOut hb (by kernel_rfl) hA1 (fun x hx => hlt x (by simpa using hx))) (by exact rfl) hb⟩

theorem archive_holds : Ytomhcjiefmaopaa.Rows.ArchiveBytesSaid :=
  OpenClaim.holds_of_wide 4 Try.f4 rfl rfl rfl rfl rfl rfl rfl ⟨rfl, rfl, rfl, rfl, rfl⟩ rfl rfl rfl rfl rfl (by kernel_rfl) Try.func4 (by kernel_rfl)
    (of_decide_eq_true (by kernel_rfl)) (by unfold Func.isWrapper; first | (rw [if_pos (by decide +kernel)]; kernel_rfl) | (rw [if_neg (by decide +kernel)]; exact ⟨rfl, rfl⟩))
    (fun os started H enc _ => archive_lifted os started H enc)
end Go.Proofs.Ytomhcjiefmaopaa
