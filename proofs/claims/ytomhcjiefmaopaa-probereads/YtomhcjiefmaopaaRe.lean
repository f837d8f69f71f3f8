/-
  A part of the proof of ProbeReads, over the seat Ytomhcjiefmaopaa: for every input the law returns true, and the input reads as it did.
-/
import Derived.Test.YtomhcjiefmaopaaRd
set_option linter.all false
set_option linter.all false
set_option maxRecDepth 100000
set_option maxHeartbeats 4000000
namespace Go.Proofs.Ytomhcjiefmaopaa
open Go Go.RowKit Go.Proofs
def loopK (c : Cfg) (f : Nat) (a : Code) (K : List AVal → AHeap → Prop) (E : Nat → List AVal → AHeap → Prop) (R : List AVal → AHeap → Prop) (G : Nat → List AVal → AHeap → Prop) (env : List AVal) (h : AHeap) : Prop := Xv c f (.loop a) env h (ends K E R G)
/-- a loop, once -/
theorem loop_un {c : Cfg} {f : Nat} {a : Code} {K : List AVal → AHeap → Prop} {E : Nat → List AVal → AHeap → Prop} {R : List AVal → AHeap → Prop} {G : Nat → List AVal → AHeap → Prop} {env : List AVal} {h : AHeap}
    (q : wp c f a (loopK c f a K E R G) E R G env h) : Xv c f (.loop a) env h (ends K E R G) := by
  obtain ⟨k, e, env', h', h1, h2⟩ := wp_Xv a q
  cases e with
  | normal =>
    obtain ⟨k2, e2, env2, h2', h3, h4⟩ := h2
    refine ⟨max k k2 + 1, e2, env2, h2', ?_, h4⟩
    unfold exec
    simp only
    rw [exec_le (by omega) h1, Res.ok_bind]
    exact exec_le (by omega) h3
  | ret => refine ⟨k + 1, .ret, env', h', ?_, h2⟩; unfold exec; simp only; rw [h1, Res.ok_bind]
  | exit i => refine ⟨k + 1, .exit i, env', h', ?_, h2⟩; unfold exec; simp only; rw [h1, Res.ok_bind]
  | goto i => refine ⟨k + 1, .goto i, env', h', ?_, h2⟩; unfold exec; simp only; rw [h1, Res.ok_bind]
theorem st_err {cs : List UInt8} {p e lim : Nat} (h : e ≠ 0) : st cs (p, e) lim = (0, p, e) := by unfold st; rw [if_neg h]
theorem st_ok {cs : List UInt8} {p lim : Nat} {r : Nat × Nat × Nat} (h : rdNum cs p lim = r) : st cs (p, 0) lim = r := by unfold st; rw [if_pos rfl]; exact h
theorem wl1 : IntKind.i64.wrap 1 = 1 := by decide
theorem wl2 : IntKind.i64.wrap 2 = 2 := by decide
theorem wl3 : IntKind.i64.wrap 3 = 3 := by decide
theorem wl4 : IntKind.i64.wrap 4 = 4 := by decide
theorem wl5 : IntKind.i64.wrap 5 = 5 := by decide
def zR : List AVal := [.nils, .int .i64 0, .int .i64 0, .int .i64 0, .int .i64 0, .int .i64 0, .int .i64 0]
section
variable {ro : Nat → Option (List AVal)}
theorem pread24 {h : AHeap} {v : AVal} {bs : List UInt8} (hv : BS (cfgR ro) h v bs) (hs : ∀ o f l q, v ≠ .slc o f l q) (hn : bs.length ≤ 2 ^ 40) {Q : AVal → AHeap → Prop}
    (hq1 : ∀ h', Old h h' → (prS bs).err ≠ 0 → Q (.tuple [.agg zR, .int .i64 (prS bs).err]) h')
    (hq2 : ∀ v' h', Old h h' → (prS bs).err = 0 → Mine h h' 2 ((prS bs).l.map ecells) v' → Q (.tuple [.agg (rcells v' (prS bs)), .int .i64 0]) h') : Ev (cfgR ro) 24 [v] h Q := by
  refine Ev.wp rfl rfl Try.func24 rfl ?_
  have hL : ∀ h', Old h h' → lenR (cfgR ro) h' 24 v = .ok (.int .i64 bs.length) := fun h' ho => (hv.old ho).lenR un24
  have hL0 := hL h (Old.refl h)
  have bad : ∀ (x : Nat) (h' : AHeap), prS bs = .bad x → x ≠ 0 → Old h h' → Q (.tuple [.agg zR, .int .i64 x]) h' := fun x h' hx h0 ho => by rw [hx] at hq1; exact hq1 _ ho h0
  have hconv : ∀ h', Old h h' → convR (cfgR ro) h' 24 9 v = .ok (.str bs) := fun h' ho => (hv.old ho).conv un24 un9 un5
  have hconv0 := hconv h (Old.refl h)
  simp -implicitDefEqProofs [Try.f24, hL0]
  refine orD (fun h1 => ?_) (fun h1 => ?_)
  · simp -implicitDefEqProofs [h1, hL0]
    exact bad 31 h (by unfold prS openS; rw [if_pos (by omega)]) (by decide) (Old.refl h)
  obtain ⟨n, hn4⟩ : ∃ n, bs.length = n + 4 := ⟨bs.length - 4, by omega⟩
  have e0 : IntKind.i64.wrap ((bs.length : Int) - 4) = (n : Int) := by rw [w64 (by omega) (by omega)]; omega
  obtain ⟨vc, u1, u2⟩ := hv.upto (n := n) (by omega) hs (k := .i64)
  obtain ⟨cs, hcs⟩ : ∃ cs, cs = bs.take n := ⟨_, rfl⟩
  rw [← hcs] at u2
  have hcl : cs.length = n := by rw [hcs]; simp; omega
  simp -implicitDefEqProofs [h1, hL0, e0, u1]
  refine seal42 u2 (by omega) (fun v2 h2 m2 k2 => ?_)
  have hconv2 := hconv h2 k2
  have hcv2 : convR (cfgR ro) h2 24 9 v2 = .ok (.str (sealS cs)) := m2.toBS.conv un24 un9 un5
  have hL2 := hL h2 k2
  simp -implicitDefEqProofs [h1, hL2, e0, -convR, hconv2, hcv2]
  refine ⟨.inl (by decide +kernel), .inl (by decide +kernel), by first | exact .inl (by decide +kernel) | (right; simp [-convR, hconv0]), ?_⟩
  have hop : openS bs = if sealS cs = bs then some cs else none := by
    unfold openS
    rw [if_neg (by omega), show bs.length - 4 = n by omega, ← hcs]
    by_cases hx : sealS cs = bs
    · rw [if_pos hx, if_pos hx.symm]
    · rw [if_neg hx, if_neg (fun h => hx h.symm)]
  refine orD (fun h3 => ?_) (fun h3 => ?_)
  rotate_left
  · simp -implicitDefEqProofs
    exact bad 31 h2 (by unfold prS; rw [hop, if_neg h3]) (by decide) k2
  rw [if_pos h3] at hop
  obtain ⟨c3, u3, u4⟩ := (hv.old k2).upto (n := n) (by omega) hs (k := .i64)
  rw [← hcs] at u4
  have hL3 : lenR (cfgR ro) h2 24 c3 = .ok (.int .i64 cs.length) := u4.lenR un24
  simp -implicitDefEqProofs [hL2, e0, u3, hL3]
  refine orD (fun h4 => ?_) (fun h4 => ?_)
  · simp -implicitDefEqProofs [h4]
    exact bad 30 h2 (by unfold prS; rw [hop]; simp only []; rw [if_pos (.inr (by first | omega | (subst h4; rfl)))]) (by decide) k2
  have hpos : 0 < cs.length := by
    first | omega | (exact List.length_pos_iff.2 h4)
  have hx0 : indexAddrR Try.prog 24 c3 (.int .i64 0) = .ok (elp c3 1 0) := u4.idx un24 sz5 hpos
  have ha0 : loadR (cfgR ro) h2 5 (elp c3 1 0) = .ok (.int .u8 cs[0].toNat) := u4.load hpos ag5
  have hg0 : cs.getD 0 0 = cs[0] := by simp [hpos]
  obtain ⟨b0, hb0⟩ : ∃ b, b = cs[0].toNat := ⟨_, rfl⟩
  rw [← hb0] at ha0
  simp -implicitDefEqProofs [h4, hx0, ha0]
  refine orD (fun h5 => ?_) (fun h5 => ?_)
  rotate_left
  · simp -implicitDefEqProofs
    exact bad 30 h2 (by unfold prS; rw [hop]; simp only []; rw [if_pos (.inl (by rw [hg0, ← hb0]; omega))]) (by decide) k2
  have hmark : ¬ ((cs.getD 0 0).toNat ≠ 209 ∨ cs.length = 0) := by rw [hg0, ← hb0]; omega
  simp -implicitDefEqProofs
  have hcl2 : cs.length ≤ 2 ^ 40 := by omega
  refine readnum43 (a := 1) (limit := 65536) u4 hcl2 (by decide) (by decide) (fun nn p x hrd => ?_)
  obtain ⟨f1, f2, f3⟩ := rdGo_lt hrd
  simp -implicitDefEqProofs
  generalize hK : seqK _ _ _ _ _ _ _ = K
  have tail : ∀ (z6 z9 z59 : AVal) (h' : AHeap) (p e : Nat) (acc : List En) (vv : AVal), Old h2 h' → p ≤ 2 ^ 40 → (listS cs).2 = (p, e) → (e = 0 → (listS cs).1 = acc) → Mine h2 h' 2 (acc.map ecells) vv → acc.length ≤ 2 ^ 40 →
      K (.dead :: .dead :: .cell [.nils, .int .i64 0, .int .i64 0, .int .i64 0, .int .i64 0, .int .i64 0, .int .i64 0] :: .dead :: c3 :: .cell [vv, .int .i64 0, .int .i64 0, .int .i64 0, .int .i64 0, .int .i64 0, .int .i64 0] :: z6 :: .int .i64 p :: .int .i64 e :: z9 :: .dead :: .dead :: .dead :: .dead :: .dead :: .dead :: .dead :: .dead :: .dead :: .dead :: .dead :: .dead :: .dead :: .dead :: .dead :: .dead :: .dead :: .dead :: .dead :: .dead :: .dead :: .dead :: .dead :: .dead :: .dead :: .dead :: .dead :: .dead :: .dead :: .dead :: .dead :: .dead :: .dead :: .dead :: .dead :: .dead :: .dead :: .dead :: .dead :: .dead :: .dead :: .dead :: .dead :: .dead :: .dead :: .dead :: .dead :: .dead :: .dead :: z59 :: .dead :: .dead :: .dead :: .dead :: .dead :: .dead :: .dead :: .dead :: .dead :: .dead :: .dead :: .dead :: .dead :: .dead :: .dead :: .dead :: .dead :: .dead :: .dead :: .dead :: .dead :: .dead :: .dead :: .dead :: .dead :: .dead :: .dead :: .dead :: .dead :: .dead :: .dead :: .dead :: .dead :: .dead :: .dead :: .dead :: .dead :: .dead :: .dead :: .dead :: .dead :: .dead :: .dead :: .dead :: .dead :: .dead :: .dead :: .dead :: .dead :: .dead :: .dead :: .dead :: .dead :: .dead :: .dead :: .dead :: .dead :: .dead :: .dead :: .dead :: .dead :: .dead :: .dead :: .dead :: .dead :: .dead :: .dead :: .dead :: .dead :: .dead :: .dead :: .dead :: .dead :: .dead :: .dead :: .dead :: .dead :: .dead :: .dead :: .dead :: .dead :: .dead :: .dead :: .dead :: []) h' := by
    intro z6 z9 z59 h' p e acc vv ho hp hLs hl hm hal
    rw [← hK]
    simp -implicitDefEqProofs
    generalize hK2 : seqK _ _ _ _ _ _ _ = K2
    have ho2 : Old h h' := k2.trans ho
    have uc := u4.old ho
    have finE : ∀ (c13 z14 z94 : AVal) (p e : Nat), e ≠ 0 → prS bs = .bad e → K2 (.dead :: .dead :: .cell [.nils, .int .i64 0, .int .i64 0, .int .i64 0, .int .i64 0, .int .i64 0, .int .i64 0] :: .dead :: c3 :: .cell [vv, .int .i64 0, .int .i64 0, .int .i64 0, .int .i64 0, .int .i64 0, .int .i64 0] :: .dead :: .int .i64 p :: .int .i64 e :: .dead :: .dead :: .dead :: .cell [.int .u64 65536, .int .u64 65536, .int .u64 3, .int .u64 67108864, .int .u64 67108864] :: c13 :: z14 :: .dead :: .dead :: .dead :: .dead :: .dead :: .dead :: .dead :: .dead :: .dead :: .dead :: .dead :: .dead :: .dead :: .dead :: .dead :: .dead :: .dead :: .dead :: .dead :: .dead :: .dead :: .dead :: .dead :: .dead :: .dead :: .dead :: .dead :: .dead :: .dead :: .dead :: .dead :: .dead :: .dead :: .dead :: .dead :: .dead :: .dead :: .dead :: .dead :: .dead :: .dead :: .dead :: .dead :: .dead :: .dead :: .dead :: .dead :: .dead :: .dead :: .dead :: .dead :: .dead :: .dead :: .dead :: .dead :: .dead :: .dead :: .dead :: .dead :: .dead :: .dead :: .dead :: .dead :: .dead :: .dead :: .dead :: .dead :: .dead :: .dead :: .dead :: .dead :: .dead :: .dead :: .dead :: .dead :: .dead :: .dead :: .dead :: .dead :: z94 :: .dead :: .dead :: .dead :: .dead :: .dead :: .dead :: .dead :: .dead :: .dead :: .dead :: .dead :: .dead :: .dead :: .dead :: .dead :: .dead :: .dead :: .dead :: .dead :: .dead :: .dead :: .dead :: .dead :: .dead :: .dead :: .dead :: .dead :: .dead :: .dead :: .dead :: .dead :: .dead :: .dead :: .dead :: .dead :: .dead :: .dead :: .dead :: .dead :: .dead :: .dead :: .dead :: .dead :: .dead :: .dead :: .dead :: .dead :: .dead :: .dead :: []) h' := by
      intro c13 z14 z94 p e hx hpr
      have hx' : ¬ (e : Int) = 0 := by omega
      rw [← hK2]
      simp -implicitDefEqProofs [hx, hx']
      exact bad e h' hpr hx ho2
    refine loop_un ?_
    by_cases hx : e = 0
    rotate_left
    · have hx' : ¬ (e : Int) = 0 := by omega
      simp -implicitDefEqProofs [hx, hx', wl1, wl2, wl3, wl4, wl5]
      refine finE _ _ _ p e hx ?_
      rw [prS_of hop hmark (by rw [hLs]; exact st_err hx) (st_err hx) (st_err hx) (st_err hx) (st_err hx)]; simp [hx]
    subst hx
    simp -implicitDefEqProofs [idxNat, wl1, wl2, wl3, wl4, wl5]
    refine readnum43 (limit := 65536) uc hcl2 hp (by decide) (fun a1 p1 e1 hr1 => ?_)
    have q1 := st_ok hr1
    have b1 := rdGo_lt hr1
    have hp1 : p1 ≤ 2 ^ 40 := by
      by_cases hx : e1 = 0
      · have := (b1.1 hx).2.1; omega
      · rw [(b1.2.1 hx).1]; exact hp
    have m1 : a1 ≤ 65536 := by
      by_cases hx : e1 = 0
      · exact (b1.1 hx).2.2
      · rw [(b1.2.1 hx).2]; exact Nat.zero_le _
    simp -implicitDefEqProofs [idxNat, wl1, wl2, wl3, wl4, wl5]
    refine loop_un ?_
    by_cases hx : e1 = 0
    rotate_left
    · have hx' : ¬ (e1 : Int) = 0 := by omega
      simp -implicitDefEqProofs [hx, hx', wl1, wl2, wl3, wl4, wl5]
      refine finE _ _ _ p1 e1 hx ?_
      rw [prS_of hop hmark (by rw [hLs]; exact q1) (st_err hx) (st_err hx) (st_err hx) (st_err hx)]; simp [hx]
    subst hx
    simp -implicitDefEqProofs [idxNat, wl1, wl2, wl3, wl4, wl5]
    refine readnum43 (limit := 65536) uc hcl2 hp1 (by decide) (fun a2 p2 e2 hr2 => ?_)
    have q2 := st_ok hr2
    have b2 := rdGo_lt hr2
    have hp2 : p2 ≤ 2 ^ 40 := by
      by_cases hx : e2 = 0
      · have := (b2.1 hx).2.1; omega
      · rw [(b2.2.1 hx).1]; exact hp1
    have m2x : a2 ≤ 65536 := by
      by_cases hx : e2 = 0
      · exact (b2.1 hx).2.2
      · rw [(b2.2.1 hx).2]; exact Nat.zero_le _
    simp -implicitDefEqProofs [idxNat, wl1, wl2, wl3, wl4, wl5]
    refine loop_un ?_
    by_cases hx : e2 = 0
    rotate_left
    · have hx' : ¬ (e2 : Int) = 0 := by omega
      simp -implicitDefEqProofs [hx, hx', wl1, wl2, wl3, wl4, wl5]
      refine finE _ _ _ p2 e2 hx ?_
      rw [prS_of hop hmark (by rw [hLs]; exact q1) q2 (st_err hx) (st_err hx) (st_err hx)]; simp [hx]
    subst hx
    simp -implicitDefEqProofs [idxNat, wl1, wl2, wl3, wl4, wl5]
    refine readnum43 (limit := 3) uc hcl2 hp2 (by decide) (fun a3 p3 e3 hr3 => ?_)
    have q3 := st_ok hr3
    have b3 := rdGo_lt hr3
    have hp3 : p3 ≤ 2 ^ 40 := by
      by_cases hx : e3 = 0
      · have := (b3.1 hx).2.1; omega
      · rw [(b3.2.1 hx).1]; exact hp2
    have m3 : a3 ≤ 3 := by
      by_cases hx : e3 = 0
      · exact (b3.1 hx).2.2
      · rw [(b3.2.1 hx).2]; exact Nat.zero_le _
    simp -implicitDefEqProofs [idxNat, wl1, wl2, wl3, wl4, wl5]
    refine loop_un ?_
    by_cases hx : e3 = 0
    rotate_left
    · have hx' : ¬ (e3 : Int) = 0 := by omega
      simp -implicitDefEqProofs [hx, hx', wl1, wl2, wl3, wl4, wl5]
      refine finE _ _ _ p3 e3 hx ?_
      rw [prS_of hop hmark (by rw [hLs]; exact q1) q2 q3 (st_err hx) (st_err hx)]; simp [hx]
    subst hx
    simp -implicitDefEqProofs [idxNat, wl1, wl2, wl3, wl4, wl5]
    refine readnum43 (limit := 67108864) uc hcl2 hp3 (by decide) (fun a4 p4 e4 hr4 => ?_)
    have q4 := st_ok hr4
    have b4 := rdGo_lt hr4
    have hp4 : p4 ≤ 2 ^ 40 := by
      by_cases hx : e4 = 0
      · have := (b4.1 hx).2.1; omega
      · rw [(b4.2.1 hx).1]; exact hp3
    have m4 : a4 ≤ 67108864 := by
      by_cases hx : e4 = 0
      · exact (b4.1 hx).2.2
      · rw [(b4.2.1 hx).2]; exact Nat.zero_le _
    simp -implicitDefEqProofs [idxNat, wl1, wl2, wl3, wl4, wl5]
    refine loop_un ?_
    by_cases hx : e4 = 0
    rotate_left
    · have hx' : ¬ (e4 : Int) = 0 := by omega
      simp -implicitDefEqProofs [hx, hx', wl1, wl2, wl3, wl4, wl5]
      refine finE _ _ _ p4 e4 hx ?_
      rw [prS_of hop hmark (by rw [hLs]; exact q1) q2 q3 q4 (st_err hx)]; simp [hx]
    subst hx
    simp -implicitDefEqProofs [idxNat, wl1, wl2, wl3, wl4, wl5]
    refine readnum43 (limit := 67108864) uc hcl2 hp4 (by decide) (fun a5 p5 e5 hr5 => ?_)
    have q5 := st_ok hr5
    have b5 := rdGo_lt hr5
    have hp5 : p5 ≤ 2 ^ 40 := by
      by_cases hx : e5 = 0
      · have := (b5.1 hx).2.1; omega
      · rw [(b5.2.1 hx).1]; exact hp4
    have m5 : a5 ≤ 67108864 := by
      by_cases hx : e5 = 0
      · exact (b5.1 hx).2.2
      · rw [(b5.2.1 hx).2]; exact Nat.zero_le _
    simp -implicitDefEqProofs [idxNat, wl1, wl2, wl3, wl4, wl5]
    refine loop_un ?_
    simp -implicitDefEqProofs [idxNat, wl1, wl2, wl3, wl4, wl5]
    have hpr := prS_of hop hmark (by rw [hLs]; exact q1) q2 q3 q4 q5
    by_cases hx : e5 = 0
    rotate_left
    · exact finE _ _ _ p5 e5 hx (by rw [hpr]; simp [hx])
    subst hx
    rw [← hK2]
    have hL5 : lenR (cfgR ro) h' 24 c3 = .ok (.int .i64 cs.length) := uc.lenR un24
    by_cases hlt2 : p5 < cs.length
    · have hlt3 : (p5 : Int) < (cs.length : Int) := by omega
      simp -implicitDefEqProofs [hL5, hlt3]
      exact bad 15 h' (by rw [hpr]; simp [hlt2]) (by decide) ho2
    have hlt3 : ¬ (p5 : Int) < (cs.length : Int) := by omega
    have w1 : IntKind.i64.wrap (a1 : Int) = (a1 : Int) := w64 (by omega) (by omega)
    have w2 : IntKind.i64.wrap (a2 : Int) = (a2 : Int) := w64 (by omega) (by omega)
    have w3 : IntKind.i64.wrap (a3 : Int) = (a3 : Int) := w64 (by omega) (by omega)
    simp -implicitDefEqProofs [hL5, hlt3, idxNat, w1, w2, w3]
    refine turned60 m3 ?_
    simp -implicitDefEqProofs [idxNat]
    refine part61 m4 ?_
    simp -implicitDefEqProofs [idxNat]
    refine part61 m5 ?_
    simp -implicitDefEqProofs [idxNat]
    have hens : Ens (cfgR ro) h' vv acc := hm.sl
    have hpr2 := hpr
    simp only [ne_eq, not_true_eq_false, if_false, hlt2, hl rfl] at hpr2
    refine rright62 (p := ⟨0, acc, a1, a2, a3, a4, a5⟩) hens hal ⟨m1, m2x, m3, m4, m5⟩ ?_
    by_cases hr : rightB acc = true ∧ a2 ≤ a1
    · have hpr3 : prS bs = ⟨0, acc, a1, a2, a3, a4, a5⟩ := by rw [hpr2, if_neg (by simp [hr.1, hr.2])]
      simp -implicitDefEqProofs [hr.1, hr.2]
      rw [hpr3] at hq2
      exact hq2 vv h' ho2 rfl (hm.base k2.1)
    · have hpr3 : prS bs = .bad 11 := by
        rw [hpr2, if_pos]
        cases h9 : rightB acc with
        | false => exact .inl rfl
        | true => exact .inr (fun h => hr ⟨h9, h⟩)
      have hb' : (rightB acc && decide (a2 ≤ a1)) = false := by
        cases h9 : rightB acc with
        | false => rfl
        | true => simp only [Bool.true_and]; exact decide_eq_false (fun h => hr ⟨h9, h⟩)
      simp only [hb']
      simp -implicitDefEqProofs
      exact bad 11 h' hpr3 (by decide) ho2
  obtain ⟨I, hI⟩ : ∃ I : Nat → List AVal → AHeap → Prop, I = fun m env h' => ∃ (i p e : Nat) (acc : List En) (vv z : AVal), i + m = nn ∧ Old h2 h' ∧ p ≤ 2 ^ 40 ∧ Mine h2 h' 2 (acc.map ecells) vv ∧ acc.length = i ∧
      (e = 0 → lpS cs (nn - i) p acc = listS cs) ∧ (e ≠ 0 → (listS cs).2 = (p, e)) ∧ nn ≤ 65536 ∧ env = (.dead :: .dead :: .cell [.nils, .int .i64 0, .int .i64 0, .int .i64 0, .int .i64 0, .int .i64 0, .int .i64 0] :: .dead :: c3 :: .cell [vv, .int .i64 0, .int .i64 0, .int .i64 0, .int .i64 0, .int .i64 0, .int .i64 0] :: .int .u64 nn :: .int .i64 p :: .int .i64 e :: .int .u64 i :: .dead :: .dead :: .dead :: .dead :: .dead :: .dead :: .dead :: .dead :: .dead :: .dead :: .dead :: .dead :: .dead :: .dead :: .dead :: .dead :: .dead :: .dead :: .dead :: .dead :: .dead :: .dead :: .dead :: .dead :: .dead :: .dead :: .dead :: .dead :: .dead :: .dead :: .dead :: .dead :: .dead :: .dead :: .dead :: .dead :: .dead :: .dead :: .dead :: .dead :: .dead :: .dead :: .dead :: .dead :: .dead :: .dead :: .dead :: .dead :: .dead :: .dead :: .dead :: .dead :: .dead :: .dead :: .dead :: .dead :: .dead :: .dead :: .dead :: .dead :: .dead :: .dead :: .dead :: .dead :: .dead :: .dead :: .dead :: .dead :: .dead :: .dead :: .dead :: .dead :: .dead :: .dead :: .dead :: .dead :: .dead :: .dead :: .dead :: .dead :: .dead :: .dead :: .dead :: .dead :: .dead :: .dead :: .dead :: .dead :: .dead :: .dead :: .dead :: .dead :: .dead :: .dead :: .dead :: .dead :: .dead :: .dead :: .dead :: .dead :: .dead :: .dead :: .dead :: .dead :: .dead :: .dead :: .dead :: .dead :: .dead :: .dead :: .dead :: .dead :: .dead :: .dead :: .dead :: .dead :: .dead :: .dead :: .dead :: .dead :: .dead :: .dead :: .dead :: .dead :: .dead :: .dead :: .dead :: .dead :: .dead :: .dead :: .dead :: .dead :: .dead :: .dead :: []) := ⟨_, rfl⟩
  refine loop_of I ?_ nn (by
    rw [hI]
    refine ⟨0, p, x, [], .nils, .dead, by omega, Old.refl _, ?_, Mine.nil _ _ _, rfl, fun hx => ?_, fun hx => ?_, ?_, rfl⟩
    · by_cases hx : x = 0
      · have := (f1 hx).2.1; omega
      · rw [(f2 hx).1]; decide
    · unfold listS; rw [show rdNum cs 1 65536 = (nn, p, x) from hrd]; simp [hx]
    · unfold listS; rw [show rdNum cs 1 65536 = (nn, p, x) from hrd]; simp [hx]
    · by_cases hx : x = 0
      · exact (f1 hx).2.2
      · rw [(f2 hx).2]; decide)
  rintro m env h' hi
  rw [hI] at hi
  obtain ⟨i, p, e, acc, vv, z, hin, ho, hp, hm, hal, he0, he1, hn6, rfl⟩ := hi
  have hwi : IntKind.u64.wrap ((i : Int) + 1) = ((i + 1 : Nat) : Int) := by rw [wrap64]; omega
  have uc := u4.old ho
  simp -implicitDefEqProofs
  refine orD (fun h6 => ?_) (fun h6 => ?_)
  · simp -implicitDefEqProofs [h6]
    refine orD (fun h7 => ?_) (fun h7 => ?_)
    · have he : e = 0 := by omega
      subst he
      have hlp := he0 rfl
      rw [show nn - i = (nn - (i + 1)) + 1 by omega] at hlp
      simp -implicitDefEqProofs
      refine readnum43 (limit := 65535) uc hcl2 hp (by decide) (fun a1 p1 e1 hr1 => ?_)
      obtain ⟨g1, g2, g3⟩ := rdGo_lt hr1
      have hp1 : p1 ≤ 2 ^ 40 := by
        by_cases hx : e1 = 0
        · have := (g1 hx).2.1; omega
        · rw [(g2 hx).1]; exact hp
      have a1b : a1 < 65536 := by
        by_cases hx : e1 = 0
        · have := (g1 hx).2.2; omega
        · rw [(g2 hx).2]; decide
      have c1 : IntKind.u16.wrap (a1 : Int) = (a1 : Int) := by rw [wrap16]; omega
      obtain ⟨i1, hi1⟩ : ∃ x : Int, x = ((i + 1 : Nat) : Int) := ⟨_, rfl⟩
      rw [← hi1] at hwi
      simp -implicitDefEqProofs
      refine orD (fun h8 => ?_) (fun h8 => ?_)
      · have hx1 : e1 = 0 := by omega
        subst hx1
        simp -implicitDefEqProofs
        refine readnum43 (limit := 268435456) uc hcl2 hp1 (by decide) (fun b p2 e2 hr2 => ?_)
        obtain ⟨g1', g2', g3'⟩ := rdGo_lt hr2
        have hp2 : p2 ≤ 2 ^ 40 := by
          by_cases hx : e2 = 0
          · have := (g1' hx).2.1; omega
          · rw [(g2' hx).1]; exact hp1
        have hbb : b < 4294967296 := by
          by_cases hx : e2 = 0
          · have := (g1' hx).2.2; omega
          · rw [(g2' hx).2]; decide
        have c2 : IntKind.u32.wrap (b : Int) = (b : Int) := by rw [wrap32]; omega
        obtain ⟨v9, h9, x1, m9, o9⟩ := (hm.keep ((Old.refl h').push (.row 2 false (ecells (a1, b))))).append1 (bytes := 8) (e := ecells (a1, b)) (by omega) rfl (by simp; omega) (ho.push _)
        have hv9 := Mine.cells m9
        simp only [ecells] at x1
        rw [lpS_step hr1 hr2] at hlp
        simp only [ne_eq, not_true_eq_false, if_false] at hlp
        simp -implicitDefEqProofs [c1, c2, buildSliceR, reps, x1, hwi, hv9]
        exact .mk (m := m - 1) (by omega) (by
          rw [hI]
          refine ⟨i + 1, p2, e2, acc ++ [(a1, b)], v9, .dead, by omega, o9, hp2, by rw [List.map_append]; exact m9, by simp [hal], fun hx => ?_, fun hx => ?_, hn6, by rw [hi1]⟩
          · rw [if_neg (by omega)] at hlp; exact hlp
          · rw [if_pos (by omega)] at hlp; rw [← hlp])
      · have hx1 : e1 ≠ 0 := by omega
        obtain ⟨v9, h9, x1, m9, o9⟩ := (hm.keep ((Old.refl h').push (.row 2 false (ecells (a1, 0))))).append1 (bytes := 8) (e := ecells (a1, 0)) (by omega) rfl (by simp; omega) (ho.push _)
        have c2 : IntKind.u32.wrap 0 = 0 := by decide
        have hv9 := Mine.cells m9
        simp only [ecells] at x1
        simp at x1
        simp -implicitDefEqProofs [c1, c2, buildSliceR, reps, x1, hwi, hv9]
        exact .mk (m := m - 1) (by omega) (by
          rw [hI]
          refine ⟨i + 1, p1, e1, acc ++ [(a1, 0)], v9, .dead, by omega, o9, hp1, by rw [List.map_append]; exact m9, by simp [hal], fun hx => absurd hx hx1, fun _ => ?_, hn6, by rw [hi1]⟩
          rw [← hlp, lpS, hr1]; simp [hx1])
    · have hx : e ≠ 0 := by omega
      simp -implicitDefEqProofs [hx]
      exact tail _ _ _ h' p e acc vv ho hp (he1 hx) (fun h => absurd h hx) hm (by omega)
  · simp -implicitDefEqProofs [h6]
    refine tail _ _ _ h' p e acc vv ho hp ?_ (fun hx => ?_) hm (by omega)
    · by_cases hx : e = 0
      · subst hx
        have hlp := he0 rfl
        rw [show nn - i = 0 by omega, lpS] at hlp
        rw [← hlp]
      · exact he1 hx
    · have hlp := he0 hx
      rw [show nn - i = 0 by omega, lpS] at hlp
      rw [← hlp]
end
end Go.Proofs.Ytomhcjiefmaopaa
set_option linter.all false
set_option maxRecDepth 100000
set_option maxHeartbeats 4000000
namespace Go.Proofs.Ytomhcjiefmaopaa
open Go Go.RowKit Go.Proofs
def pbody (p : PR) : List UInt8 := 209 :: (numS p.l.length ++ (bodyS p.l ++ (numS p.a ++ (numS p.n ++ (numS p.t ++ (numS p.x ++ numS p.y))))))
section
variable {ro : Nat → Option (List AVal)}
theorem pref25 {h : AHeap} {vv : AVal} {p : PR} (hv : Ens (cfgR ro) h vv p.l) (hn : p.l.length ≤ 2 ^ 40) (ok : p.Ok) {Q : AVal → AHeap → Prop}
    (hq : ∀ v' h', Old h h' → Mine h h' 2 (p.l.map ecells) v' → Q (.tuple [.agg (rcells v' p), .bool true]) h') : Ev (cfgR ro) 25 [.agg (pcells vv p)] h Q := by
  refine Ev.wp rfl rfl Try.func25 rfl ?_
  obtain ⟨er, l, a, n, t, x, y⟩ := p
  obtain ⟨k1, k2, k3, k4, k5⟩ := ok
  simp only at k1 k2 k3 k4 k5 hv hn hq
  have b1 := prt_le k4
  have b2 := prt_le k5
  have tx : -1 ≤ tX t ∧ tX t ≤ 1 := by rcases lt4 k3 with rfl | rfl | rfl | rfl <;> decide
  have ty : -1 ≤ tY t ∧ tY t ≤ 1 := by rcases lt4 k3 with rfl | rfl | rfl | rfl <;> decide
  simp -implicitDefEqProofs [Try.f25, pcells]
  refine of63 (tA_wh k3) (by omega) (by omega) (tB_wh k3) (by omega) (by omega) ?_
  simp -implicitDefEqProofs
  refine of63 (nearest_wh (by omega)) b1.1 b1.2 (nearest_wh (by omega)) b2.1 b2.2 ?_
  simp -implicitDefEqProofs
  refine vec7 hv hn (fun v' h' o m => ?_)
  have hc := Mine.cells m
  simp -implicitDefEqProofs [hc]
  exact hq v' h' o m
theorem eq73 (h : AHeap) (a b c d e f g i : Int) : eqIn (cfgR ro) h 10000 73 (.agg [.int .i64 a, .int .i64 b, .int .i64 c, .int .i64 d]) (.agg [.int .i64 e, .int .i64 f, .int .i64 g, .int .i64 i]) =
    (match (match a == e with | true => (match b == f with | true => Res.ok true | false => .ok false) | false => .ok false : Res Bool) with
      | .ok true => (match (match c == g with | true => (match d == i with | true => Res.ok true | false => .ok false) | false => .ok false : Res Bool) with | .ok true => .ok true | .ok false => .ok false | .err n => .err n)
      | .ok false => .ok false | .err n => .err n) := by kernel_rfl
theorem eq71 (h : AHeap) (a b e f : Int) : eqIn (cfgR ro) h 10000 71 (.agg [.int .i64 a, .int .i64 b]) (.agg [.int .i64 e, .int .i64 f]) = (match a == e with | true => (match b == f with | true => Res.ok true | false => .ok false) | false => .ok false) := by kernel_rfl
theorem psame26 {h : AHeap} {v x : AVal} {p : PR} (hv : Ens (cfgR ro) h v p.l) (hx : Ens (cfgR ro) h x p.l) (hn : p.l.length ≤ 2 ^ 40) {Q : AVal → AHeap → Prop} (hq : Q (.bool true) h) : Ev (cfgR ro) 26 [.agg (rcells v p), .agg (rcells x p)] h Q := by
  refine Ev.wp rfl rfl Try.func26 rfl ?_
  obtain ⟨er, l, a, n, t, px, y⟩ := p
  simp only at hv hx hn
  have hL : lenR (cfgR ro) h 26 v = .ok (.int .i64 l.length) := by have := hv.lenR (t := 26) un26; simpa using this
  have hL2 : lenR (cfgR ro) h 26 x = .ok (.int .i64 l.length) := by have := hx.lenR (t := 26) un26; simpa using this
  have hX : ∀ i, i < l.length → indexAddrR Try.prog 26 v (.int .i64 (i : Int)) = .ok (elp v 2 i) := fun i hi => hv.idx un26 sz89 (by simpa using hi)
  have hX2 : ∀ i, i < l.length → indexAddrR Try.prog 26 x (.int .i64 (i : Int)) = .ok (elp x 2 i) := fun i hi => hx.idx un26 sz89 (by simpa using hi)
  have hA : ∀ i (hi : i < l.length), loadR (cfgR ro) h 89 (elp v 2 i) = .ok (.agg (ecells (l.getD i (0, 0)))) := fun i hi => hv.load (Ens.at hi) ag89 sz89
  have hA2 : ∀ i (hi : i < l.length), loadR (cfgR ro) h 89 (elp x 2 i) = .ok (.agg (ecells (l.getD i (0, 0)))) := fun i hi => hx.load (Ens.at hi) ag89 sz89
  have hg : eqL 89 = true := by decide
  have hg3 : eqL 73 = true := by decide
  have hg1 : eqL 71 = true := by decide
  have h73 : eqIn (cfgR ro) h 10000 73 (.agg [.int .i64 (tX t), .int .i64 (tY t), .int .i64 (prt px), .int .i64 (prt y)]) (.agg [.int .i64 (tX t), .int .i64 (tY t), .int .i64 (prt px), .int .i64 (prt y)]) = .ok true := by
    rw [eq73]; simp
  simp -implicitDefEqProofs [Try.f26, rcells, hL, hL2, h73, hg3, hg1]
  obtain ⟨I, hI⟩ : ∃ I : Nat → List AVal → AHeap → Prop, I = fun m env h' => ∃ (i : Nat), i + m = l.length ∧ h' = h ∧
     env = (.dead :: .dead :: .cell [v, .int .i64 a, .int .i64 n, .int .i64 (tX t), .int .i64 (tY t), .int .i64 (prt px), .int .i64 (prt y)] :: .cell [x, .int .i64 a, .int .i64 n, .int .i64 (tX t), .int .i64 (tY t), .int .i64 (prt px), .int .i64 (prt y)] :: .dead :: .dead :: .dead :: .dead :: .dead :: .dead :: .dead :: .dead :: .dead :: .dead :: .dead :: .dead :: .dead :: .dead :: .dead :: .dead :: .dead :: .dead :: .dead :: .dead :: .dead :: .dead :: .dead :: .dead :: .dead :: .dead :: .dead :: .dead :: .dead :: .dead :: .dead :: .dead :: .int .i64 (l.length : Nat) :: .int .i64 (i : Nat) :: .dead :: .dead :: .dead :: .dead :: .dead :: .dead :: .dead :: .dead :: .dead :: .dead :: .dead :: .dead :: .dead :: .dead :: []) := ⟨_, rfl⟩
  refine loop_of I ?_ l.length (by rw [hI]; exact ⟨0, by simp, rfl, rfl⟩)
  rintro m env h' hi
  rw [hI] at hi
  obtain ⟨i, hin, rfl, rfl⟩ := hi
  by_cases h3 : i < l.length
  · have ha := hA i h3
    have ha2 := hA2 i h3
    obtain ⟨⟨ea, eb⟩, he⟩ : ∃ e, e = l.getD i (0, 0) := ⟨_, rfl⟩
    rw [← he] at ha ha2
    simp only [ecells] at ha ha2
    have heq : eqIn (cfgR ro) h' 10000 89 (.agg [.int .u16 ea, .int .u32 eb]) (.agg [.int .u16 ea, .int .u32 eb]) = .ok true := by rw [eq89]; simp
    have hw : IntKind.i64.wrap ((i : Int) + 1) = ((i + 1 : Nat) : Int) := by rw [w64 (by omega) (by omega)]; omega
    simp -implicitDefEqProofs [h3, hX i h3, hX2 i h3, ha, ha2, hg, heq, hw]
    exact .mk (m := m - 1) (by omega) (by rw [hI]; exact ⟨i + 1, by omega, rfl, by simp⟩)
  · simp -implicitDefEqProofs [h3]
    exact hq
theorem pbytes27 {h : AHeap} {v : AVal} {p : PR} (hv : Ens (cfgR ro) h v p.l) (hn : p.l.length ≤ 65536) (hok : ∀ e ∈ p.l, enOk e) (ok : p.Ok) {Q : AVal → AHeap → Prop}
    (hq : ∀ v' h', Old h h' → BM h h' v' (sealS (pbody p)) → Q v' h') : Ev (cfgR ro) 27 [.agg (rcells v p)] h Q := by
  refine Ev.wp rfl rfl Try.func27 rfl ?_
  obtain ⟨er, l, a, n, t, px, y⟩ := p
  obtain ⟨k1', k2', k3', k4', k5'⟩ := ok
  simp only at hv hn hok k1' k2' k3' k4' k5'
  have hL : ∀ h', Old h h' → lenR (cfgR ro) h' 26 v = .ok (.int .i64 l.length) := fun h' ho => by have := (hv.old ho).lenR (t := 26) un26; simpa using this
  have hX : ∀ i, i < l.length → indexAddrR Try.prog 26 v (.int .i64 (i : Int)) = .ok (elp v 2 i) := fun i hi => hv.idx un26 sz89 (by simpa using hi)
  have hO : ∀ i d, i < l.length → addOff (elp v 2 i) d = .ok (elpo v 2 i d) := fun i d hi => elp_off hv (by simpa using hi)
  have hA0 : ∀ h', Old h h' → ∀ i (hi : i < l.length), loadR (cfgR ro) h' 38 (elpo v 2 i 0) = .ok (.int .u16 (l.getD i (0, 0)).1) := fun h' ho i hi => (hv.old ho).loadF (Ens.at hi) rfl ag38
  have hA1 : ∀ h', Old h h' → ∀ i (hi : i < l.length), loadR (cfgR ro) h' 40 (elpo v 2 i 1) = .ok (.int .u32 (l.getD i (0, 0)).2) := fun h' ho i hi => (hv.old ho).loadF (Ens.at hi) rfl ag40
  have e1 : IntKind.u64.wrap (l.length : Int) = (l.length : Int) := by rw [wrap64]; omega
  have k1 : Old h (h.push (.row 1 false [.int .u8 209])) := (Old.refl h).push _
  have m1 : BM h (h.push (.row 1 false [.int .u8 209])) (.sl h.next 0 1) [209] := ⟨bes_one _, .inr ⟨h.next, false, rfl, Nat.le_refl _, by simp, by rw [get_push_next]; rfl⟩⟩
  simp -implicitDefEqProofs [Try.f27, rcells, buildSliceR, reps, hL _ k1, e1]
  have nl := numS_len 8 l.length (by omega)
  refine num41 l.length (by omega) _ (fun v2 h2 m2 k2 => ?_)
  have b2 := m2.toBS (c := cfgR ro)
  obtain ⟨v3, h3, g3, m3, k3⟩ := (m1.keep k2).app (nb := numS l.length) (k1.trans k2) (by simp; omega)
  simp -implicitDefEqProofs [b2.lenA, b2.read, g3]
  obtain ⟨C, hC⟩ : ∃ C, C = AVal.cell [v, .int .i64 a, .int .i64 n, .int .i64 (tX t), .int .i64 (tY t), .int .i64 (prt px), .int .i64 (prt y)] := ⟨_, rfl⟩
  obtain ⟨I, hI⟩ : ∃ I : Nat → List AVal → AHeap → Prop, I = fun m env h' => ∃ (i : Nat) (o : AVal), i + m = l.length ∧ Old h h' ∧ BM h h' o (([209] ++ numS l.length) ++ bodyS (l.take i)) ∧ env = (.dead :: .cell [v, .int .i64 a, .int .i64 n, .int .i64 (tX t), .int .i64 (tY t), .int .i64 (prt px), .int .i64 (prt y)] :: .dead :: o :: .int .i64 i :: .dead :: .dead :: .dead :: .dead :: .dead :: .dead :: .dead :: .dead :: .dead :: .dead :: .dead :: .dead :: .dead :: .dead :: .dead :: .dead :: .dead :: .dead :: .dead :: .dead :: .dead :: .dead :: .dead :: .dead :: .dead :: .dead :: .dead :: .dead :: .dead :: .dead :: .dead :: .dead :: .dead :: .dead :: .dead :: .dead :: .dead :: .dead :: .dead :: .dead :: .dead :: .dead :: .dead :: .dead :: .dead :: .dead :: .dead :: .dead :: .dead :: .dead :: .dead :: .dead :: .dead :: .dead :: .dead :: .dead :: .dead :: .dead :: .dead :: .dead :: .dead :: .dead :: .dead :: .dead :: .dead :: .dead :: .dead :: .dead :: .dead :: .dead :: .dead :: .dead :: .dead :: .dead :: .dead :: .dead :: .dead :: .dead :: .dead :: []) := ⟨_, rfl⟩
  refine loop_of I ?_ l.length (by rw [hI]; exact ⟨0, v3, by simp, k3, by simpa [bodyS] using m3, rfl⟩)
  rintro m env h' hi
  rw [hI] at hi
  obtain ⟨i, o, hin, ho, hm, rfl⟩ := hi
  have hwi : IntKind.i64.wrap ((i : Int) + 1) = ((i + 1 : Nat) : Int) := by rw [w64 (by omega) (by omega)]; omega
  simp -implicitDefEqProofs [hL _ ho]
  refine orD (fun h5 => ?_) (fun h5 => ?_)
  · have ha0 := hA0 h' ho i h5
    have hcells : l.getD i (0, 0) = l[i] := by simp [h5]
    obtain ⟨⟨r, s⟩, he⟩ : ∃ e, e = l.getD i (0, 0) := ⟨_, rfl⟩
    have hoke : enOk (r, s) := by rw [he, hcells]; exact hok _ (List.getElem_mem h5)
    have hb1 := body_len (l := l.take i) (fun e hm => hok e (List.mem_of_mem_take hm))
    have hb2 : (l.take i).length = i := by simp; omega
    rw [hb2] at hb1
    rw [← he] at ha0
    have f1 : IntKind.u64.wrap (r : Int) = (r : Int) := by have := hoke.1; rw [wrap64]; simp at this; omega
    have f2 : IntKind.u64.wrap (s : Int) = (s : Int) := by have := hoke.2; rw [wrap64]; simp at this; omega
    have r63 : r < 2 ^ 63 := by have := hoke.1; simp at this; omega
    have s63 : s < 2 ^ 63 := by have := hoke.2; simp at this; omega
    have rl := numS_len 8 r (by omega)
    have sl := numS_len 8 s (by omega)
    simp -implicitDefEqProofs [hX i h5, hO i 0 h5, ha0, f1]
    refine num41 r r63 _ (fun v6 h6 m6 k6 => ?_)
    have b6 := m6.toBS (c := cfgR ro)
    obtain ⟨v7, h7, g7, m7, k7⟩ := (hm.keep k6).app (nb := numS r) (ho.trans k6) (by simp; omega)
    have ha1 := hA1 h7 k7 i h5
    rw [← he] at ha1
    simp -implicitDefEqProofs [b6.lenA, b6.read, g7, hX i h5, hO i 1 h5, ha1, f2]
    refine num41 s s63 _ (fun v8 h8 m8 k8 => ?_)
    have b8 := m8.toBS (c := cfgR ro)
    obtain ⟨v9, h9, g9, m9, k9⟩ := (m7.keep k8).app (nb := numS s) (k7.trans k8) (by simp; omega)
    obtain ⟨i1, hi1⟩ : ∃ x : Int, x = ((i + 1 : Nat) : Int) := ⟨_, rfl⟩
    rw [← hi1] at hwi
    simp -implicitDefEqProofs [b8.lenA, b8.read, g9, hwi]
    refine .mk (m := m - 1) (by omega) (by
      rw [hI]
      refine ⟨i + 1, v9, by omega, k9, ?_, by rw [hi1]⟩
      rw [List.take_succ_eq_append_getElem h5, bodyS_append, ← hcells, ← he]
      have : bodyS [(r, s)] = numS r ++ numS s := by simp [bodyS]
      rw [this]
      simpa using m9)
  rw [List.take_of_length_le (by omega)] at hm
  have hb1 := body_len hok
  obtain ⟨B, hB⟩ : ∃ B, B = ([209] ++ numS l.length) ++ bodyS l := ⟨_, rfl⟩
  have hBl : B.length ≤ 2 ^ 30 := by rw [hB]; simp; omega
  rw [← hB] at hm
  have c1 : IntKind.u64.wrap (a : Int) = (a : Int) := by rw [wrap64]; omega
  have c2 : IntKind.u64.wrap (n : Int) = (n : Int) := by rw [wrap64]; omega
  have c3 : IntKind.u64.wrap (t : Int) = (t : Int) := by rw [wrap64]; omega
  have l1 := numS_len 8 a (by omega)
  have l2 := numS_len 8 n (by omega)
  have l3 := numS_len 8 t (by omega)
  have l4 := numS_len 8 px (by omega)
  have l5 := numS_len 8 y (by omega)
  simp -implicitDefEqProofs [c1]
  refine num41 a (by omega) _ (fun w1 h10 m10 k10 => ?_)
  have b10 := m10.toBS (c := cfgR ro)
  obtain ⟨v11, h11, g11, m11, k11⟩ := (hm.keep k10).app (nb := numS a) (ho.trans k10) (by omega)
  simp -implicitDefEqProofs [b10.lenA, b10.read, g11, c2]
  refine num41 n (by omega) _ (fun w1 h12 m12 k12 => ?_)
  have b12 := m12.toBS (c := cfgR ro)
  obtain ⟨v13, h13, g13, m13, k13⟩ := (m11.keep k12).app (nb := numS n) (k11.trans k12) (by simp; omega)
  simp -implicitDefEqProofs [b12.lenA, b12.read, g13]
  obtain ⟨J, hJ⟩ : ∃ J : Nat → List AVal → AHeap → Prop, J = fun m env h' => ∃ (i : Nat), i + m = t ∧ h' = h13 ∧ env = (.dead :: .cell [v, .int .i64 a, .int .i64 n, .int .i64 (tX t), .int .i64 (tY t), .int .i64 (prt px), .int .i64 (prt y)] :: .dead :: v13 :: .dead :: .int .i64 i :: .dead :: .dead :: .dead :: .dead :: .dead :: .dead :: .dead :: .dead :: .dead :: .dead :: .dead :: .dead :: .dead :: .dead :: .dead :: .dead :: .dead :: .dead :: .dead :: .dead :: .dead :: .dead :: .dead :: .dead :: .dead :: .dead :: .dead :: .dead :: .dead :: .dead :: .dead :: .dead :: .dead :: .dead :: .dead :: .dead :: .dead :: .dead :: .dead :: .dead :: .dead :: .dead :: .dead :: .dead :: .dead :: .dead :: .dead :: .dead :: .dead :: .dead :: .dead :: .dead :: .dead :: .dead :: .dead :: .dead :: .dead :: .dead :: .dead :: .dead :: .dead :: .dead :: .dead :: .dead :: .dead :: .dead :: .dead :: .dead :: .dead :: .dead :: .dead :: .dead :: .dead :: .dead :: .dead :: .dead :: .dead :: .dead :: []) := ⟨_, rfl⟩
  refine loop_of J ?_ t (by rw [hJ]; exact ⟨0, by omega, rfl, rfl⟩)
  rintro m' env' h14 hi'
  rw [hJ] at hi'
  obtain ⟨i', hin', rfl, rfl⟩ := hi'
  have hg1 : eqL 71 = true := by decide
  simp -implicitDefEqProofs
  refine turned60 (n := i') (by omega) ?_
  by_cases hit : i' = t
  · subst hit
    have h71 : eqIn (cfgR ro) h14 10000 71 (.agg [.int .i64 (tX i'), .int .i64 (tY i')]) (.agg [.int .i64 (tX i'), .int .i64 (tY i')]) = .ok true := by rw [eq71]; simp
    simp -implicitDefEqProofs [h71, hg1, c3]
    refine num41 i' (by omega) _ (fun w1 h15 m15 k15 => ?_)
    have b15 := m15.toBS (c := cfgR ro)
    obtain ⟨v16, h16, g16, m16, k16⟩ := (m13.keep k15).app (nb := numS i') (k13.trans k15) (by simp; omega)
    have p1 := prt_le k4'
    have p2 := prt_le k5'
    simp -implicitDefEqProofs [b15.lenA, b15.read, g16]
    refine signed64 p1.1 p1.2 ?_
    rw [sgn_prt]
    simp -implicitDefEqProofs
    refine num41 px (by omega) _ (fun w1 h17 m17 k17 => ?_)
    have b17 := m17.toBS (c := cfgR ro)
    obtain ⟨v18, h18, g18, m18, k18⟩ := (m16.keep k17).app (nb := numS px) (k16.trans k17) (by simp; omega)
    simp -implicitDefEqProofs [b17.lenA, b17.read, g18]
    refine signed64 p2.1 p2.2 ?_
    rw [sgn_prt]
    simp -implicitDefEqProofs
    refine num41 y (by omega) _ (fun w1 h19 m19 k19 => ?_)
    have b19 := m19.toBS (c := cfgR ro)
    obtain ⟨v20, h20, g20, m20, k20⟩ := (m18.keep k19).app (nb := numS y) (k18.trans k19) (by simp; omega)
    simp -implicitDefEqProofs [b19.lenA, b19.read, g20]
    refine seal42 m20.toBS (by simp; omega) (fun v21 h21 m21 k21 => ?_)
    simp -implicitDefEqProofs
    refine hq _ _ (k20.trans k21) ?_
    have : pbody ⟨er, l, a, n, i', px, y⟩ = B ++ numS a ++ numS n ++ numS i' ++ numS px ++ numS y := by rw [hB]; simp [pbody]
    rw [this]
    exact Mine.base m21 k20.1
  · have hne : ¬ (tX i' = tX t ∧ tY i' = tY t) := by
      rcases lt4 (n := i') (by omega) with rfl | rfl | rfl | rfl <;> rcases lt4 k3' with rfl | rfl | rfl | rfl <;> first | (exact absurd rfl hit) | decide
    have h71 : eqIn (cfgR ro) h14 10000 71 (.agg [.int .i64 (tX i'), .int .i64 (tY i')]) (.agg [.int .i64 (tX t), .int .i64 (tY t)]) = .ok false := by
      rw [eq71]
      by_cases q1 : tX i' = tX t
      · have q2 : ¬ tY i' = tY t := fun q2 => hne ⟨q1, q2⟩
        have q2' : (tY i' == tY t) = false := by simpa using q2
        rw [q1, q2']; simp
      · have q1' : (tX i' == tX t) = false := by simpa using q1
        rw [q1']
    have hwi' : IntKind.i64.wrap ((i' : Int) + 1) = ((i' + 1 : Nat) : Int) := by rw [w64 (by omega) (by omega)]; omega
    simp -implicitDefEqProofs [h71, hg1, hwi']
    exact .mk (m := m' - 1) (by omega) (by rw [hJ]; exact ⟨i' + 1, by omega, rfl, by simp⟩)
end
end Go.Proofs.Ytomhcjiefmaopaa
