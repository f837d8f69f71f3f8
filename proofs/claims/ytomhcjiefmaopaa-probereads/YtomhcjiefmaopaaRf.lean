/-
  A part of the proof of ProbeReads, over the seat Ytomhcjiefmaopaa: for every input the law returns true, and the input reads as it did.
-/
import Derived.Test.YtomhcjiefmaopaaRe
import Derived.Test.YtomhcjiefmaopaaRows
import Derived.ProofKit
set_option linter.all false
set_option linter.all false
set_option maxRecDepth 100000
set_option maxHeartbeats 4000000
namespace Go.Proofs.Ytomhcjiefmaopaa
open Go Go.RowKit Go.Proofs
theorem rdGo_can {bs : List UInt8} {a limit : Nat} : ∀ {f k n v p : Nat}, rdGo bs a limit f k n = (v, p, 0) → ∃ m, v = n + m * 128 ^ k ∧ bs.drop (a + k) = numS m ++ bs.drop p ∧ (0 < k → 0 < m)
  | 0, k, n, v, p, h => by simp [rdGo] at h
  | f + 1, k, n, v, p, h => by
    rw [rdGo] at h
    split at h
    · simp at h
    · rename_i c hc
      have hlt := (List.getElem?_eq_some_iff.1 hc)
      have hd : bs.drop (a + k) = c :: bs.drop (a + k + 1) := by rw [List.drop_eq_getElem_cons hlt.1, hlt.2]
      split at h
      · rename_i h1
        split at h
        · simp at h
        · rename_i h2
          split at h
          · simp at h
          · simp only [Prod.mk.injEq, and_true] at h
            refine ⟨c.toNat, by rw [← h.1, Nat.mod_eq_of_lt h1], ?_, fun hk => by omega⟩
            rw [numS_lo h1, hd, ← h.2]
            have : UInt8.ofNat c.toNat = c := by simp
            rw [this]; rfl
      · rename_i h1
        obtain ⟨m, e1, e2, e3⟩ := rdGo_can h
        have h3 : c.toNat < 256 := c.toNat_lt
        have hm := e3 (by omega)
        refine ⟨c.toNat % 128 + 128 * m, ?_, ?_, fun _ => by omega⟩
        · rw [e1, Nat.pow_succ, Nat.add_mul, Nat.mul_comm (128 ^ k) 128, ← Nat.mul_assoc, Nat.mul_comm m 128]; omega
        · rw [numS_hi (by omega), hd, show (c.toNat % 128 + 128 * m) % 128 + 128 = c.toNat by omega, show (c.toNat % 128 + 128 * m) / 128 = m by omega]
          have : UInt8.ofNat c.toNat = c := by simp
          rw [this, show a + k + 1 = a + (k + 1) by omega, e2]; rfl
theorem rd_can {bs : List UInt8} {a limit v p : Nat} (h : rdNum bs a limit = (v, p, 0)) : bs.drop a = numS v ++ bs.drop p := by
  obtain ⟨m, e1, e2, _⟩ := rdGo_can h
  rw [Nat.pow_zero, Nat.mul_one, Nat.zero_add] at e1
  rw [e1]; exact e2
theorem st_can {cs : List UInt8} {s : Nat × Nat} {lim v p : Nat} (h : st cs s lim = (v, p, 0)) : s.2 = 0 ∧ cs.drop s.1 = numS v ++ cs.drop p := by
  unfold st at h
  split at h
  · rename_i h0
    exact ⟨h0, rd_can h⟩
  · rename_i h0
    simp only [Prod.mk.injEq] at h
    exact absurd h.2.2 h0
theorem lp_can {cs : List UInt8} : ∀ {m p : Nat} {acc l : List En} {q : Nat}, lpS cs m p acc = (l, q, 0) → ∃ k, l = acc ++ k ∧ k.length = m ∧ cs.drop p = bodyS k ++ cs.drop q ∧ ∀ e ∈ k, enOk e
  | 0, p, acc, l, q, h => by
    simp only [lpS, Prod.mk.injEq, and_true] at h
    exact ⟨[], by simp [h.1], rfl, by rw [h.2]; rfl, by simp⟩
  | m + 1, p, acc, l, q, h => by
    obtain ⟨r, p1, e1, h1⟩ : ∃ r p1 e1, rdNum cs p 65535 = (r, p1, e1) := ⟨_, _, _, rfl⟩
    obtain ⟨s, p2, e2, h2⟩ : ∃ r p2 e2, rdNum cs p1 268435456 = (r, p2, e2) := ⟨_, _, _, rfl⟩
    rw [lpS_step h1 h2] at h
    by_cases x1 : e1 = 0
    · rw [if_neg (by omega)] at h
      by_cases x2 : e2 = 0
      · rw [if_neg (by omega)] at h
        subst x1 x2
        obtain ⟨k, k1, k2, k3, k4⟩ := lp_can h
        refine ⟨(r, s) :: k, by rw [k1]; simp, by simp [k2], ?_, ?_⟩
        · rw [rd_can h1, rd_can h2, k3]; simp [bodyS]
        · intro e he
          rcases List.mem_cons.1 he with rfl | he
          · have b1 := ((rdGo_lt h1).1 rfl).2.2
            have b2 := ((rdGo_lt h2).1 rfl).2.2
            exact ⟨by simp; omega, by simp; omega⟩
          · exact k4 e he
      · rw [if_pos x2] at h
        simp only [Prod.mk.injEq] at h
        exact absurd h.2.2 x2
    · rw [if_pos x1] at h
      simp only [Prod.mk.injEq] at h
      exact absurd h.2.2 x1
theorem list_can {cs : List UInt8} {l : List En} {q : Nat} (h : listS cs = (l, q, 0)) : cs.drop 1 = numS l.length ++ (bodyS l ++ cs.drop q) ∧ (∀ e ∈ l, enOk e) ∧ l.length ≤ 65536 := by
  unfold listS at h
  split at h
  · rename_i h0
    simp only [Prod.mk.injEq] at h
    exact absurd h.2.2 h0
  · rename_i h0
    have h0 : (rdNum cs 1 65536).2.2 = 0 := by omega
    have h1 : rdNum cs 1 65536 = ((rdNum cs 1 65536).1, (rdNum cs 1 65536).2.1, 0) := by rw [← h0]
    obtain ⟨k, k1, k2, k3, k4⟩ := lp_can h
    rw [List.nil_append] at k1
    subst k1
    refine ⟨?_, k4, ?_⟩
    · rw [rd_can h1, k3, k2]
    · rw [k2]; exact ((rdGo_lt h1).1 rfl).2.2
theorem prS_can {bs : List UInt8} (h : (prS bs).err = 0) : bs = sealS (pbody (prS bs)) ∧ (prS bs).Ok ∧ (∀ e ∈ (prS bs).l, enOk e) ∧ (prS bs).l.length ≤ 65536 := by
  cases hop : openS bs with
  | none => unfold prS at h; rw [hop] at h; cases h
  | some cs =>
    by_cases hm : (cs.getD 0 0).toNat ≠ 209 ∨ cs.length = 0
    · unfold prS at h; rw [hop] at h; simp only [] at h; rw [if_pos hm] at h; cases h
    obtain ⟨a1, s1, e1⟩ : ∃ a s, st cs (listS cs).2 65536 = (a, s) := ⟨_, _, rfl⟩
    obtain ⟨a2, s2, e2⟩ : ∃ a s, st cs s1 65536 = (a, s) := ⟨_, _, rfl⟩
    obtain ⟨a3, s3, e3⟩ : ∃ a s, st cs s2 3 = (a, s) := ⟨_, _, rfl⟩
    obtain ⟨a4, s4, e4⟩ : ∃ a s, st cs s3 67108864 = (a, s) := ⟨_, _, rfl⟩
    obtain ⟨a5, ⟨p5, x5⟩, e5⟩ : ∃ a s, st cs s4 67108864 = (a, s) := ⟨_, _, rfl⟩
    have hpr := prS_of hop hm e1 e2 e3 e4 e5
    rw [hpr] at h ⊢
    simp only [] at h ⊢
    by_cases hx : x5 = 0
    rotate_left
    · rw [if_pos hx] at h; exact absurd h hx
    rw [if_neg (by omega)] at h ⊢
    by_cases hlt : p5 < cs.length
    · rw [if_pos hlt] at h; cases h
    rw [if_neg hlt] at h ⊢
    by_cases hr : rightB (listS cs).1 = false ∨ ¬ a2 ≤ a1
    · rw [if_pos hr] at h; cases h
    rw [if_neg hr]
    subst hx
    obtain ⟨x4, c5⟩ := st_can e5
    obtain ⟨p4, y4⟩ := s4
    simp only at x4 c5
    subst x4
    obtain ⟨x3, c4⟩ := st_can e4
    obtain ⟨p3, y3⟩ := s3
    simp only at x3 c4
    subst x3
    obtain ⟨x2, c3⟩ := st_can e3
    obtain ⟨p2, y2⟩ := s2
    simp only at x2 c3
    subst x2
    obtain ⟨x1, c2⟩ := st_can e2
    obtain ⟨p1, y1⟩ := s1
    simp only at x1 c2
    subst x1
    obtain ⟨x0, c1⟩ := st_can e1
    obtain ⟨l, p0, y0, hls⟩ : ∃ l p0 y0, listS cs = (l, p0, y0) := ⟨_, _, _, rfl⟩
    rw [hls] at x0 c1 e1
    simp only at x0 c1
    subst x0
    obtain ⟨c0, hok, hll⟩ := list_can hls
    have hcs : cs = pbody ⟨0, l, a1, a2, a3, a4, a5⟩ := by
      have hpos : 0 < cs.length := by omega
      have h0 : cs[0] = 209 := by
        have h1 : cs.getD 0 0 = cs[0] := by simp [hpos]
        have h2 : (cs[0]).toNat = 209 := by rw [← h1]; omega
        exact UInt8.toNat_inj.1 (by rw [h2]; rfl)
      have hd : cs = cs[0] :: cs.drop 1 := by
        have := List.drop_eq_getElem_cons hpos
        rw [List.drop_zero] at this; exact this
      have hend : cs.drop p5 = [] := List.drop_eq_nil_of_le (by omega)
      rw [hd, h0, c0, c1, c2, c3, c4, c5, hend]
      simp [pbody]
    have hle : ∀ {s : Nat × Nat} {lim v : Nat} {q : Nat × Nat}, st cs s lim = (v, q) → v ≤ lim := by
      intro s lim v q hst
      unfold st at hst
      split at hst
      · obtain ⟨q1, q2⟩ := q
        have h9 := rdGo_lt hst
        by_cases hx : q2 = 0
        · exact (h9.1 hx).2.2
        · rw [(h9.2.1 hx).2]; exact Nat.zero_le _
      · cases hst; exact Nat.zero_le _
    rw [hls]
    refine ⟨?_, ⟨hle e1, hle e2, hle e3, hle e4, hle e5⟩, hok, hll⟩
    have hbs : bs = sealS cs := by
      unfold openS at hop
      split at hop
      · cases hop
      · split at hop
        · rename_i h9
          injection hop with hop
          rw [hop] at h9; exact h9
        · cases hop
    rw [hbs]; congr 1
section
variable {ro : Nat → Option (List AVal)}
theorem anchor22 : ∃ h', Run (cfgR ro) 22 [] heap0 (.bool true) h' := by
  have h : isTrueR (callF (cfgR ro) 800 22 [] heap0) = true := by kernel_rfl
  obtain ⟨h', e⟩ := isTrueR_ok h
  exact ⟨h', 800, e⟩
theorem c00 : cplxBin .eql .f64 0 0 0 0 = .ok (.bool true) := by kernel_rfl
theorem law5 {b : AVal} {bs : List UInt8} (hb : ∀ h, BS (cfgR ro) h b bs) (hs : ∀ o f l q, b ≠ .slc o f l q) : Ev (cfgR ro) 5 [b] heap0 (fun v h => v = .bool true) := by
  refine Ev.wp rfl rfl Try.func5 rfl ?_
  obtain ⟨h1, ha⟩ := anchor22 (ro := ro)
  have hL2 : ∀ h, lenR (cfgR ro) h 24 b = .ok (.int .i64 bs.length) := fun h => (hb h).lenR un24
  simp -implicitDefEqProofs [Try.f5, Ev.run ha, hL2]
  refine orD (fun h2 => ?_) (fun h2 => ?_)
  · simp -implicitDefEqProofs
  simp -implicitDefEqProofs
  have hL0 : ∀ h, lenR (cfgR ro) h 23 .nils = .ok (.int .i64 0) := fun h => by have := (Sl.nil (c := cfgR ro) (h := h) (sz := 2)).lenR (t := 23) un23; simpa using this
  refine pdec23 (hb h1) hs (by omega) (fun h3 k3 he => ?_) (fun v3 h3 k3 he m3 => ?_)
  · simp -implicitDefEqProofs [zP]
    refine pread24 (hb h3) hs (by omega) (fun h4 k4 _ => ?_) (fun v4 h4 k4 he' _ => absurd he' he)
    have he2 : ¬ ((prS bs).err : Int) = 0 := by omega
    obtain ⟨er, her⟩ : ∃ er, er = (prS bs).err := ⟨_, rfl⟩
    rw [← her] at he he2 ⊢
    simp -implicitDefEqProofs [zR, he, he2, hL0, c00]
  · simp -implicitDefEqProofs [pcells]
    refine pread24 (hb h3) hs (by omega) (fun h4 k4 he' => absurd he he') (fun v4 h4 k4 _ m4 => ?_)
    obtain ⟨hbs, ok, hen, hll⟩ := prS_can he
    obtain ⟨P, hP⟩ : ∃ P, P = prS bs := ⟨_, rfl⟩
    rw [← hP] at hbs ok hen hll m3 m4 ⊢
    simp -implicitDefEqProofs [pcells, rcells]
    refine pref25 (p := P) ((Mine.sl m3).old k4) (by omega) ok (fun v5 h5 k5 m5 => ?_)
    simp -implicitDefEqProofs [rcells]
    refine psame26 (p := P) (Mine.sl m5) ((Mine.sl m4).old k5) (by omega) ?_
    simp -implicitDefEqProofs
    refine pbytes27 (p := P) ((Mine.sl m4).old k5) hll hen ok (fun v6 h6 k6 m6 => ?_)
    have cw : convR (cfgR ro) h6 24 9 v6 = .ok (.str (sealS (pbody P))) := m6.toBS.conv un24 un9 un5
    have cb : convR (cfgR ro) h6 24 9 b = .ok (.str bs) := (hb h6).conv un24 un9 un5
    have cb5 : convR (cfgR ro) h5 24 9 b = .ok (.str bs) := (hb h5).conv un24 un9 un5
    simp -implicitDefEqProofs [-convR, cw, cb, cb5, ← hbs, same_self]
    exact ⟨.inl (by decide +kernel), .inl (by decide +kernel)⟩
end
end Go.Proofs.Ytomhcjiefmaopaa
set_option linter.all false
set_option maxRecDepth 100000
set_option maxHeartbeats 4000000
namespace Go.Proofs.Ytomhcjiefmaopaa
open Go Go.RowKit Go.Proofs Go.ChangeShapes Go.WideShapes Go.ChangeAt

theorem byte_of {ro n} {x : List AVal} (h : Rdg Try.prog ro n 5 x) : ∃ b : UInt8, x = [bcell b] := by
  obtain ⟨i, h0, l0, u0⟩ := rdg_int Try.underlying5 h
  have m0 : IntKind.u8.min = 0 := by decide
  have x0 : IntKind.u8.max = 255 := by decide
  rw [m0] at l0
  rw [x0] at u0
  obtain ⟨a, rfl⟩ := Int.eq_ofNat_of_zero_le l0
  exact ⟨UInt8.ofNat a, by rw [h0]; unfold bcell; rw [toNat_ofNat (by omega)]⟩
theorem bytes_of : ∀ {ess : List (List AVal)}, (∀ x ∈ ess, ∃ b : UInt8, x = [bcell b]) → ∃ bs : List UInt8, ess = bes bs
  | [], _ => ⟨[], rfl⟩
  | x :: ess, h => by
    obtain ⟨b, rfl⟩ := h x (by simp)
    obtain ⟨bs, rfl⟩ := bytes_of (ess := ess) (fun y hy => h y (by simp [hy]))
    exact ⟨b :: bs, rfl⟩
theorem absV_noSlc {v : Value} : ∀ o f l q, absV v ≠ .slc o f l q := by
  intro o f l q
  unfold absV
  split
  · split <;> simp
  · unfold absC
    split <;> (try split) <;> simp

theorem own : ownKnob Try.prog.godebug = none := by kernel_rfl
theorem laidOut : laidOutB Try.prog = true := by kernel_rfl

theorem reads_lifted (os : Os) (started : os.Started) (H : Type) (enc : TypeId × Value → H) :
    ReturnsInHanded {} Try.checked os 5 .any (Ytomhcjiefmaopaa.Rows.probeReadsSpec.pre6 enc Try.prog Try.f5 Ytomhcjiefmaopaa.Rows.probeReadsRow.domain false) (Ytomhcjiefmaopaa.Rows.probeReadsSpec.post enc Try.prog Try.f5 false true false false) := by
  refine returnsInHanded_of_change (C := Try.checked) own started (by kernel_rfl) Try.func5
    (ChangeSpec.witness6 (enc := enc) (C := Try.checked) false ⟨#[], #[.slice none 0 0], []⟩ 8 (by kernel_rfl) (by kernel_rfl) (by kernel_rfl) (by kernel_rfl)) ?_
  intro W base args ds gs before hval0 hW hcnd _
  have hval : ∀ (j : Nat) t v, Try.f5.params[j]? = some t → args[j]? = some v → Value.okWide Try.prog W .any base t v := hval0
  have hW' := hW
  have hlt := hW.lt
  obtain ⟨p, q, hA0, hV, rfl, hfz, hnd⟩ := hW
  have hA : DataW.TrodAll enc Try.prog W 0 (fun _ => true) true Try.f5.params.toList args.toList ds p := hA0
  have hA1 := hA
  rw [Try.params5] at hA hval
  obtain ⟨v0, d0, rfl, rfl, h0⟩ := trodAll_one hA
  obtain ⟨rfl, rfl⟩ := trodVars_none hV
  obtain ⟨ess2, n2, hx2, hn2, hsl2⟩ := argSlice covAll (of_decide_eq_true (by kernel_rfl)) Try.underlying24 (by rw [co5]; decide) (hval 0 24 v0 rfl rfl) h0
  obtain ⟨bs, rfl⟩ := bytes_of (fun x hm => byte_of (hx2 x hm).2)
  have hB : ∀ h, BS (cfgR (roW W)) h (absV v0) bs := fun h => by
    have := hsl2 (cfgR (roW W)) h rfl
    rw [co5] at this
    exact this
  obtain ⟨k, v, h', hq, rfl⟩ := law5 hB absV_noSlc
  refine (entry (c := cfg) sureC (W := W) (args := #[v0]) (k := k) (v := .bool true) (h' := h') Try.func5 rfl rfl hq).mono fun e W' ⟨u, ι, he, hv, hb⟩ => ?_
  have hu : u = .bool true := hv
  subst hu
  refine ⟨_, he, post_below hW' (fun b sp hd => trodAll_mk1 (shut_bool Try.underlying4 true)) (trodAll_below laidOut hb (by kernel_rfl) hA1 (fun x hx => hlt x (by simpa using hx))) (by exact rfl) hb⟩

theorem reads_holds : Ytomhcjiefmaopaa.Rows.ProbeReadsSaid :=
  OpenClaim.holds_of_wide 5 Try.f5 rfl rfl rfl rfl rfl rfl rfl ⟨rfl, rfl, rfl, rfl, rfl⟩ rfl rfl rfl rfl rfl (by kernel_rfl) Try.func5 (by kernel_rfl)
    (of_decide_eq_true (by kernel_rfl)) (by unfold Func.isWrapper; first | (rw [if_pos (by decide +kernel)]; kernel_rfl) | (rw [if_neg (by decide +kernel)]; exact ⟨rfl, rfl⟩))
    (fun os started H enc _ => reads_lifted os started H enc)
end Go.Proofs.Ytomhcjiefmaopaa
