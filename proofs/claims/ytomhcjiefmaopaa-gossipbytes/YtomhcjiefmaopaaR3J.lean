/-
  A part of the proof of GossipBytes, over the seat Ytomhcjiefmaopaa: for every input the law returns true, and the input reads as it did.
-/
import Derived.Test.YtomhcjiefmaopaaR3I
set_option linter.all false
set_option maxRecDepth 100000
set_option maxHeartbeats 4000000
namespace Go.Proofs.Ytomhcjiefmaopaa
open Go Go.RowKit Go.Proofs

@[simp] theorem same_self (v : AVal) : sameRes (.ok v) v = true := AVal.beq_refl v

section
variable {ro : Nat → Option (List AVal)}

theorem read13 {h : AHeap} {v : AVal} {bs : List UInt8} (hv : BS (cfgR ro) h v bs) (hs : ∀ o f l q, v ≠ .slc o f l q) (hn : bs.length ≤ 2 ^ 40) {Q : AVal → AHeap → Prop}
    (hq : ∀ v' h', Old h h' → Mine h h' 2 ((decS 210 bs).1.map ecells) v' → Q (.tuple [v', .int .i64 (decS 210 bs).2]) h') : Ev (cfgR ro) 13 [v] h Q := by
  refine Ev.wp rfl rfl Try.func13 rfl ?_
  have hL : ∀ h', Old h h' → lenR (cfgR ro) h' 24 v = .ok (.int .i64 bs.length) := fun h' ho => (hv.old ho).lenR un24
  have hL0 := hL h (Old.refl h)
  have bad : ∀ (x : Nat) (h' : AHeap), decS 210 bs = ([], x) → Old h h' → Q (.tuple [.nils, .int .i64 x]) h' := fun x h' hx ho => by rw [hx] at hq; exact hq _ _ ho (Mine.nil _ _ _)
  have hconv : ∀ h', Old h h' → convR (cfgR ro) h' 24 9 v = .ok (.str bs) := fun h' ho => (hv.old ho).conv un24 un9 un5
  have hconv0 := hconv h (Old.refl h)
  simp [Try.f13, hL0]
  refine orD (fun h1 => ?_) (fun h1 => ?_)
  · simp [h1, hL0]
    exact bad 31 h (by unfold decS openS; rw [if_pos (by omega)]) (Old.refl h)
  obtain ⟨n, hn4⟩ : ∃ n, bs.length = n + 4 := ⟨bs.length - 4, by omega⟩
  have e0 : IntKind.i64.wrap ((bs.length : Int) - 4) = (n : Int) := by rw [w64 (by omega) (by omega)]; omega
  obtain ⟨vc, u1, u2⟩ := hv.upto (n := n) (by omega) hs (k := .i64)
  obtain ⟨cs, hcs⟩ : ∃ cs, cs = bs.take n := ⟨_, rfl⟩
  rw [← hcs] at u2
  have hcl : cs.length = n := by rw [hcs]; simp; omega
  simp [h1, hL0, e0, u1]
  refine seal42 u2 (by omega) (fun v2 h2 m2 k2 => ?_)
  have hconv2 := hconv h2 k2
  have hcv2 : convR (cfgR ro) h2 24 9 v2 = .ok (.str (sealS cs)) := m2.toBS.conv un24 un9 un5
  have hL2 := hL h2 k2
  simp [h1, hL2, e0, -convR, hconv2, hcv2]
  refine ⟨.inl (by decide +kernel), .inl (by decide +kernel), by first | exact .inl (by decide +kernel) | (right; simp [-convR, hconv0]), ?_⟩
  have hop : openS bs = if sealS cs = bs then some cs else none := by
    unfold openS
    rw [if_neg (by omega), show bs.length - 4 = n by omega, ← hcs]
    by_cases hx : sealS cs = bs
    · rw [if_pos hx, if_pos hx.symm]
    · rw [if_neg hx, if_neg (fun h => hx h.symm)]
  refine orD (fun h3 => ?_) (fun h3 => ?_)
  rotate_left
  · simp
    exact bad 31 h2 (by unfold decS; rw [hop, if_neg h3]) k2
  rw [if_pos h3] at hop
  have hdec : decS 210 bs = if (cs.getD 0 0).toNat ≠ 210 ∨ cs.length = 0 then ([], 30) else
    if (listS cs).2.2 ≠ 0 then ([], (listS cs).2.2) else if (listS cs).2.1 < cs.length then ([], 15) else if rightB (listS cs).1 = false then ([], 11) else ((listS cs).1, 0) := by
    unfold decS; rw [hop]
  obtain ⟨c3, u3, u4⟩ := (hv.old k2).upto (n := n) (by omega) hs (k := .i64)
  rw [← hcs] at u4
  have hL3 : lenR (cfgR ro) h2 24 c3 = .ok (.int .i64 cs.length) := u4.lenR un24
  simp [hL2, e0, u3, hL3]
  refine orD (fun h4 => ?_) (fun h4 => ?_)
  · simp [h4]
    exact bad 30 h2 (by rw [hdec, if_pos (.inr (by first | omega | (subst h4; rfl)))]) k2
  have hpos : 0 < cs.length := by
    first | omega | (exact List.length_pos_iff.2 h4)
  have hx0 : indexAddrR Try.prog 24 c3 (.int .i64 0) = .ok (elp c3 1 0) := u4.idx un24 sz5 hpos
  have ha0 : loadR (cfgR ro) h2 5 (elp c3 1 0) = .ok (.int .u8 cs[0].toNat) := u4.load hpos ag5
  have hg0 : cs.getD 0 0 = cs[0] := by simp [hpos]
  obtain ⟨b0, hb0⟩ : ∃ b, b = cs[0].toNat := ⟨_, rfl⟩
  rw [← hb0] at ha0
  simp [h4, hx0, ha0]
  refine orD (fun h5 => ?_) (fun h5 => ?_)
  rotate_left
  · simp
    exact bad 30 h2 (by rw [hdec, if_pos (.inl (by rw [hg0, ← hb0]; omega))]) k2
  have hdec2 : decS 210 bs = if (listS cs).2.2 ≠ 0 then ([], (listS cs).2.2) else if (listS cs).2.1 < cs.length then ([], 15) else if rightB (listS cs).1 = false then ([], 11) else ((listS cs).1, 0) := by
    rw [hdec, if_neg]; rw [hg0, ← hb0]; omega
  simp
  have hcl2 : cs.length ≤ 2 ^ 40 := by omega
  refine readnum43 (a := 1) (limit := 65536) u4 hcl2 (by decide) (by decide) (fun nn p x hrd => ?_)
  obtain ⟨f1, f2, f3⟩ := rdGo_lt hrd
  simp
  obtain ⟨I, hI⟩ : ∃ I : Nat → List AVal → AHeap → Prop, I = fun m env h' => ∃ (i p e : Nat) (acc : List En) (vv z : AVal), i + m = nn ∧ Old h2 h' ∧ p ≤ 2 ^ 40 ∧ Mine h2 h' 2 (acc.map ecells) vv ∧ acc.length = i ∧
      (e = 0 → lpS cs (nn - i) p acc = listS cs) ∧ (e ≠ 0 → (listS cs).2.2 = e) ∧ nn ≤ 65536 ∧ env = (.dead :: .dead :: .dead :: .dead :: c3 :: vv :: .int .u64 nn :: .int .i64 p :: .int .i64 e :: .int .u64 i :: .dead :: .dead :: .dead :: .dead :: .dead :: .dead :: .dead :: .dead :: .dead :: .dead :: .dead :: .dead :: .dead :: .dead :: .dead :: .dead :: .dead :: .dead :: .dead :: .dead :: .dead :: .dead :: .dead :: .dead :: .dead :: .dead :: .dead :: .dead :: .dead :: .dead :: .dead :: .dead :: .dead :: .dead :: .dead :: .dead :: .dead :: .dead :: .dead :: .dead :: .dead :: .dead :: .dead :: .dead :: .dead :: .dead :: .dead :: .dead :: .dead :: .dead :: .dead :: .dead :: .dead :: .dead :: .dead :: .dead :: .dead :: .dead :: .dead :: .dead :: .dead :: .dead :: .dead :: .dead :: .dead :: .dead :: .dead :: .dead :: .dead :: .dead :: .dead :: .dead :: .dead :: .dead :: .dead :: .dead :: .dead :: .dead :: .dead :: .dead :: .dead :: []) := ⟨_, rfl⟩
  refine loop_of I ?_ nn (by
    rw [hI]
    refine ⟨0, p, x, [], .nils, .dead, by omega, Old.refl _, ?_, Mine.nil _ _ _, rfl, fun hx => ?_, fun hx => ?_, ?_, rfl⟩
    · by_cases hx : x = 0
      · have := (f1 hx).2.1; omega
      · rw [(f2 hx).1]; decide
    · unfold listS; rw [show rdNum cs 1 65536 = (nn, p, x) from hrd]; simp [hx]
    · unfold listS; rw [show rdNum cs 1 65536 = (nn, p, x) from hrd]; simp [hx]
    · by_cases hx : x = 0
      · exact (f1 hx).2.2
      · rw [(f2 hx).2]; decide)
  rintro m env h' hi
  rw [hI] at hi
  obtain ⟨i, p, e, acc, vv, z, hin, ho, hp, hm, hal, he0, he1, hn6, rfl⟩ := hi
  have hwi : IntKind.u64.wrap ((i : Int) + 1) = ((i + 1 : Nat) : Int) := by rw [wrap64]; omega
  have uc := u4.old ho
  have fin : (e ≠ 0 ∨ nn - i = 0) → True := fun _ => trivial
  simp
  refine orD (fun h6 => ?_) (fun h6 => ?_)
  · simp [h6]
    refine orD (fun h7 => ?_) (fun h7 => ?_)
    · have he : e = 0 := by omega
      subst he
      have hlp := he0 rfl
      rw [show nn - i = (nn - (i + 1)) + 1 by omega] at hlp
      simp
      refine readnum43 (limit := 65535) uc hcl2 hp (by decide) (fun a1 p1 e1 hr1 => ?_)
      obtain ⟨g1, g2, g3⟩ := rdGo_lt hr1
      have hp1 : p1 ≤ 2 ^ 40 := by
        by_cases hx : e1 = 0
        · have := (g1 hx).2.1; omega
        · rw [(g2 hx).1]; exact hp
      have a1b : a1 < 65536 := by
        by_cases hx : e1 = 0
        · have := (g1 hx).2.2; omega
        · rw [(g2 hx).2]; decide
      have c1 : IntKind.u16.wrap (a1 : Int) = (a1 : Int) := by rw [wrap16]; omega
      obtain ⟨i1, hi1⟩ : ∃ x : Int, x = ((i + 1 : Nat) : Int) := ⟨_, rfl⟩
      rw [← hi1] at hwi
      simp
      refine orD (fun h8 => ?_) (fun h8 => ?_)
      · have hx1 : e1 = 0 := by omega
        subst hx1
        simp
        refine readnum43 (limit := 268435456) uc hcl2 hp1 (by decide) (fun b p2 e2 hr2 => ?_)
        obtain ⟨q1, q2, q3⟩ := rdGo_lt hr2
        have hp2 : p2 ≤ 2 ^ 40 := by
          by_cases hx : e2 = 0
          · have := (q1 hx).2.1; omega
          · rw [(q2 hx).1]; exact hp1
        have hbb : b < 4294967296 := by
          by_cases hx : e2 = 0
          · have := (q1 hx).2.2; omega
          · rw [(q2 hx).2]; decide
        have c2 : IntKind.u32.wrap (b : Int) = (b : Int) := by rw [wrap32]; omega
        obtain ⟨v9, h9, x1, m9, o9⟩ := (hm.keep ((Old.refl h').push (.row 2 false (ecells (a1, b))))).append1 (bytes := 8) (e := ecells (a1, b)) (by omega) rfl (by simp; omega) (ho.push _)
        simp only [ecells] at x1
        rw [lpS_step hr1 hr2] at hlp
        simp only [ne_eq, not_true_eq_false, if_false] at hlp
        simp [c1, c2, buildSliceR, reps, x1, hwi]
        exact .mk (m := m - 1) (by omega) (by
          rw [hI]
          refine ⟨i + 1, p2, e2, acc ++ [(a1, b)], v9, .dead, by omega, o9, hp2, by rw [List.map_append]; exact m9, by simp [hal], fun hx => ?_, fun hx => ?_, hn6, by rw [hi1]⟩
          · rw [if_neg (by omega)] at hlp; exact hlp
          · rw [if_pos hx] at hlp; rw [← hlp])
      · have hx1 : e1 ≠ 0 := by omega
        obtain ⟨v9, h9, x1, m9, o9⟩ := (hm.keep ((Old.refl h').push (.row 2 false (ecells (a1, 0))))).append1 (bytes := 8) (e := ecells (a1, 0)) (by omega) rfl (by simp; omega) (ho.push _)
        have c2 : IntKind.u32.wrap 0 = 0 := by decide
        simp only [ecells] at x1
        simp at x1
        simp [c1, c2, buildSliceR, reps, x1, hwi]
        exact .mk (m := m - 1) (by omega) (by
          rw [hI]
          refine ⟨i + 1, p1, e1, acc ++ [(a1, 0)], v9, .dead, by omega, o9, hp1, by rw [List.map_append]; exact m9, by simp [hal], fun hx => absurd hx hx1, fun _ => ?_, hn6, by rw [hi1]⟩
          rw [← hlp, lpS, hr1]; simp [hx1])
    · have hx : e ≠ 0 := by omega
      simp [hx]
      exact bad e h' (by rw [hdec2, he1 hx]; simp [hx]) (k2.trans ho)
  · simp [h6]
    by_cases hx : e = 0
    · subst hx
      have hlp := he0 rfl
      rw [show nn - i = 0 by omega, lpS] at hlp
      have hL4 : lenR (cfgR ro) h' 24 c3 = .ok (.int .i64 cs.length) := uc.lenR un24
      simp [hL4]
      refine orD (fun h7 => ?_) (fun h7 => ?_)
      · simp
        exact bad 15 h' (by rw [hdec2, ← hlp]; simp; omega) (k2.trans ho)
      · simp
        have hens : Ens (cfgR ro) h' vv acc := hm.sl
        refine right8 hens (by omega) ?_
        simp
        refine orB (fun h10 => ?_) (fun h10 => ?_)
        · simp [h10]
          have hd : decS 210 bs = (acc, 0) := by
            rw [hdec2, ← hlp]
            simp only [ne_eq, not_true_eq_false, if_false]
            rw [if_neg (by omega), h10]; rfl
          rw [hd] at hq
          exact hq _ _ (k2.trans ho) (hm.base k2.1)
        · simp [h10]
          refine bad 11 h' ?_ (k2.trans ho)
          rw [hdec2, ← hlp]
          simp only [ne_eq, not_true_eq_false, if_false]
          rw [if_neg (by omega), if_pos h10]
    · simp [hx]
      exact bad e h' (by rw [hdec2, he1 hx]; simp [hx]) (k2.trans ho)
end
end Go.Proofs.Ytomhcjiefmaopaa
