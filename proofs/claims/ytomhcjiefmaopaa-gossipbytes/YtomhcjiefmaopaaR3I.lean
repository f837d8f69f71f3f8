/-
  A part of the proof of GossipBytes, over the seat Ytomhcjiefmaopaa: for every input the law returns true, and the input reads as it did.
-/
import Derived.Test.YtomhcjiefmaopaaR3H
set_option linter.all false
set_option maxRecDepth 100000
set_option maxHeartbeats 4000000
namespace Go.Proofs.Ytomhcjiefmaopaa
open Go Go.RowKit Go.Proofs

theorem scp_to {c : Cfg} {f : Nat} {K : List AVal → AHeap → Prop} {E : Nat → List AVal → AHeap → Prop} {R : List AVal → AHeap → Prop} {G : Nat → List AVal → AHeap → Prop} {a rest : Code} {l : Nat} {env : List AVal} {h : AHeap}
    (hf : findLabel a l = some rest) (q : wp c f rest K E R (scpG c f K E R G a) env h) : scpG c f K E R G a l env h := by
  unfold scpG; rw [hf]; exact label_of q
theorem Mine.base {h0 h1 h : AHeap} {sz : Nat} {es : List (List AVal)} {v : AVal} (m : Mine h1 h sz es v) (hl : h0.next ≤ h1.next) : Mine h0 h sz es v := by
  obtain ⟨e1, e2⟩ := m
  exact ⟨e1, e2.imp id fun ⟨q, fz, a1, a2, a3, a4⟩ => ⟨q, fz, a1, Nat.le_trans hl a2, a3, a4⟩⟩

section
variable {ro : Nat → Option (List AVal)}

theorem dec10 {h : AHeap} {v : AVal} {bs : List UInt8} (hv : BS (cfgR ro) h v bs) (hs : ∀ o f l q, v ≠ .slc o f l q) (hn : bs.length ≤ 2 ^ 40) {Q : AVal → AHeap → Prop}
    (hq : ∀ v' h', Old h h' → Mine h h' 2 ((decS 210 bs).1.map ecells) v' → Q (.tuple [v', .int .i64 (decS 210 bs).2]) h') : Ev (cfgR ro) 10 [v] h Q := by
  refine Ev.wp rfl rfl Try.func10 rfl ?_
  simp [Try.f10]
  refine open34 hv hs hn (fun cs vc h1 hop mc k1 => ?_) (fun h1 hop k1 => ?_)
  rotate_left
  · simp
    refine scp_to rfl ?_
    simp
    have : decS 210 bs = ([], 31) := by unfold decS; rw [hop]
    rw [this] at hq
    exact hq _ _ k1 (Mine.nil _ _ _)
  have hcl : cs.length ≤ 2 ^ 40 := by
    unfold openS at hop
    split at hop
    · cases hop
    · split at hop
      · injection hop with hop; rw [← hop]; simp; omega
      · cases hop
  have hdec : decS 210 bs = if (cs.getD 0 0).toNat ≠ 210 ∨ cs.length = 0 then ([], 30) else
    if (listS cs).2.2 ≠ 0 then ([], (listS cs).2.2) else if (listS cs).2.1 < cs.length then ([], 15) else if rightB (listS cs).1 = false then ([], 11) else ((listS cs).1, 0) := by
    unfold decS; rw [hop]
  have bad : ∀ (x : Nat) (h' : AHeap), decS 210 bs = ([], x) → Old h h' → Q (.tuple [.nils, .int .i64 x]) h' := fun x h' hx ho => by rw [hx] at hq; exact hq _ _ ho (Mine.nil _ _ _)
  simp
  refine from35 mc.toBS (fun hb r hr rd0 k2 hnx => ?_)
  have k12 := k1.trans k2
  simp
  have hrn : h.next ≤ r := by rw [hr]; exact k1.1
  have old : ∀ h', Wst hb r hb h' → Old h h' := fun h' k => ⟨Nat.le_trans k12.1 k.1, fun o ho => by rw [k.2 o (Nat.lt_of_lt_of_le ho k12.1) (by omega)]; exact k12.2 o ho⟩
  have rst : ∀ {a b : AHeap}, Rst r a b → Wst hb r a b := fun k => ⟨by rw [k.1]; exact Nat.le_refl _, fun o _ ho => k.2 o ho⟩
  have hrb : r < hb.next := by omega
  refine byte36 rd0 hcl (by omega) (fun _ hlt h3 rd3 s3 => ?_) (fun _ hlt h3 rd3 s3 => ?_) (fun h => absurd rfl h)
  rotate_left
  · simp
    refine scp_to rfl ?_
    simp
    have := bad 30 h3 (by rw [hdec, if_pos (.inr (by omega))]) (old _ (rst s3))
    exact this
  have s3 := rst s3
  have hg0 : cs.getD 0 0 = cs[0] := by simp [hlt]
  simp
  refine orD (fun h4 => ?_) (fun h4 => ?_)
  rotate_left
  · simp
    refine scp_to rfl ?_
    simp
    have := bad 30 h3 (by rw [hdec, if_pos (.inl (by rw [hg0]; intro h; exact h4 (by omega)))]) (old _ s3)
    exact this
  have hdec2 : decS 210 bs = if (listS cs).2.2 ≠ 0 then ([], (listS cs).2.2) else if (listS cs).2.1 < cs.length then ([], 15) else if rightB (listS cs).1 = false then ([], 11) else ((listS cs).1, 0) := by
    rw [hdec, if_neg]; rw [hg0]; intro h; rcases h with h | h
    · exact h (by omega)
    · omega
  simp
  refine num37 rd3 hcl (by omega) (limit := 65536) (by decide) (fun _ n p x h5 hrd rd5 s5 => ?_) (fun h => absurd rfl h)
  have s5 := s3.trans (rst s5)
  obtain ⟨f1, f2, f3⟩ := rdGo_lt hrd
  simp
  obtain ⟨I, hI⟩ : ∃ I : Nat → List AVal → AHeap → Prop, I = fun m env h' => ∃ (i p e : Nat) (acc : List En) (vv : AVal), i + m = n ∧ Wst hb r hb h' ∧ RdAt h' r cs p e ∧ p ≤ cs.length ∧ Mine hb h' 2 (acc.map ecells) vv ∧ acc.length = i ∧
      (e = 0 → lpS cs (n - i) p acc = listS cs) ∧ (e ≠ 0 → i = n ∧ (listS cs).2.2 = e) ∧ n ≤ 65536 ∧ env = (.dead :: .dead :: .dead :: .dead :: vv :: .ptr r 0 :: .dead :: .dead :: .dead :: .dead :: .dead :: .dead :: .dead :: .dead :: .dead :: .dead :: .dead :: .dead :: .dead :: .dead :: .dead :: .dead :: .int .u64 n :: .int .u64 i :: .dead :: .dead :: .dead :: .dead :: .dead :: .dead :: .dead :: .dead :: .dead :: .dead :: .dead :: .dead :: .dead :: .dead :: .dead :: .dead :: .dead :: .dead :: .dead :: .dead :: .dead :: .dead :: .dead :: .dead :: []) := ⟨_, rfl⟩
  refine loop_of I ?_ n (by
    rw [hI]
    refine ⟨0, p, x, [], .nils, by omega, s5, rd5, ?_, Mine.nil _ _ _, rfl, fun hx => ?_, fun hx => ⟨?_, ?_⟩, ?_, rfl⟩
    · by_cases hx : x = 0
      · exact (f1 hx).2.1
      · rw [(f2 hx).1]; omega
    · unfold listS; rw [show rdNum cs 1 65536 = (n, p, x) from hrd]; simp [hx]
    · exact (f2 hx).2.symm
    · unfold listS; rw [show rdNum cs 1 65536 = (n, p, x) from hrd]; simp [hx]
    · by_cases hx : x = 0
      · exact (f1 hx).2.2
      · rw [(f2 hx).2]; decide)
  rintro m env h' hi
  rw [hI] at hi
  obtain ⟨i, p, e, acc, vv, hin, hw, rd, hp, hm, hal, he0, he1, hn6, rfl⟩ := hi
  have hwi : IntKind.u64.wrap ((i : Int) + 1) = ((i + 1 : Nat) : Int) := by rw [wrap64]; omega
  simp
  refine orD (fun h6 => ?_) (fun h6 => ?_)
  · have he : e = 0 := by
      rcases Nat.eq_zero_or_pos e with h | h
      · exact h
      · have := (he1 (by omega)).1; omega
    subst he
    have hlp := he0 rfl
    rw [show n - i = (n - (i + 1)) + 1 by omega] at hlp
    simp
    refine num37 rd hcl hp (limit := 65535) (by decide) (fun _ a1 p1 e1 h7 hr1 rd7 s7 => ?_) (fun h => absurd rfl h)
    obtain ⟨g1, g2, g3⟩ := rdGo_lt hr1
    have hp1 : p1 ≤ cs.length := by
      by_cases hx : e1 = 0
      · exact (g1 hx).2.1
      · rw [(g2 hx).1]; exact hp
    have hm7 : Mine hb h7 2 (acc.map ecells) vv := by
      obtain ⟨x1, x2⟩ := hm
      exact ⟨x1, x2.imp id fun ⟨q, fz, a1, a2, a3, a4⟩ => ⟨q, fz, a1, a2, by rw [s7.1]; exact a3, by rw [s7.2 q (by omega)]; exact a4⟩⟩
    have w7 := hw.trans (rst s7)
    have a1b : a1 < 65536 := by
      by_cases hx : e1 = 0
      · have := (g1 hx).2.2; omega
      · rw [(g2 hx).2]; decide
    have c1 : IntKind.u16.wrap (a1 : Int) = (a1 : Int) := by rw [wrap16]; omega
    simp [c1]
    -- behind the second number
    have tail : ∀ (b : Nat) (p2 e2 : Nat) (h8 : AHeap), b < 4294967296 → p2 ≤ cs.length → RdAt h8 r cs p2 e2 → Rst r h7 h8 → (e2 = 0 → lpS cs (n - (i + 1)) p2 (acc ++ [(a1, b)]) = listS cs) → (e2 ≠ 0 → (listS cs).2.2 = e2) →
        True := fun _ _ _ _ _ _ _ _ _ _ => trivial
    by_cases hx1 : e1 = 0
    · subst hx1
      refine num37 rd7 hcl hp1 (limit := 268435456) (by decide) (fun _ b p2 e2 h8 hr2 rd8 s8 => ?_) (fun h => absurd rfl h)
      obtain ⟨q1, q2, q3⟩ := rdGo_lt hr2
      have hp2 : p2 ≤ cs.length := by
        by_cases hx : e2 = 0
        · exact (q1 hx).2.1
        · rw [(q2 hx).1]; exact hp1
      have hbb : b < 4294967296 := by
        by_cases hx : e2 = 0
        · have := (q1 hx).2.2; omega
        · rw [(q2 hx).2]; decide
      have c2 : IntKind.u32.wrap (b : Int) = (b : Int) := by rw [wrap32]; omega
      have hm8 : Mine hb h8 2 (acc.map ecells) vv := by
        obtain ⟨x1, x2⟩ := hm7
        exact ⟨x1, x2.imp id fun ⟨q, fz, a1, a2, a3, a4⟩ => ⟨q, fz, a1, a2, by rw [s8.1]; exact a3, by rw [s8.2 q (by omega)]; exact a4⟩⟩
      have w8 := w7.trans (rst s8)
      obtain ⟨v9, h9, x1, m9, n9, o9⟩ := (hm8.keep ((Old.refl h8).push (.row 2 false (ecells (a1, b))))).append1G (bytes := 8) (e := ecells (a1, b)) (by omega) rfl (by simp; omega) (by have := w8.1; simp; omega)
      have rd9 : RdAt h9 r cs p2 e2 := ⟨by rw [o9 r hrb, AHeap.get_push, if_neg (by have := rd8.2; omega)]; exact rd8.1, by simp at n9; have := rd8.2; omega⟩
      have w9 : Wst hb r hb h9 := ⟨by simp at n9; have := w8.1; omega, fun o ho hne => by rw [o9 o ho, AHeap.get_push, if_neg (by have := w8.1; omega)]; exact w8.2 o ho hne⟩
      simp only [ecells] at x1
      rw [lpS_step hr1 hr2] at hlp
      simp only [ne_eq, not_true_eq_false, if_false] at hlp
      simp [c2, buildSliceR, reps, x1]
      refine err38 rd9 ?_
      simp
      refine orD (fun h10 => ?_) (fun h10 => ?_)
      · have h10 : e2 = 0 := by omega
        subst h10
        simp only [not_true_eq_false, if_false] at hlp
        obtain ⟨i1, hi1⟩ : ∃ x : Int, x = ((i + 1 : Nat) : Int) := ⟨_, rfl⟩
        rw [← hi1] at hwi
        simp [hwi]
        exact .mk (m := m - 1) (by omega) (by
          rw [hI]
          exact ⟨i + 1, p2, 0, acc ++ [(a1, b)], v9, by omega, w9, rd9, hp2, by rw [List.map_append]; exact m9, by simp [hal], fun _ => hlp, fun h => absurd rfl h, hn6, by rw [hi1]⟩)
      · have h10 : e2 ≠ 0 := by omega
        rw [if_pos h10] at hlp
        simp
        refine done39 rd9 hcl hp2 ?_
        rw [if_neg (by omega)]
        simp [h10]
        refine scp_to rfl ?_
        simp
        refine bad e2 h9 ?_ (old _ w9)
        rw [hdec2, ← hlp]; simp [h10]
    · refine num37 rd7 hcl hp1 (limit := 268435456) (by decide) (fun h => absurd (by omega) hx1) (fun _ => ?_)
      obtain ⟨v9, h9, x1, m9, n9, o9⟩ := (hm7.keep ((Old.refl h7).push (.row 2 false (ecells (a1, 0))))).append1G (bytes := 8) (e := ecells (a1, 0)) (by omega) rfl (by simp; omega) (by have := w7.1; simp; omega)
      have rd9 : RdAt h9 r cs p1 e1 := ⟨by rw [o9 r hrb, AHeap.get_push, if_neg (by have := rd7.2; omega)]; exact rd7.1, by simp at n9; have := rd7.2; omega⟩
      have w9 : Wst hb r hb h9 := ⟨by simp at n9; have := w7.1; omega, fun o ho hne => by rw [o9 o ho, AHeap.get_push, if_neg (by have := w7.1; omega)]; exact w7.2 o ho hne⟩
      have c2 : IntKind.u32.wrap 0 = 0 := by decide
      simp only [ecells] at x1
      have hlp2 : (listS cs).2.2 = e1 := by
        rw [← hlp, lpS, hr1]; simp [hx1]
      simp at x1
      simp [c2, buildSliceR, reps, x1]
      refine err38 rd9 ?_
      simp [hx1]
      refine done39 rd9 hcl hp1 ?_
      rw [if_neg (by omega)]
      simp [hx1]
      refine scp_to rfl ?_
      simp
      refine bad e1 h9 ?_ (old _ w9)
      rw [hdec2, hlp2]; simp [hx1]
  · have hni : n - i = 0 := by omega
    simp
    refine done39 rd hcl hp ?_
    by_cases hx : e = 0
    · subst hx
      have hlp := he0 rfl
      rw [hni, lpS] at hlp
      by_cases hlt2 : p < cs.length
      · rw [if_pos ⟨rfl, hlt2⟩]
        simp
        refine scp_to rfl ?_
        simp
        refine bad 15 h' ?_ (old _ hw)
        rw [hdec2, ← hlp]; simp [hlt2]
      · rw [if_neg (by omega)]
        simp
        have hens : Ens (cfgR ro) h' vv acc := hm.sl
        refine right40 hens (by omega) ?_
        simp
        refine orB (fun h10 => ?_) (fun h10 => ?_)
        · simp [h10]
          have : decS 210 bs = (acc, 0) := by rw [hdec2, ← hlp]; simp [hlt2, h10]
          rw [this] at hq
          exact hq _ _ (old _ hw) (hm.base k12.1)
        · simp [h10]
          refine scp_to rfl ?_
          simp
          refine bad 11 h' ?_ (old _ hw)
          rw [hdec2, ← hlp]; simp [hlt2, h10]
    · rw [if_neg (by omega)]
      simp [hx]
      refine scp_to rfl ?_
      simp
      refine bad e h' ?_ (old _ hw)
      rw [hdec2, (he1 hx).2]; simp [hx]
end
end Go.Proofs.Ytomhcjiefmaopaa
