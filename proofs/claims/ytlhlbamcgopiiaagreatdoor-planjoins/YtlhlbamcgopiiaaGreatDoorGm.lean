/-
  A part of the proof of PlanJoins, over the seat YtlhlbamcgopiiaaGreatDoor: for every input the law returns true, and the input reads as it did.
-/
import Derived.Test.YtlhlbamcgopiiaaGreatDoorGl
set_option linter.all false
set_option linter.all false
set_option maxRecDepth 100000
set_option maxHeartbeats 4000000
namespace Go.Proofs.YtlhlbamcgopiiaaGreatDoor
open Go Go.RowKit Go.Proofs
/-- a Core, edited -/
structure St22 (h0 h : AHeap) (s : Nat) (O : Nat → Prop) (D : CV) (N K T : Nat) : Prop where
  C : CSt h s O D
  I : PF N K T D
  len : D.A.length + 1 = N
  el : D.elems ≤ D.A.length
  old : Old h0 h
  own : ∀ o, O o → h0.next ≤ o
theorem St22.oldH {h0 h h' : AHeap} {s : Nat} {O : Nat → Prop} {D : CV} {N K T : Nat} (S : St22 h0 h s O D N K T) (o : Old h h') : St22 h0 h' s O D N K T := ⟨S.C.old o, S.I, S.len, S.el, S.old.trans o, S.own⟩
theorem Sl.one {c : Cfg} {h : AHeap} {sz : Nat} {v : AVal} {es : List (List AVal)} (s : Sl c h sz v es) : cellsV v = .ok [v] := by
  have h1 := s.len
  have h2 := s.noStr
  cases v <;> simp only [lenA] at h1 <;> first | (cases h1; done) | (exact absurd rfl (h2 _)) | rfl
theorem drop_cons {l : List Ed} {i : Nat} {e : Ed} (h : l[i]? = some e) : l.drop i = e :: l.drop (i + 1) := by
  obtain ⟨h1, h2⟩ := List.getElem?_eq_some_iff.1 h
  rw [List.drop_eq_getElem_cons h1, h2]
section
variable {ro : Nat → Option (List AVal)}
theorem PlanJoins_ev (hro : ro 0 = some [.int .u16 0, .int .u32 0]) {h0 : AHeap} {v1 v2 : AVal} {l more : List Ed} (hv1 : Eds (cfgR ro) h0 v1 l) (hv2 : Eds (cfgR ro) h0 v2 more) (hn1 : l.length < 2 ^ 63) (hn2 : more.length < 2 ^ 63) : Ev (cfgR ro) 3 [v1, v2] h0 (fun x _ => x = .bool true) := by
  refine Ev.wp rfl rfl Tryz.func3 rfl ?_
  have hL1 : lenR (cfgR ro) h0 22 v1 = .ok (.int .i64 (l.length : Nat)) := by have := hv1.lenR (t := 22) un22; simpa using this
  have hL2 : lenR (cfgR ro) h0 22 v2 = .ok (.int .i64 (more.length : Nat)) := by have := hv2.lenR (t := 22) un22; simpa using this
  simp -implicitDefEqProofs [Tryz.f3, Ev.run (run5 h0)]
  refine small6 hv1 hn1 ?_
  cases hs1 : smallB l
  · simp -implicitDefEqProofs
  simp -implicitDefEqProofs
  refine small6 hv2 hn2 ?_
  cases hs2 : smallB more
  · simp -implicitDefEqProofs
  obtain ⟨ht1, hl1⟩ := smallB_iff.1 hs1
  obtain ⟨ht2, hl2⟩ := smallB_iff.1 hs2
  by_cases c1 : 16 < l.length
  · have c1' : (16 : Int) < (l.length : Int) := by omega
    simp -implicitDefEqProofs [hL1, c1, c1']
  by_cases c2 : 16 < more.length
  · have c2' : (16 : Int) < (more.length : Int) := by omega
    have c1' : ¬ (16 : Int) < (l.length : Int) := by omega
    simp -implicitDefEqProofs [hL1, hL2, c1, c2, c1', c2']
  have c1' : ¬ (16 : Int) < (l.length : Int) := by omega
  have c2' : ¬ (16 : Int) < (more.length : Int) := by omega
  have hc1 := hv1.one
  have hc2 := hv2.one
  simp -implicitDefEqProofs [hL1, hL2, c1, c2, c1', c2', buildSliceR, reps, hc1, hc2]
  have S0 := CSt.new h0
  obtain ⟨s, hss⟩ : ∃ s, s = h0.next := ⟨_, rfl⟩
  obtain ⟨H1, hH1⟩ : ∃ H1, H1 = h0.push (.row 0 false [.nilp, .int .u64 0, .nilm, .nilm, .int .i64 0, .nilm, .nilm, .int .u64 0, .int .i64 0]) := ⟨_, rfl⟩
  obtain ⟨q, hqq⟩ : ∃ q, q = H1.next := ⟨_, rfl⟩
  obtain ⟨H2, hH2⟩ : ∃ H2, H2 = H1.push (.row 1 false [v1, v2]) := ⟨_, rfl⟩
  have n1 : H1.next = h0.next + 1 := by rw [hH1]; rfl
  have o1 : Old h0 H1 := by rw [hH1]; exact (Old.refl h0).push _
  have o2 : Old H1 H2 := by rw [hH2]; exact (Old.refl H1).push _
  have hq2 : H2.get q = some (.row 1 false [v1, v2]) := by rw [hH2, hqq, get_push_next]
  rw [← hH1] at S0
  rw [← hss] at S0
  rw [← hH1, ← hss, show s + 1 = q by omega, ← hH2]
  have S2 : St22 h0 H2 s (fun o => o = s) CV.nil 1 0 0 := ⟨S0.old o2, PI.new, rfl, Nat.le_refl _, o1.trans o2, fun o ho => by rw [ho, hss]; exact Nat.le_refl _⟩
  obtain ⟨I, hI⟩ : ∃ I : Nat → List AVal → AHeap → Prop, I = fun m env h' => ∃ (k : Nat) (O : Nat → Prop) (D : CV) (N T : Nat), k + m = 2 ∧ St22 h0 h' s O D N k T ∧ N ≤ 1 + k * 16384 ∧ T ≤ k * 16384 ∧ (∀ j, k < j → lookI D.deeds (1, j) = none) ∧ h'.get q = some (.row 1 false [v1, v2]) ∧ q < h'.next ∧ ¬ O q ∧
    env = (.dead :: .dead :: .dead :: .dead :: .dead :: .ptr s 0 :: .int .u32 (N : Nat) :: .str (shownA D.A) :: .dead :: .dead :: .dead :: .dead :: .dead :: .dead :: .dead :: .dead :: .dead :: .dead :: .dead :: .dead :: .dead :: .dead :: .dead :: .dead :: .dead :: .dead :: .dead :: .dead :: .dead :: .dead :: .dead :: .dead :: .dead :: .dead :: .dead :: .dead :: .dead :: .dead :: .dead :: .dead :: .dead :: .dead :: .sl q 0 2 :: .int .i64 2 :: .int .i64 (k : Nat) :: .dead :: .dead :: .dead :: .dead :: .dead :: .dead :: .dead :: .dead :: .dead :: .dead :: .dead :: .dead :: .dead :: .dead :: .dead :: .dead :: .dead :: .dead :: .dead :: .dead :: .dead :: .dead :: .dead :: .dead :: .dead :: .dead :: .dead :: .dead :: .dead :: .dead :: .dead :: .dead :: .dead :: .dead :: .dead :: .dead :: .dead :: .dead :: .dead :: .dead :: .dead :: .dead :: .dead :: .dead :: .dead :: .dead :: .dead :: .dead :: .dead :: .dead :: .dead :: .dead :: .dead :: .dead :: .dead :: .dead :: .dead :: .dead :: .dead :: .dead :: .dead :: .dead :: .dead :: .dead :: .dead :: .dead :: .dead :: .dead :: .dead :: .dead :: .dead :: .dead :: .dead :: .dead :: []) := ⟨_, rfl⟩
  refine loop_of I ?_ 2 (by rw [hI]; exact ⟨0, _, CV.nil, 1, 0, rfl, S2, Nat.le_refl _, Nat.le_refl _, fun j _ => rfl, hq2, by rw [hH2]; simp; omega, by show ¬ q = s; omega, rfl⟩)
  intro m env h' hi
  rw [hI] at hi
  obtain ⟨k, O, D, N, T, hkm, S, hN, hT, hdn, hgq, hqn, hqO, rfl⟩ := hi
  by_cases hk : k < 2
  · obtain ⟨vk, L, hvk, hLl, hLt, hA⟩ : ∃ vk L, Eds (cfgR ro) h0 vk L ∧ L.length ≤ 16 ∧ (∀ e ∈ L, e.text.length ≤ 300) ∧ nthR [v1, v2] k = .ok vk := by
      rcases (show k = 0 ∨ k = 1 by omega) with rfl | rfl
      · exact ⟨v1, l, hv1, by omega, ht1, rfl⟩
      · exact ⟨v2, more, hv2, by omega, ht2, rfl⟩
    have hik : idxNat (.int .i64 (k : Int)) 2 = .ok k := ix_nat hk
    have hkI : (k : Int) < 2 := by omega
    have w1 : IntKind.i64.wrap ((k : Int) + 1) = ((k + 1 : Nat) : Int) := by rw [w64 (by omega) (by omega)]; omega
    have hvh := hvk.old S.old
    simp -implicitDefEqProofs [hk, hkI, hik, hgq, hA, same_self]
    refine refs7 hvh (by omega) (fun x h1 oa hx => ?_)
    have Sa := S.oldH oa
    simp -implicitDefEqProofs
    have hslen : (shownA D.A).length ≤ D.A.length := by rw [← shL_len]; exact List.length_filter_le _ _
    have hlen := S.len
    refine all13 (l := L) (len := ((shownA D.A).length : Int)) hx.sl hLt (by omega) (fun a b c hall => ?_)
    by_cases hc : c = 0
    rotate_left
    · simp -implicitDefEqProofs [hc]
    subst hc
    have hL0 : 0 < L.length := by
      rcases Nat.eq_zero_or_pos L.length with h | h
      · unfold allS at hall; rw [if_pos h] at hall; simp at hall
      · exact h
    have hgo : allGo L ((shownA D.A).length : Int) 0 0 = (a, b, 0) := by
      unfold allS at hall
      rw [if_neg (by omega), if_neg (by omega)] at hall
      exact hall
    obtain ⟨k1, hk1⟩ : ∃ k1, k1 = k + 1 := ⟨_, rfl⟩
    have wc1 : IntKind.u32.wrap ((k : Int) + 1) = (k1 : Int) := by rw [wrap32, Int.emod_eq_of_lt (by omega) (by omega)]; omega
    have wc2 : IntKind.u64.wrap ((k : Int) + 1) = (k1 : Int) := by rw [wrap64, Int.emod_eq_of_lt (by omega) (by omega)]; omega
    obtain ⟨t, htx⟩ : ∃ t : TxV, t = ⟨1, k1, k1, 0⟩ := ⟨_, rfl⟩
    have ht1 : t.r = 1 ∧ t.clock = k1 ∧ t.id = (1, k1) := by rw [htx]; exact ⟨rfl, rfl, rfl⟩
    have hbeg := fun K : AVal → AHeap → Prop => begin_ev (ro := ro) Sa.C (t := t) (v := .nils) (u := false) (by rw [ht1.2.2]; exact hdn k1 (by omega)) (fun K hK => undo_nil_ev hK) (Q := K)
    have htA : txA t .nils = .agg [.int .u16 1, .int .u32 (k1 : Nat), .int .u64 (k1 : Nat), .int .i64 0, .nils] := by rw [htx]; rfl
    rw [htA] at hbeg
    simp -implicitDefEqProofs [w1, wc1, wc2]
    refine hbeg _ (fun h2 O2 C2 P2 => ?_)
    obtain ⟨ob, hob⟩ := P2.toOld Sa.old Sa.own
    have hbI := S.I.begin t.id false t.clock
    have hvh2 := hvk.old ob
    have hL2 : ∀ h3, Old h0 h3 → lenR (cfgR ro) h3 22 vk = .ok (.int .i64 (L.length : Nat)) := fun h3 o3 => by have := (hvk.old o3).lenR (t := 22) un22; simpa using this
    have hX2 : ∀ i, i < L.length → indexAddrR Tryz.prog 22 vk (.int .i64 (i : Int)) = .ok (elp vk 5 i) := fun i hi => hvk.idx un22 sz53 (by simpa using hi)
    have hA2 : ∀ h3, Old h0 h3 → ∀ i (hi : i < L.length), loadR (cfgR ro) h3 53 (elp vk 5 i) = .ok (.agg L[i].cells) := fun h3 o3 i hi => (hvk.old o3).load (Eds.at hi) ag53 sz53
    have hq2' : h2.get q = some (.row 1 false [v1, v2]) := by rw [P2.keep q (Nat.lt_of_lt_of_le hqn oa.1) hqO, oa.2 q hqn]; exact hgq
    have hqO2 : ¬ O2 q := fun h => by
      rcases P2.own q h with h5 | h5
      · exact hqO h5
      · have := oa.1; omega
    have hqn2 : q < h2.next := Nat.lt_of_lt_of_le hqn (Nat.le_trans oa.1 P2.nx)
    simp -implicitDefEqProofs [hL2 h2 ob]
    obtain ⟨J, hJ⟩ : ∃ J : Nat → List AVal → AHeap → Prop, J = fun m2 env h3 => ∃ (i : Nat) (O3 : Nat → Prop) (D3 : CV) (N3 T3 : Nat), i + m2 = L.length ∧ St22 h0 h3 s O3 D3 N3 k1 T3 ∧ N3 ≤ N + i * 1024 ∧ N ≤ N3 ∧ T3 ≤ T + i * 1024 ∧ (∃ d, lookI D3.deeds (1, k1) = some d) ∧ (∀ j, k1 < j → lookI D3.deeds (1, j) = none) ∧ h3.get q = some (.row 1 false [v1, v2]) ∧ q < h3.next ∧ ¬ O3 q ∧
      allGo (L.drop i) ((shownA D3.A).length : Int) ((N3 - N : Nat) : Int) i = (a, b, 0) ∧
      env = (.dead :: .dead :: .dead :: .dead :: .dead :: .ptr s 0 :: .int .u32 (N3 : Nat) :: .str (shownA D3.A) :: .dead :: vk :: .int .i64 a :: .dead :: .dead :: .cell [.int .u16 1, .int .u32 (k1 : Nat), .int .u64 (k1 : Nat), .int .i64 0, .nils] :: .dead :: .dead :: .dead :: .dead :: .dead :: .dead :: .dead :: .dead :: .dead :: .dead :: .dead :: .dead :: .dead :: .dead :: .dead :: .dead :: .dead :: .dead :: .dead :: .dead :: .dead :: .dead :: .dead :: .dead :: .dead :: .dead :: .dead :: .dead :: .sl q 0 2 :: .int .i64 2 :: .int .i64 (k : Nat) :: .dead :: .dead :: .dead :: .dead :: .dead :: .dead :: .dead :: .dead :: .dead :: .dead :: .dead :: .dead :: .dead :: .dead :: .dead :: .dead :: .dead :: .dead :: .dead :: .dead :: .dead :: .dead :: .dead :: .dead :: vk :: .int .i64 (L.length : Nat) :: .int .i64 (i : Nat) :: .dead :: .dead :: .dead :: .dead :: .dead :: .dead :: .dead :: .dead :: .dead :: .dead :: .dead :: .dead :: .dead :: .dead :: .dead :: .dead :: .dead :: .dead :: .dead :: .dead :: .dead :: .dead :: .dead :: .dead :: .dead :: .dead :: .dead :: .dead :: .dead :: .dead :: .dead :: .dead :: .dead :: .dead :: .dead :: .dead :: .dead :: .dead :: .dead :: .dead :: .dead :: .dead :: .dead :: .dead :: .dead :: .dead :: .dead :: []) := ⟨_, rfl⟩
    refine loop_of J ?_ L.length (by
      rw [hJ]
      refine ⟨0, O2, beginD D t.id false t.clock, N, T, by omega, ⟨C2, hbI.monoK (by omega), S.len, S.el, ob, hob⟩, by omega, Nat.le_refl _, by omega, ⟨⟨0, [], false⟩, ?_⟩, fun j hj => ?_, hq2', hqn2, hqO2, ?_, rfl⟩
      · show lookI (putI D.deeds t.id _) (1, k1) = _
        rw [look_put, ht1.2.2, if_pos rfl]
      · show lookI (putI D.deeds t.id _) (1, j) = none
        rw [look_put, ht1.2.2, if_neg (fun e => by simp at e; omega)]
        exact hdn j (by omega)
      · rw [Nat.sub_self]; exact hgo)
    intro m2 env h3 hj
    rw [hJ] at hj
    obtain ⟨i, O3, D3, N3, T3, him, S3, b1, b2, b3, b4, b5, b6, b7, b8, b9, rfl⟩ := hj
    by_cases hi : i < L.length
    · have hgi := List.getElem?_eq_getElem hi
      obtain ⟨e, hee⟩ : ∃ e, e = L[i] := ⟨_, rfl⟩
      have hA3 := hA2 h3 S3.old i hi
      rw [← hee] at hA3 hgi
      obtain ⟨a', b', c', hch⟩ : ∃ a' b' c', chk e ((shownA D3.A).length : Int) = (a', b', c') := ⟨_, _, _, rfl⟩
      rw [hee] at hch
      rw [allGo_step hi hch] at b9
      by_cases hc0 : c' = 0
      rotate_left
      · rw [if_pos hc0] at b9
        simp at b9
        exact (hc0 b9.2.2).elim
      subst hc0
      rw [if_neg (by simp)] at b9
      rw [← hee] at hch
      have hcan := can_of hch
      have hdl := (chk_ok hch).1
      have hee2 : e.cells = [.int .i64 e.kind, .int .i64 e.at_, .int .i64 e.to_, .int .i64 e.dest, .str e.text] := rfl
      have w2 : IntKind.i64.wrap ((i : Int) + 1) = ((i + 1 : Nat) : Int) := by rw [w64 (by omega) (by omega)]; omega
      simp -implicitDefEqProofs [hi, hX2 i hi, hA3, hee2, same_self]
      refine edit_ev hro S3.C S3.I (t := t) (v := .nils) (e := e) ht1.1 (by omega) (by have := S3.len; omega) S3.len (by rw [ht1.2.2]; exact b4) hch (by omega) (by omega) (fun kd x2 n2 tx2 sv sq h4 bn hbn hbn2 o4 hop => ?_)
      rw [htA] at hop
      simp only [opA] at hop
      simp -implicitDefEqProofs [opA, same_self]
      refine hop _ (fun h5 O5 D5 C5 P5 R5 hat => ?_)
      have w3 : IntKind.u32.wrap ((bn : Nat) : Int) = ((bn : Nat) : Int) := by rw [wrap32, Int.emod_eq_of_lt (by omega) (by omega)]
      obtain ⟨N5, hN5⟩ : ∃ N5, N5 = N3 + bn := ⟨_, rfl⟩
      have w4 : IntKind.u32.wrap ((N3 : Int) + (bn : Int)) = (N5 : Int) := by rw [wrap32, Int.emod_eq_of_lt (by omega) (by omega)]; omega
      simp -implicitDefEqProofs
      refine hat _ ?_
      simp -implicitDefEqProofs [w3, w4]
      obtain ⟨o5, ho5⟩ := P5.toOld (S3.old.trans o4) S3.own
      refine refs7 (hvk.old o5) (by omega) (fun y h6 o6 hy => ?_)
      simp -implicitDefEqProofs
      have hyX : indexAddrR Tryz.prog 45 y (.int .i64 (i : Int)) = .ok (elp y 5 i) := (Mine.sl (c := cfgR ro) hy).idx un45 sz64 (by simpa using hi)
      have hyA : loadR (cfgR ro) h6 64 (elp y 5 i) = .ok (.agg e.cells) := by have := (Mine.sl (c := cfgR ro) hy).load (Eds.at hi) ag64 sz64; rw [← hee] at this; exact this
      have hsl3 : (shownA D3.A).length ≤ D3.A.length := by rw [← shL_len]; exact List.length_filter_le _ _
      have hlen3 := S3.len
      simp -implicitDefEqProofs [hyX, hyA]
      refine do9 e (by omega) hcan _ ?_
      simp -implicitDefEqProofs
      refine ctext_ev (C5.old o6) (fun h7 o7 => ?_)
      obtain ⟨o67, hbn'⟩ : Old h0 h7 ∧ b' = (bn : Nat) := ⟨(o5.trans o6).trans o7, hbn⟩
      have hq5 : h7.get q = some (.row 1 false [v1, v2]) := by
        rw [o7.2 q (Nat.lt_of_lt_of_le b7 (Nat.le_trans o4.1 (Nat.le_trans P5.nx o6.1))), o6.2 q (Nat.lt_of_lt_of_le b7 (Nat.le_trans o4.1 P5.nx)), P5.keep q (Nat.lt_of_lt_of_le b7 o4.1) b8, o4.2 q b7]
        exact b6
      have hqn5 : q < h7.next := Nat.lt_of_lt_of_le b7 (Nat.le_trans o4.1 (Nat.le_trans P5.nx (Nat.le_trans o6.1 o7.1)))
      have hqO5 : ¬ O5 q := fun h => by
        rcases P5.own q h with h | h
        · exact b8 h
        · have := o4.1; omega
      have htx5 := R5.tx
      have hlen5 : D5.A.length + 1 = N5 := by rw [R5.len]; omega
      have hel5 := R5.el
      have hel3 := S3.el
      have hR5l := R5.len
      simp -implicitDefEqProofs [htx5, w2]
      refine .mk (m := m2 - 1) (by omega) ?_
      rw [hJ]
      have hI5 : PF N5 k1 (T3 + 1024) D5 := by have := R5.I; rw [← hN5, ht1.2.1] at this; exact this
      refine ⟨i + 1, O5, D5, N5, T3 + 1024, by omega, ⟨(C5.old o6).old o7, hI5, hlen5, by omega, o67, ho5⟩, by omega, by omega, by omega, ?_, fun j hj => (R5.dom _).2 (b5 j hj), hq5, hqn5, hqO5, ?_, ?_⟩
      · rcases hd : lookI D5.deeds (1, k1) with _ | d
        · obtain ⟨d, hd'⟩ := b4
          rw [(R5.dom _).1 hd] at hd'; cases hd'
        · exact ⟨d, rfl⟩
      · rw [htx5, ← hdl, show ((N5 - N : Nat) : Int) = ((N3 - N : Nat) : Int) + b' by rw [hbn']; omega]
        exact b9
      · rw [← htx5]; rfl
    · have hiL : i = L.length := by omega
      have hlen3 := S3.len
      have hel3 := S3.el
      have ha : a = ((N3 - N : Nat) : Int) := by
        rw [hiL, List.drop_length] at b9
        simp only [allGo, Prod.mk.injEq] at b9
        exact b9.1.symm
      obtain ⟨n3, hn3⟩ : ∃ n3, n3 = D3.A.length := ⟨_, rfl⟩
      obtain ⟨a3, ha3⟩ : ∃ a3, a3 = N3 - N := ⟨_, rfl⟩
      rw [← hn3] at hlen3 hel3
      rw [← ha3] at ha
      have w5 : IntKind.u32.wrap ((N3 : Int) - 1) = (n3 : Int) := by rw [wrap32, Int.emod_eq_of_lt (by omega) (by omega)]; omega
      have w6 : IntKind.i64.wrap (n3 : Int) = (n3 : Int) := w64 (by omega) (by omega)
      have e1 : ¬ (n3 : Int) < (D3.elems : Int) := by omega
      have e2 : ¬ (n3 : Int) < (a3 : Int) := by omega
      simp -implicitDefEqProofs [hiL]
      refine csize_ev S3.C (fun r hr1 hr2 => ?_)
      rw [← hn3]
      simp -implicitDefEqProofs [w5, w6, e1, e2, ha]
      refine .mk (m := m - 1) (by omega) ?_
      rw [hI]
      exact ⟨k1, O3, D3, N3, T3, by omega, S3, by omega, by omega, b5, b6, b7, b8, by rw [w1, ← hk1]⟩
  · have hk2 : k = 2 := by omega
    subst hk2
    simp -implicitDefEqProofs
end
end Go.Proofs.YtlhlbamcgopiiaaGreatDoor
