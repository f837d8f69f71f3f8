/-
  A part of the proof of RopePlays, over the seat Ytbnlhhfobgjeaaa: for every input the law returns true, and the input reads as it did.
-/
import Derived.Test.YtbnlhhfobgjeaaaRb
set_option linter.all false
set_option linter.all false
set_option maxRecDepth 100000
set_option maxHeartbeats 4000000
namespace Go.Proofs.Ytbnlhhfobgjeaaa
open Go Go.RowKit Go.Proofs
section
variable {ro : Nat → Option (List AVal)}
theorem put7 {h : AHeap} {rr : Nat} {t : Rt Str} {x : Str} {after : AVal} {L1 L2 : List (Nat × Str)} (R : Rp h rr t) (hit : t.items = L1 ++ L2)
    (hfit : t.items.length + 1 < 2 ^ 60 ∧ t.tx.length + x.length < 2 ^ 60)
    (W : t = .nil ∨ (∃ f c, plug (f :: c) Rt.nil = t ∧ bef (f :: c) = L1 ∧ (∃ o, t.ptr = .ptr o 0) ∧ ((after = .nilp ∧ f.left = true ∧ t.lm = .ptr f.o 0) ∨
      (∃ c0 a ht ax l r, after = .ptr a 0 ∧ t = plug c0 (.node a ht ax l r) ∧ ((r = .nil ∧ f.left = false ∧ f.o = a) ∨ (∃ o, r.ptr = .ptr o 0 ∧ f.left = true ∧ r.lm = .ptr f.o 0))))))
    {Q : AVal → AHeap → Prop}
    (hq : ∀ n h' t', Rp h' rr t' → t'.items = L1 ++ (n, x) :: L2 → h.next ≤ n → (∀ o, o < h.next → o ≠ rr → o ∉ t.ids → h'.get o = h.get o) → h.next ≤ h'.next → Q (.ptr n 0) h') : Ev (cfgR ro) 7 [.ptr rr 0, after, .agg [.str x]] h Q := by
  obtain ⟨⟨s, hr⟩, ha, hnd, hrt, hlr, hlt⟩ := R
  refine Ev.wp rfl rfl Try.func7 rfl ?_
  simp -implicitDefEqProofs [Try.f7]
  refine draw21 hr ?_
  intro v s'
  obtain ⟨H, hH⟩ : ∃ H, H = (h.set rr (rrow t.ptr s')).push (nrow .nilp .nilp .nilp v 0 x []) := ⟨_, rfl⟩
  obtain ⟨n, hn⟩ : ∃ n, n = h.next := ⟨_, rfl⟩
  have hnr : n ≠ rr := by omega
  have hHn : H.get n = some (nrow .nilp .nilp .nilp v 0 x []) := by rw [hH, hn]; exact get_push_next (h.set rr (rrow t.ptr s')) _
  have hHo : ∀ o, o ≠ n → o ≠ rr → H.get o = h.get o := by
    intro o h1 h2
    rw [hH, AHeap.get_push, AHeap.next_set, ← hn, if_neg h1, get_set_ne (Ne.symm h2)]
  have hHr : H.get rr = some (rrow t.ptr s') := by
    rw [hH, AHeap.get_push, AHeap.next_set, ← hn, if_neg (Ne.symm hnr), get_set_self]
  have hHx : H.next = n + 1 := by rw [hH, AHeap.next_push, AHeap.next_set, hn]
  have hnt : n ∉ t.ids := fun hm => by have := hlt n hm; omega
  have hHt : At TS H .nilp t := At.congr (fun o ho => hHo o (fun e => hnt (by rw [← e]; exact ho)) (fun e => hrt (by rw [← e]; exact ho))) ha
  have hN : ∀ T : List (Nat × Str), T = L1 ++ (n, x) :: L2 → (T.map (·.1)).Nodup ∧ (∀ o, o ∈ T.map (·.1) ↔ o = n ∨ o ∈ t.ids) ∧ T.length < 2 ^ 60 ∧ (T.map (·.2)).flatten.length < 2 ^ 60 := by
    rintro T rfl
    unfold Rt.ids Rt.tx at *
    rw [hit] at hnd hnt hfit
    simp only [List.map_append, List.map_cons, List.flatten_append, List.flatten_cons, List.length_append, List.length_cons] at hnd hnt hfit ⊢
    refine ⟨?_, ?_, by omega, by omega⟩
    · rw [List.nodup_append] at hnd ⊢
      obtain ⟨d1, d2, d3⟩ := hnd
      refine ⟨d1, List.nodup_cons.2 ⟨fun hm => hnt (List.mem_append.2 (.inr hm)), d2⟩, ?_⟩
      intro p hp q hq' e
      rcases List.mem_cons.1 hq' with rfl | hq'
      · exact hnt (List.mem_append.2 (.inl (by rw [← e]; exact hp)))
      · exact d3 p hp q hq' e
    · intro o
      rw [hit]
      simp only [List.map_append, List.mem_append, List.mem_cons]
      constructor
      · rintro (h1 | h1 | h1)
        · exact .inr (.inl h1)
        · exact .inl h1
        · exact .inr (.inr h1)
      · rintro (h1 | h1 | h1)
        · exact .inr (.inl h1)
        · exact .inl h1
        · exact .inr (.inr h1)
  obtain ⟨T, hT⟩ : ∃ T, T = L1 ++ (n, x) :: L2 := ⟨_, rfl⟩
  obtain ⟨N1, N2, N3, N4⟩ := hN T hT
  have endQ : ∀ h' t', At TS h' .nilp t' → (∃ s, h'.get rr = some (rrow t'.ptr s)) → t'.items = T → (∀ o, o ≠ n → o ≠ rr → o ∉ t.ids → h'.get o = H.get o) → h'.next = H.next → Q (.ptr n 0) h' := by
    intro h' t' e1 e2 e3 e4 e5
    refine hq n h' t' ⟨e2, e1, by unfold Rt.ids; rw [e3]; exact N1, ?_, by omega, ?_⟩ (by rw [e3, hT]) (by omega) (fun o o1 o2 o3 => by rw [e4 o (by omega) o2 o3, hHo o (by omega) o2]) (by omega)
    · unfold Rt.ids
      rw [e3, N2]
      rintro (h1 | h1)
      · exact hnr h1.symm
      · exact hrt h1
    · intro o ho
      unfold Rt.ids at ho
      rw [e3, N2] at ho
      rcases ho with rfl | ho
      · omega
      · have := hlt o ho; omega
  simp -implicitDefEqProofs
  simp only [nrow] at hH
  rw [show ((0 : Nat) : Int) = 0 from rfl] at hH
  rw [← hn, ← hH]
  rcases W with W0 | ⟨f, c, w1, w2, ⟨o0, w0⟩, W⟩
  · rw [rrow, W0, ptr_nil] at hHr
    rw [W0] at hit
    simp -implicitDefEqProofs [hHr]
    have hL1 : L1 = [] := by cases L1 with | nil => rfl | cons a b => cases hit
    have hL2 : L2 = [] := by rw [hL1] at hit; exact hit.symm
    have hS : Stl (H.set rr (.row 0 false [.ptr n 0, .int .u64 s'])) [] n v x .nil .nil := ⟨⟨0, [], by rw [get_set_ne (Ne.symm hnr), hHn]; rfl⟩, trivial, trivial, trivial⟩
    have hTi : (plug [] (Rt.node n v x .nil .nil)).items = T := by rw [hT, hL1, hL2]; rfl
    have hR3 : (H.set rr (.row 0 false [.ptr n 0, .int .u64 s'])).get rr = some (rrow (rootOf ([] : List (Frm Str)) (.ptr n 0)) s') := by rw [get_set_self]; rfl
    have hF3 : ∀ o, o ≠ n → o ≠ rr → o ∉ t.ids → (H.set rr (.row 0 false [.ptr n 0, .int .u64 s'])).get o = H.get o := fun o o1 o2 o3 => get_set_ne (Ne.symm o2)
    have hX3 : (H.set rr (.row 0 false [.ptr n 0, .int .u64 s'])).next = H.next := rfl
    have hIDS : ∀ t' : Rt Str, t'.items = T → t'.ids.Nodup ∧ rr ∉ t'.ids ∧ Fit t' ∧ (∀ o, o ∈ t'.ids ↔ o = n ∨ o ∈ t.ids) := by
      intro t' e
      unfold Fit Rt.tx
      refine ⟨by unfold Rt.ids; rw [e]; exact N1, ?_, ?_, ?_⟩
      · unfold Rt.ids
        rw [e, N2]
        rintro (h1 | h1)
        · exact hnr h1.symm
        · exact hrt h1
      · rw [e]; exact ⟨N3, N4⟩
      · intro o; rw [← N2]; unfold Rt.ids; rw [e]
    refine climb24 hS (hIDS _ hTi).1 (hIDS _ hTi).2.2.1 (fun h3 c1 c2 c3 => ?_)
    simp -implicitDefEqProofs
    obtain ⟨I, hI⟩ : ∃ I : Nat → List AVal → AHeap → Prop, I = fun m env h' => ∃ c ht l r, m = c.length ∧ At TS h' .nilp (plug c (.node n ht x l r)) ∧ (plug c (.node n ht x l r)).items = T ∧ (∃ s, h'.get rr = some (rrow (plug c (.node n ht x l r)).ptr s)) ∧ (∀ o, o ≠ n → o ≠ rr → o ∉ t.ids → h'.get o = H.get o) ∧ h'.next = H.next ∧ env = (.ptr rr 0 :: .dead :: .dead :: .dead :: .dead :: .dead :: .dead :: .ptr n 0 :: .dead :: .dead :: .dead :: .dead :: .dead :: .dead :: .dead :: .dead :: .dead :: .dead :: .dead :: .dead :: .dead :: .dead :: .dead :: .dead :: .dead :: .dead :: .dead :: .dead :: .dead :: .dead :: .dead :: .dead :: .dead :: .dead :: .dead :: .dead :: .dead :: .dead :: .dead :: .dead :: .dead :: .dead :: .dead :: .dead :: .dead :: .dead :: .dead :: .dead :: .dead :: .dead :: .dead :: .dead :: .dead :: .dead :: .dead :: .dead :: .dead :: .dead :: .dead :: .dead :: .dead :: .dead :: .dead :: .dead :: .dead :: .dead :: .dead :: .dead :: .dead :: .dead :: .dead :: []) := ⟨_, rfl⟩
    refine loop_of I ?_ ([] : List (Frm Str)).length (by rw [hI]; exact ⟨_, v, .nil, .nil, rfl, c1, hTi, ⟨s', by rw [c2 rr (hIDS _ hTi).2.1, hR3, plug_ptr]; rfl⟩, fun o o1 o2 o3 => by rw [c2 o (fun hm => by rcases ((hIDS _ hTi).2.2.2 o).1 hm with h1 | h1; exact o1 h1; exact o3 h1), hF3 o o1 o2 o3], by rw [c3, hX3], rfl⟩)
    intro m env h' hi
    rw [hI] at hi
    obtain ⟨c, ht, l, r, rfl, i1, i2, ⟨s2, i3⟩, i4, i5, rfl⟩ := hi
    obtain ⟨j1, j2⟩ := At.split i1
    have j0 := (at_node.1 j1).1
    rw [nrow] at j0
    cases c with
    | nil =>
      simp -implicitDefEqProofs [j0, upOf]
      exact endQ h' _ i1 ⟨s2, i3⟩ i2 i4 i5
    | cons f c =>
      obtain ⟨⟨psz, pall, ⟨pq, hpq⟩, p1⟩, p2, p3⟩ := j2
      have hall : pall = [.str pq.flatten] := hpq
      rw [hall, nobj_row, nrow] at p1
      rw [upOf] at j0
      obtain ⟨k1, k2, k3, k4⟩ := hIDS _ i2
      by_cases hh : (f.ht : Int) < (ht : Int)
      · simp -implicitDefEqProofs [j0, p1, hh]
        refine rise25 i1 i3 (riseF k1 k2) k3 (fun h4 d1 d2 d3 d4 => ?_)
        simp -implicitDefEqProofs
        have hturn : ∃ l' r', turned f n ht x l r = .node n ht x l' r' := by unfold turned; cases f.left <;> exact ⟨_, _, rfl⟩
        obtain ⟨l', r', et⟩ := hturn
        have hi : (plug c (turned f n ht x l r)).items = T := by rw [plug_items_congr (turned_items f n ht x l r)]; exact i2
        rw [et] at d1 d2 hi
        exact .mk (m := c.length) (by simp) (by rw [hI]; exact ⟨c, ht, l', r', rfl, d1, hi, ⟨s2, d2⟩, fun o o1 o2 o3 => by rw [d3 o o2 (fun hm => by rcases (k4 o).1 hm with h1 | h1; exact o1 h1; exact o3 h1), i4 o o1 o2 o3], by rw [d4, i5], rfl⟩)
      · simp -implicitDefEqProofs [j0, p1, hh]
        exact endQ h' _ i1 ⟨s2, i3⟩ i2 i4 i5
  · rw [rrow, w0] at hHr
    rw [← w1] at hHt hnt hrt hnd
    obtain ⟨_, ⟨psz, pall, ⟨pq, hpq⟩, p1⟩, p2, p3⟩ := At.split (t := Rt.nil) hHt
    have hall : pall = [.str pq.flatten] := hpq
    rw [hall, nobj_row] at p1
    have hfm : f.o ∈ (plug (f :: c) (Rt.nil : Rt Str)).ids := plug_mem.2 (.inr (cids_cons.2 (.inl rfl)))
    have hnf : n ≠ f.o := fun e => hnt (by rw [e]; exact hfm)
    have hrf : rr ≠ f.o := fun e => hrt (by rw [e]; exact hfm)
    have put : ∀ H3 : AHeap, H3.get n = some (nrow (.ptr f.o 0) .nilp .nilp v 0 x []) → H3.get f.o = some (nrow (upOf c) (if f.left then .ptr n 0 else lptr f (Rt.nil : Rt Str).ptr) (if f.left then rptr' f (Rt.nil : Rt Str).ptr else .ptr n 0) f.ht psz f.x pq.flatten) → (∀ o, o ≠ n → o ≠ f.o → H3.get o = H.get o) → Stl H3 (f :: c) n v x .nil .nil := fun H3 g1 g2 g3 => hung hHt hnd hnt p1 g1 g2 g3
    have hTi : (plug (f :: c) (Rt.node n v x .nil .nil)).items = T := by
      have e1 := plug_items (f :: c) (Rt.nil : Rt Str)
      rw [w1, hit, w2] at e1
      have e2 : L2 = aft (f :: c) := by simpa [Rt.items] using e1
      rw [plug_items, w2, ← e2, hT]
      simp [Rt.items]
    rw [w1] at hnd hrt hnt hfm
    have hfin : ∀ H3 : AHeap, (∀ o, o ≠ n → o ≠ f.o → H3.get o = H.get o) → H3.get rr = some (rrow (rootOf (f :: c) (.ptr n 0)) s') ∧ ∀ o, o ≠ n → o ≠ rr → o ∉ t.ids → H3.get o = H.get o := by
      intro H3 g
      refine ⟨?_, fun o o1 o2 o3 => g o o1 (fun e => o3 (by rw [e]; exact hfm))⟩
      rw [g rr (Ne.symm hnr) hrf, hHr, rootOf, ← w0, ← w1, plug_ptr, rootOf]
      rfl
    rcases W with ⟨rfl, hfl, hlm⟩ | ⟨c0, a, aht, ax, l, r, rfl, hpl, W⟩
    · simp -implicitDefEqProofs [hHr]
      refine first8 (by rw [hHr, ← w0]; rfl) (w1 ▸ hHt) ?_
      rw [hlm]
      simp -implicitDefEqProofs
      refine below22 true hHn p1 hnf (fun H3 b1 b2 hG3 hX3 => ?_)
      have hS := put H3 b1 (by rw [b2, hfl]) hG3
      obtain ⟨hR3, hF3⟩ := hfin H3 hG3
      simp -implicitDefEqProofs
      have hIDS : ∀ t' : Rt Str, t'.items = T → t'.ids.Nodup ∧ rr ∉ t'.ids ∧ Fit t' ∧ (∀ o, o ∈ t'.ids ↔ o = n ∨ o ∈ t.ids) := by
        intro t' e
        unfold Fit Rt.tx
        refine ⟨by unfold Rt.ids; rw [e]; exact N1, ?_, ?_, ?_⟩
        · unfold Rt.ids
          rw [e, N2]
          rintro (h1 | h1)
          · exact hnr h1.symm
          · exact hrt h1
        · rw [e]; exact ⟨N3, N4⟩
        · intro o; rw [← N2]; unfold Rt.ids; rw [e]
      refine climb24 hS (hIDS _ hTi).1 (hIDS _ hTi).2.2.1 (fun h3 c1 c2 c3 => ?_)
      simp -implicitDefEqProofs
      obtain ⟨I, hI⟩ : ∃ I : Nat → List AVal → AHeap → Prop, I = fun m env h' => ∃ c ht l r, m = c.length ∧ At TS h' .nilp (plug c (.node n ht x l r)) ∧ (plug c (.node n ht x l r)).items = T ∧ (∃ s, h'.get rr = some (rrow (plug c (.node n ht x l r)).ptr s)) ∧ (∀ o, o ≠ n → o ≠ rr → o ∉ t.ids → h'.get o = H.get o) ∧ h'.next = H.next ∧ env = (.ptr rr 0 :: .dead :: .dead :: .dead :: .dead :: .dead :: .dead :: .ptr n 0 :: .dead :: .dead :: .dead :: .dead :: .dead :: .dead :: .dead :: .dead :: .dead :: .dead :: .dead :: .dead :: .dead :: .dead :: .dead :: .dead :: .dead :: .dead :: .dead :: .dead :: .dead :: .dead :: .dead :: .dead :: .dead :: .dead :: .dead :: .dead :: .dead :: .dead :: .dead :: .dead :: .dead :: .dead :: .dead :: .dead :: .dead :: .dead :: .dead :: .dead :: .dead :: .dead :: .dead :: .dead :: .dead :: .dead :: .dead :: .dead :: .dead :: .dead :: .dead :: .dead :: .dead :: .dead :: .dead :: .dead :: .dead :: .dead :: .dead :: .dead :: .dead :: .dead :: .dead :: []) := ⟨_, rfl⟩
      refine loop_of I ?_ (f :: c).length (by rw [hI]; exact ⟨_, v, .nil, .nil, rfl, c1, hTi, ⟨s', by rw [c2 rr (hIDS _ hTi).2.1, hR3, plug_ptr]; rfl⟩, fun o o1 o2 o3 => by rw [c2 o (fun hm => by rcases ((hIDS _ hTi).2.2.2 o).1 hm with h1 | h1; exact o1 h1; exact o3 h1), hF3 o o1 o2 o3], by rw [c3, hX3], rfl⟩)
      intro m env h' hi
      rw [hI] at hi
      obtain ⟨c, ht, l, r, rfl, i1, i2, ⟨s2, i3⟩, i4, i5, rfl⟩ := hi
      obtain ⟨j1, j2⟩ := At.split i1
      have j0 := (at_node.1 j1).1
      rw [nrow] at j0
      cases c with
      | nil =>
        simp -implicitDefEqProofs [j0, upOf]
        exact endQ h' _ i1 ⟨s2, i3⟩ i2 i4 i5
      | cons f c =>
        obtain ⟨⟨psz, pall, ⟨pq, hpq⟩, p1⟩, p2, p3⟩ := j2
        have hall : pall = [.str pq.flatten] := hpq
        rw [hall, nobj_row, nrow] at p1
        rw [upOf] at j0
        obtain ⟨k1, k2, k3, k4⟩ := hIDS _ i2
        by_cases hh : (f.ht : Int) < (ht : Int)
        · simp -implicitDefEqProofs [j0, p1, hh]
          refine rise25 i1 i3 (riseF k1 k2) k3 (fun h4 d1 d2 d3 d4 => ?_)
          simp -implicitDefEqProofs
          have hturn : ∃ l' r', turned f n ht x l r = .node n ht x l' r' := by unfold turned; cases f.left <;> exact ⟨_, _, rfl⟩
          obtain ⟨l', r', et⟩ := hturn
          have hi : (plug c (turned f n ht x l r)).items = T := by rw [plug_items_congr (turned_items f n ht x l r)]; exact i2
          rw [et] at d1 d2 hi
          exact .mk (m := c.length) (by simp) (by rw [hI]; exact ⟨c, ht, l', r', rfl, d1, hi, ⟨s2, d2⟩, fun o o1 o2 o3 => by rw [d3 o o2 (fun hm => by rcases (k4 o).1 hm with h1 | h1; exact o1 h1; exact o3 h1), i4 o o1 o2 o3], by rw [d4, i5], rfl⟩)
        · simp -implicitDefEqProofs [j0, p1, hh]
          exact endQ h' _ i1 ⟨s2, i3⟩ i2 i4 i5
    · have hHp : At TS H .nilp (plug c0 (.node a aht ax l r)) := by rw [← hpl, ← w1]; exact hHt
      obtain ⟨ja, jl, jr⟩ := at_node.1 (At.split hHp).1
      rw [nrow] at ja
      rcases W with ⟨hr0, hfl, hfa⟩ | ⟨o1, hr1, hfl, hlm⟩
      · rw [hr0, ptr_nil] at ja
        rw [← hfa] at ja ⊢
        simp -implicitDefEqProofs [hHr, ja]
        refine below22 false hHn p1 hnf (fun H3 b1 b2 hG3 hX3 => ?_)
        have hS := put H3 b1 (by rw [b2, hfl]) hG3
        obtain ⟨hR3, hF3⟩ := hfin H3 hG3
        simp -implicitDefEqProofs
        have hIDS : ∀ t' : Rt Str, t'.items = T → t'.ids.Nodup ∧ rr ∉ t'.ids ∧ Fit t' ∧ (∀ o, o ∈ t'.ids ↔ o = n ∨ o ∈ t.ids) := by
          intro t' e
          unfold Fit Rt.tx
          refine ⟨by unfold Rt.ids; rw [e]; exact N1, ?_, ?_, ?_⟩
          · unfold Rt.ids
            rw [e, N2]
            rintro (h1 | h1)
            · exact hnr h1.symm
            · exact hrt h1
          · rw [e]; exact ⟨N3, N4⟩
          · intro o; rw [← N2]; unfold Rt.ids; rw [e]
        refine climb24 hS (hIDS _ hTi).1 (hIDS _ hTi).2.2.1 (fun h3 c1 c2 c3 => ?_)
        simp -implicitDefEqProofs
        obtain ⟨I, hI⟩ : ∃ I : Nat → List AVal → AHeap → Prop, I = fun m env h' => ∃ c ht l r, m = c.length ∧ At TS h' .nilp (plug c (.node n ht x l r)) ∧ (plug c (.node n ht x l r)).items = T ∧ (∃ s, h'.get rr = some (rrow (plug c (.node n ht x l r)).ptr s)) ∧ (∀ o, o ≠ n → o ≠ rr → o ∉ t.ids → h'.get o = H.get o) ∧ h'.next = H.next ∧ env = (.ptr rr 0 :: .dead :: .dead :: .dead :: .dead :: .dead :: .dead :: .ptr n 0 :: .dead :: .dead :: .dead :: .dead :: .dead :: .dead :: .dead :: .dead :: .dead :: .dead :: .dead :: .dead :: .dead :: .dead :: .dead :: .dead :: .dead :: .dead :: .dead :: .dead :: .dead :: .dead :: .dead :: .dead :: .dead :: .dead :: .dead :: .dead :: .dead :: .dead :: .dead :: .dead :: .dead :: .dead :: .dead :: .dead :: .dead :: .dead :: .dead :: .dead :: .dead :: .dead :: .dead :: .dead :: .dead :: .dead :: .dead :: .dead :: .dead :: .dead :: .dead :: .dead :: .dead :: .dead :: .dead :: .dead :: .dead :: .dead :: .dead :: .dead :: .dead :: .dead :: .dead :: []) := ⟨_, rfl⟩
        refine loop_of I ?_ (f :: c).length (by rw [hI]; exact ⟨_, v, .nil, .nil, rfl, c1, hTi, ⟨s', by rw [c2 rr (hIDS _ hTi).2.1, hR3, plug_ptr]; rfl⟩, fun o o1 o2 o3 => by rw [c2 o (fun hm => by rcases ((hIDS _ hTi).2.2.2 o).1 hm with h1 | h1; exact o1 h1; exact o3 h1), hF3 o o1 o2 o3], by rw [c3, hX3], rfl⟩)
        intro m env h' hi
        rw [hI] at hi
        obtain ⟨c, ht, l, r, rfl, i1, i2, ⟨s2, i3⟩, i4, i5, rfl⟩ := hi
        obtain ⟨j1, j2⟩ := At.split i1
        have j0 := (at_node.1 j1).1
        rw [nrow] at j0
        cases c with
        | nil =>
          simp -implicitDefEqProofs [j0, upOf]
          exact endQ h' _ i1 ⟨s2, i3⟩ i2 i4 i5
        | cons f c =>
          obtain ⟨⟨psz, pall, ⟨pq, hpq⟩, p1⟩, p2, p3⟩ := j2
          have hall : pall = [.str pq.flatten] := hpq
          rw [hall, nobj_row, nrow] at p1
          rw [upOf] at j0
          obtain ⟨k1, k2, k3, k4⟩ := hIDS _ i2
          by_cases hh : (f.ht : Int) < (ht : Int)
          · simp -implicitDefEqProofs [j0, p1, hh]
            refine rise25 i1 i3 (riseF k1 k2) k3 (fun h4 d1 d2 d3 d4 => ?_)
            simp -implicitDefEqProofs
            have hturn : ∃ l' r', turned f n ht x l r = .node n ht x l' r' := by unfold turned; cases f.left <;> exact ⟨_, _, rfl⟩
            obtain ⟨l', r', et⟩ := hturn
            have hi : (plug c (turned f n ht x l r)).items = T := by rw [plug_items_congr (turned_items f n ht x l r)]; exact i2
            rw [et] at d1 d2 hi
            exact .mk (m := c.length) (by simp) (by rw [hI]; exact ⟨c, ht, l', r', rfl, d1, hi, ⟨s2, d2⟩, fun o o1 o2 o3 => by rw [d3 o o2 (fun hm => by rcases (k4 o).1 hm with h1 | h1; exact o1 h1; exact o3 h1), i4 o o1 o2 o3], by rw [d4, i5], rfl⟩)
          · simp -implicitDefEqProofs [j0, p1, hh]
            exact endQ h' _ i1 ⟨s2, i3⟩ i2 i4 i5
      · rw [hr1] at ja
        simp -implicitDefEqProofs [hHr, ja]
        rw [← hr1]
        refine leftmost23 jr ?_
        rw [hlm]
        simp -implicitDefEqProofs
        refine below22 true hHn p1 hnf (fun H3 b1 b2 hG3 hX3 => ?_)
        have hS := put H3 b1 (by rw [b2, hfl]) hG3
        obtain ⟨hR3, hF3⟩ := hfin H3 hG3
        simp -implicitDefEqProofs
        have hIDS : ∀ t' : Rt Str, t'.items = T → t'.ids.Nodup ∧ rr ∉ t'.ids ∧ Fit t' ∧ (∀ o, o ∈ t'.ids ↔ o = n ∨ o ∈ t.ids) := by
          intro t' e
          unfold Fit Rt.tx
          refine ⟨by unfold Rt.ids; rw [e]; exact N1, ?_, ?_, ?_⟩
          · unfold Rt.ids
            rw [e, N2]
            rintro (h1 | h1)
            · exact hnr h1.symm
            · exact hrt h1
          · rw [e]; exact ⟨N3, N4⟩
          · intro o; rw [← N2]; unfold Rt.ids; rw [e]
        refine climb24 hS (hIDS _ hTi).1 (hIDS _ hTi).2.2.1 (fun h3 c1 c2 c3 => ?_)
        simp -implicitDefEqProofs
        obtain ⟨I, hI⟩ : ∃ I : Nat → List AVal → AHeap → Prop, I = fun m env h' => ∃ c ht l r, m = c.length ∧ At TS h' .nilp (plug c (.node n ht x l r)) ∧ (plug c (.node n ht x l r)).items = T ∧ (∃ s, h'.get rr = some (rrow (plug c (.node n ht x l r)).ptr s)) ∧ (∀ o, o ≠ n → o ≠ rr → o ∉ t.ids → h'.get o = H.get o) ∧ h'.next = H.next ∧ env = (.ptr rr 0 :: .dead :: .dead :: .dead :: .dead :: .dead :: .dead :: .ptr n 0 :: .dead :: .dead :: .dead :: .dead :: .dead :: .dead :: .dead :: .dead :: .dead :: .dead :: .dead :: .dead :: .dead :: .dead :: .dead :: .dead :: .dead :: .dead :: .dead :: .dead :: .dead :: .dead :: .dead :: .dead :: .dead :: .dead :: .dead :: .dead :: .dead :: .dead :: .dead :: .dead :: .dead :: .dead :: .dead :: .dead :: .dead :: .dead :: .dead :: .dead :: .dead :: .dead :: .dead :: .dead :: .dead :: .dead :: .dead :: .dead :: .dead :: .dead :: .dead :: .dead :: .dead :: .dead :: .dead :: .dead :: .dead :: .dead :: .dead :: .dead :: .dead :: .dead :: .dead :: []) := ⟨_, rfl⟩
        refine loop_of I ?_ (f :: c).length (by rw [hI]; exact ⟨_, v, .nil, .nil, rfl, c1, hTi, ⟨s', by rw [c2 rr (hIDS _ hTi).2.1, hR3, plug_ptr]; rfl⟩, fun o o1 o2 o3 => by rw [c2 o (fun hm => by rcases ((hIDS _ hTi).2.2.2 o).1 hm with h1 | h1; exact o1 h1; exact o3 h1), hF3 o o1 o2 o3], by rw [c3, hX3], rfl⟩)
        intro m env h' hi
        rw [hI] at hi
        obtain ⟨c, ht, l, r, rfl, i1, i2, ⟨s2, i3⟩, i4, i5, rfl⟩ := hi
        obtain ⟨j1, j2⟩ := At.split i1
        have j0 := (at_node.1 j1).1
        rw [nrow] at j0
        cases c with
        | nil =>
          simp -implicitDefEqProofs [j0, upOf]
          exact endQ h' _ i1 ⟨s2, i3⟩ i2 i4 i5
        | cons f c =>
          obtain ⟨⟨psz, pall, ⟨pq, hpq⟩, p1⟩, p2, p3⟩ := j2
          have hall : pall = [.str pq.flatten] := hpq
          rw [hall, nobj_row, nrow] at p1
          rw [upOf] at j0
          obtain ⟨k1, k2, k3, k4⟩ := hIDS _ i2
          by_cases hh : (f.ht : Int) < (ht : Int)
          · simp -implicitDefEqProofs [j0, p1, hh]
            refine rise25 i1 i3 (riseF k1 k2) k3 (fun h4 d1 d2 d3 d4 => ?_)
            simp -implicitDefEqProofs
            have hturn : ∃ l' r', turned f n ht x l r = .node n ht x l' r' := by unfold turned; cases f.left <;> exact ⟨_, _, rfl⟩
            obtain ⟨l', r', et⟩ := hturn
            have hi : (plug c (turned f n ht x l r)).items = T := by rw [plug_items_congr (turned_items f n ht x l r)]; exact i2
            rw [et] at d1 d2 hi
            exact .mk (m := c.length) (by simp) (by rw [hI]; exact ⟨c, ht, l', r', rfl, d1, hi, ⟨s2, d2⟩, fun o o1 o2 o3 => by rw [d3 o o2 (fun hm => by rcases (k4 o).1 hm with h1 | h1; exact o1 h1; exact o3 h1), i4 o o1 o2 o3], by rw [d4, i5], rfl⟩)
          · simp -implicitDefEqProofs [j0, p1, hh]
            exact endQ h' _ i1 ⟨s2, i3⟩ i2 i4 i5
end
end Go.Proofs.Ytbnlhhfobgjeaaa
set_option linter.all false
set_option maxRecDepth 100000
set_option maxHeartbeats 4000000
namespace Go.Proofs.Ytbnlhhfobgjeaaa
open Go Go.RowKit Go.Proofs
def headP : List (Nat × Str) → AVal
  | [] => .nilp
  | p :: _ => .ptr p.1 0
theorem lm_head : ∀ t : Rt Str, t.lm = headP t.items
  | .nil => rfl
  | .node o ht x .nil r => rfl
  | .node o ht x (.node o2 h2 x2 l2 r2) r => by
    show Rt.lm (.node o2 h2 x2 l2 r2) = _
    rw [lm_head (.node o2 h2 x2 l2 r2)]
    rw [items_node o ht]
    cases h : (Rt.node o2 h2 x2 l2 r2).items with
    | nil => rw [items_node] at h; simp at h
    | cons a b => rfl
section
variable {ro : Nat → Option (List AVal)}
theorem len12 {h : AHeap} {rr : Nat} {t : Rt Str} (R : Rp h rr t) {Q : AVal → AHeap → Prop} (hq : Q (.int .i64 t.items.length) h) : Ev (cfgR ro) 12 [.ptr rr 0] h Q := by
  obtain ⟨s, hr⟩ := R.root
  refine Ev.wp rfl rfl Try.func12 rfl ?_
  rw [rrow] at hr
  simp -implicitDefEqProofs [Try.f12, hr]
  refine len26 R.tree ?_
  simp -implicitDefEqProofs
  exact hq
theorem all13 {h : AHeap} {rr : Nat} {t : Rt Str} (R : Rp h rr t) {Q : AVal → AHeap → Prop} (hq : Q (.agg [.str t.tx]) h) : Ev (cfgR ro) 13 [.ptr rr 0] h Q := by
  obtain ⟨s, hr⟩ := R.root
  refine Ev.wp rfl rfl Try.func13 rfl ?_
  rw [rrow] at hr
  simp -implicitDefEqProofs [Try.f13, hr]
  refine sum27 R.tree ?_
  simp -implicitDefEqProofs
  exact hq
/-- the cell above, and whether it leads to us by its right -/
theorem above {h : AHeap} {f : Frm Str} {c : List (Frm Str)} {n ht : Nat} {x : Str} {l r : Rt Str} (ha : At TS h .nilp (plug (f :: c) (.node n ht x l r))) (hnd : (plug (f :: c) (.node n ht x l r)).ids.Nodup) :
    ∃ psz pall, h.get f.o = some (nrow (upOf c) (if f.left then .ptr n 0 else f.sib.ptr) (if f.left then f.sib.ptr else .ptr n 0) f.ht psz f.x pall) ∧
      At TS h (.ptr f.o 0) f.sib ∧ eqIn (cfgR ro) h 10000 24 (if f.left then f.sib.ptr else .ptr n 0) (.ptr n 0) = .ok (!f.left) := by
  obtain ⟨j1, ⟨psz, pall, ⟨pq, hpq⟩, p1⟩, p2, p3⟩ := At.split ha
  have hall : pall = [.str pq.flatten] := hpq
  rw [hall, nobj_row] at p1
  have hn := (at_node.1 j1).1
  have hns : n ∉ f.sib.ids := fun hm => (apart_tree hnd).2 n (by rw [ids_node]; simp) (cids_cons.2 (.inr (.inl hm)))
  refine ⟨psz, _, by rw [p1]; unfold lptr rptr'; cases f.left <;> rfl, p2, ?_⟩
  cases f.left with
  | true => exact eq_place p2 hns hn
  | false =>
    show eqIn (cfgR ro) h 10000 24 (.ptr n 0) (.ptr n 0) = _
    rw [eq24_pp, ptrEq_self]; rfl
theorem index9 {h : AHeap} {rr : Nat} {T : Rt Str} {a : Nat} {y : Str} {L1 L2 : List (Nat × Str)} (ha : At TS h .nilp T) (hnd : T.ids.Nodup) (hT : T.items = L1 ++ (a, y) :: L2) (hfit : T.items.length < 2 ^ 60) {Q : AVal → AHeap → Prop} (hq : Q (.int .i64 L1.length) h) : Ev (cfgR ro) 9 [.ptr rr 0, .ptr a 0] h Q := by
  obtain ⟨c, ht, l, r, e1, e2⟩ := place hT hnd
  refine Ev.wp rfl rfl Try.func9 rfl ?_
  have h0 := (At.split (t := .node a ht y l r) (e1 ▸ ha)).1
  obtain ⟨ja, jl, jr⟩ := at_node.1 h0
  have ja' := ja
  rw [nrow] at ja'
  simp -implicitDefEqProofs [Try.f9, ja']
  refine len26 jl ?_
  simp -implicitDefEqProofs
  obtain ⟨I, hI⟩ : ∃ I : Nat → List AVal → AHeap → Prop, I = fun m env h' => h' = h ∧ ∃ c n ht x l r acc, m = c.length ∧ T = plug c (.node n ht x l r) ∧ (bef c).length + acc = L1.length ∧ env = (.dead :: .ptr n 0 :: .dead :: .dead :: .dead :: .int .i64 (acc : Nat) :: .dead :: .dead :: .dead :: .dead :: .dead :: .dead :: .dead :: .dead :: .dead :: .dead :: .dead :: .dead :: .dead :: .dead :: .dead :: .dead :: .dead :: .dead :: .dead :: .dead :: .dead :: .dead :: .dead :: .dead :: .dead :: .dead :: .dead :: .dead :: .dead :: .dead :: .dead :: .dead :: .dead :: .dead :: .dead :: []) := ⟨_, rfl⟩
  refine loop_of I ?_ c.length (by rw [hI]; exact ⟨rfl, c, a, ht, y, l, r, l.items.length, rfl, e1, by rw [← e2, List.length_append], rfl⟩)
  intro m env h' hi
  rw [hI] at hi
  obtain ⟨rfl, c, n, ht, x, l, r, acc, rfl, g1, g2, rfl⟩ := hi
  have hA : At TS h' .nilp (plug c (.node n ht x l r)) := g1 ▸ ha
  obtain ⟨ja, jl, jr⟩ := at_node.1 (At.split hA).1
  rw [nrow] at ja
  have hlen : L1.length < 2 ^ 60 := by rw [hT, List.length_append] at hfit; omega
  cases c with
  | nil =>
    rw [upOf] at ja
    simp -implicitDefEqProofs [ja]
    have : acc = L1.length := by simpa [bef] using g2
    rw [this]; exact hq
  | cons f c =>
    obtain ⟨psz, pall, p1, p2, p3⟩ := above (ro := ro) hA (g1 ▸ hnd)
    rw [upOf] at ja
    rw [nrow] at p1
    have hp : ∃ l2 r2, plug1 f (.node n ht x l r) = .node f.o f.ht f.x l2 r2 := by unfold plug1; cases f.left <;> exact ⟨_, _, rfl⟩
    obtain ⟨l2, r2, hp⟩ := hp
    cases hl : f.left with
    | true =>
      rw [hl] at p1 p3
      simp only [if_true] at p1 p3
      simp -implicitDefEqProofs [ja, p1, p3, cells_ptr]
      refine ⟨by cases f.sib <;> simp [Rt.ptr], ?_⟩
      exact .mk (m := c.length) (by simp) (by rw [hI]; exact ⟨rfl, c, f.o, f.ht, f.x, l2, r2, acc, rfl, by rw [g1, plug, hp], by simpa [bef, hl] using g2, rfl⟩)
    | false =>
      rw [hl] at p1 p3
      simp only [Bool.false_eq_true, if_false] at p1 p3
      simp -implicitDefEqProofs [ja, p1, ptrEq_self]
      refine len26 p2 ?_
      have hb : (bef c).length + (acc + (f.sib.items.length + 1)) = L1.length := by
        rw [← g2]; simp [bef, hl]; omega
      have w1 : IntKind.i64.wrap ((f.sib.items.length : Int) + 1) = (f.sib.items.length : Int) + 1 := w64 (by omega) (by omega)
      have w2 : IntKind.i64.wrap ((acc : Int) + ((f.sib.items.length : Int) + 1)) = ((acc + (f.sib.items.length + 1) : Nat) : Int) := by rw [w64 (by omega) (by omega)]; push_cast; rfl
      simp -implicitDefEqProofs [w1, w2, ja, p1]
      exact .mk (m := c.length) (by simp) (by rw [hI]; exact ⟨rfl, c, f.o, f.ht, f.x, l2, r2, _, rfl, by rw [g1, plug, hp], hb, by simp⟩)
end
end Go.Proofs.Ytbnlhhfobgjeaaa
set_option linter.all false
set_option maxRecDepth 100000
set_option maxHeartbeats 4000000
namespace Go.Proofs.Ytbnlhhfobgjeaaa
open Go Go.RowKit Go.Proofs
def txs (L : List (Nat × Str)) : Str := (L.map (·.2)).flatten
section
variable {c : Cfg} {f : Nat} {K : List AVal → AHeap → Prop} {E : Nat → List AVal → AHeap → Prop} {R : List AVal → AHeap → Prop} {G : Nat → List AVal → AHeap → Prop}
theorem scope_loop2 {l : Nat} {body rest : Code} (hl : findLabel body l = some (Code.skip.seq rest)) (I : Nat → List AVal → AHeap → Prop)
    (hI : ∀ n env h, (∀ m, m < n → ∀ env h, I m env h → scpG c f K E R G body l env h) → I n env h → wp c f rest K E R (scpG c f K E R G body) env h) (n : Nat) {env : List AVal} {h : AHeap} (h0 : I n env h) :
    wp c f (.label l) (seqK c f K E R (scpG c f K E R G body) rest) E R (scpG c f K E R G body) env h := by
  have key : ∀ n {env : List AVal} {h : AHeap}, I n env h → scpG c f K E R G body l env h := by
    intro n
    induction n using Nat.strongRecOn with
    | _ n ih =>
      intro env h h0
      unfold scpG
      rw [hl]
      exact label_of (rest := Code.skip.seq rest) (hI n env h (fun m hm env h q => ih m hm q) h0)
  exact hI n env h (fun m _ env h q => key m q) h0
end
theorem txs_append (a b : List (Nat × Str)) : txs (a ++ b) = txs a ++ txs b := by simp [txs]
section
variable {ro : Nat → Option (List AVal)}
theorem before10 {h : AHeap} {rr : Nat} {T : Rt Str} {a : Nat} {y : Str} {L1 L2 : List (Nat × Str)} (ha : At TS h .nilp T) (hnd : T.ids.Nodup) (hT : T.items = L1 ++ (a, y) :: L2) (hfit : T.tx.length < 2 ^ 60) {Q : AVal → AHeap → Prop} (hq : Q (.agg [.str (txs L1)]) h) : Ev (cfgR ro) 10 [.ptr rr 0, .ptr a 0] h Q := by
  obtain ⟨c, ht, l, r, e1, e2⟩ := place hT hnd
  refine Ev.wp rfl rfl Try.func10 rfl ?_
  have h0 := (At.split (t := .node a ht y l r) (e1 ▸ ha)).1
  obtain ⟨ja, jl, jr⟩ := at_node.1 h0
  have ja' := ja
  rw [nrow] at ja'
  simp -implicitDefEqProofs [Try.f10, ja']
  refine sum27 jl ?_
  simp -implicitDefEqProofs
  have hlen : (txs L1).length + (txs L2).length < 2 ^ 60 := by
    have : T.tx = txs L1 ++ (y ++ txs L2) := by
      show txs T.items = _
      rw [hT, txs_append]; simp [txs]
    rw [this] at hfit
    simp only [List.length_append] at hfit
    omega
  obtain ⟨I, hI⟩ : ∃ I : Nat → List AVal → AHeap → Prop, I = fun m env h' => h' = h ∧ ∃ c n ht x l r acc, m = c.length ∧ T = plug c (.node n ht x l r) ∧ txs (bef c) ++ acc = txs L1 ∧ env = (.dead :: .ptr n 0 :: .dead :: .dead :: .cell [.str []] :: .cell [.str acc] :: .dead :: .dead :: .dead :: .dead :: .dead :: .dead :: .dead :: .dead :: .dead :: .dead :: .dead :: .dead :: .dead :: .dead :: .dead :: .dead :: .dead :: .dead :: .dead :: .dead :: .dead :: .dead :: .dead :: .dead :: .dead :: .dead :: .dead :: .dead :: .dead :: .dead :: .dead :: .dead :: .dead :: .dead :: .dead :: .dead :: .dead :: .dead :: .dead :: .dead :: .dead :: .dead :: .dead :: .dead :: .dead :: .dead :: []) := ⟨_, rfl⟩
  refine loop_of I ?_ c.length (by rw [hI]; exact ⟨rfl, c, a, ht, y, l, r, l.tx, rfl, e1, by rw [← e2, txs_append]; rfl, rfl⟩)
  intro m env h' hi
  rw [hI] at hi
  obtain ⟨rfl, c, n, ht, x, l, r, acc, rfl, g1, g2, rfl⟩ := hi
  have hA : At TS h' .nilp (plug c (.node n ht x l r)) := g1 ▸ ha
  obtain ⟨ja, jl, jr⟩ := at_node.1 (At.split hA).1
  rw [nrow] at ja
  cases c with
  | nil =>
    rw [upOf] at ja
    simp -implicitDefEqProofs [ja]
    have : acc = txs L1 := by simpa [bef, txs] using g2
    rw [this]; exact hq
  | cons f c =>
    obtain ⟨psz, pall, p1, p2, p3⟩ := above (ro := ro) hA (g1 ▸ hnd)
    rw [upOf] at ja
    rw [nrow] at p1
    have hp : ∃ l2 r2, plug1 f (.node n ht x l r) = .node f.o f.ht f.x l2 r2 := by unfold plug1; cases f.left <;> exact ⟨_, _, rfl⟩
    obtain ⟨l2, r2, hp⟩ := hp
    cases hl : f.left with
    | true =>
      rw [hl] at p1 p3
      simp only [if_true] at p1 p3
      simp -implicitDefEqProofs [ja, p1, p3, cells_ptr]
      refine ⟨by cases f.sib <;> simp [Rt.ptr], ?_⟩
      exact .mk (m := c.length) (by simp) (by rw [hI]; exact ⟨rfl, c, f.o, f.ht, f.x, l2, r2, acc, rfl, by rw [g1, plug, hp], by simpa [bef, hl] using g2, rfl⟩)
    | false =>
      rw [hl] at p1 p3
      simp only [Bool.false_eq_true, if_false] at p1 p3
      have hb : txs (bef c) ++ (f.sib.tx ++ f.x ++ acc) = txs L1 := by
        rw [← g2]
        show _ = txs (bef c ++ _) ++ acc
        rw [txs_append, hl]
        simp [txs, Rt.tx]
      have hbl := congrArg List.length hb
      simp only [List.length_append] at hbl
      simp -implicitDefEqProofs [ja, p1, ptrEq_self]
      refine sum27 p2 ?_
      simp -implicitDefEqProofs [ja, p1, undR, Try.underlying31, Try.underlying32, meth31, meth32]
      refine meas57 ?_
      simp -implicitDefEqProofs [ja, p1, meth32]
      refine plus58 (by omega) ?_
      simp -implicitDefEqProofs [ja, p1, undR, Try.underlying32, meth32]
      refine plus58 (by simp only [List.length_append]; omega) ?_
      simp -implicitDefEqProofs [ja, p1]
      exact .mk (m := c.length) (by simp) (by rw [hI]; exact ⟨rfl, c, f.o, f.ht, f.x, l2, r2, _, rfl, by rw [g1, plug, hp], hb, by simp⟩)
theorem next11 {h : AHeap} {T : Rt Str} {a : Nat} {y : Str} {L1 L2 : List (Nat × Str)} (ha : At TS h .nilp T) (hnd : T.ids.Nodup) (hT : T.items = L1 ++ (a, y) :: L2) {Q : AVal → AHeap → Prop} (hq : Q (headP L2) h) : Ev (cfgR ro) 11 [.ptr a 0] h Q := by
  obtain ⟨c, ht, l, r, e1, e2⟩ := place hT hnd
  refine Ev.wp rfl rfl Try.func11 rfl ?_
  have h0 := (At.split (t := .node a ht y l r) (e1 ▸ ha)).1
  obtain ⟨ja, jl, jr⟩ := at_node.1 h0
  have ja' := ja
  rw [nrow] at ja'
  have hL2 : L2 = r.items ++ aft c := by
    have := plug_items c (.node a ht y l r)
    rw [← e1, hT, ← e2, items_node] at this
    simpa using this
  cases r with
  | node o2 h2 x2 l2 r2 =>
    rw [ptr_node] at ja'
    simp -implicitDefEqProofs [Try.f11, ja']
    rw [← ptr_node (o := o2) (ht := h2) (x := x2) (l := l2) (r := r2)]
    refine leftmost23 jr ?_
    simp -implicitDefEqProofs
    rw [lm_head]
    have : headP (Rt.node o2 h2 x2 l2 r2).items = headP L2 := by
      rw [hL2]
      cases h : (Rt.node o2 h2 x2 l2 r2).items with
      | nil => rw [items_node] at h; simp at h
      | cons p q => rfl
    rw [this]; exact hq
  | nil =>
    rw [ptr_nil] at ja'
    simp -implicitDefEqProofs [Try.f11, ja']
    refine scope_loop2 (by simp [findLabel]) (fun m env h' => h' = h ∧ ∃ c n ht x l r z, m = c.length ∧ T = plug c (.node n ht x l r) ∧ aft c = L2 ∧ env = (.ptr n 0 :: .dead :: .dead :: .dead :: .dead :: .dead :: .dead :: z :: .dead :: .dead :: .dead :: .dead :: .dead :: .dead :: .dead :: .dead :: .dead :: .dead :: .dead :: .dead :: .dead :: .dead :: .dead :: .dead :: .dead :: .dead :: .dead :: .dead :: .dead :: .dead :: .dead :: .dead :: .dead :: .dead :: .dead :: .dead :: .dead :: [])) ?_ c.length ⟨rfl, c, a, ht, y, l, .nil, _, rfl, e1, by rw [hL2]; rfl, rfl⟩
    rintro m env h' ih ⟨rfl, c, n, ht, x, l, r, z, rfl, g1, g2, rfl⟩
    have hA : At TS h' .nilp (plug c (.node n ht x l r)) := g1 ▸ ha
    obtain ⟨ja, jl, jr⟩ := at_node.1 (At.split hA).1
    rw [nrow] at ja
    cases c with
    | nil =>
      rw [upOf] at ja
      simp -implicitDefEqProofs [ja]
      have : L2 = [] := by rw [← g2]; rfl
      rw [this] at hq; exact hq
    | cons f c =>
      obtain ⟨psz, pall, p1, p2, p3⟩ := above (ro := ro) hA (g1 ▸ hnd)
      rw [upOf] at ja
      rw [nrow] at p1
      have hp : ∃ l2 r2, plug1 f (.node n ht x l r) = .node f.o f.ht f.x l2 r2 := by unfold plug1; cases f.left <;> exact ⟨_, _, rfl⟩
      obtain ⟨l2, r2, hp⟩ := hp
      cases hl : f.left with
      | true =>
        rw [hl] at p1 p3
        simp only [if_true] at p1 p3
        simp -implicitDefEqProofs [ja, p1, p3, cells_ptr]
        refine ⟨by cases f.sib <;> simp [Rt.ptr], ?_⟩
        have : headP L2 = .ptr f.o 0 := by rw [← g2]; simp [aft, hl, headP]
        rw [this] at hq; exact hq
      | false =>
        rw [hl] at p1 p3
        simp only [Bool.false_eq_true, if_false] at p1 p3
        simp -implicitDefEqProofs [ja, p1, ptrEq_self]
        refine ih _ ?_ _ _ ⟨rfl, c, f.o, f.ht, f.x, l2, r2, _, rfl, by rw [g1, plug, hp], by rw [← g2]; simp [aft, hl], rfl⟩
        simp
end
end Go.Proofs.Ytbnlhhfobgjeaaa
set_option linter.all false
set_option maxRecDepth 100000
set_option maxHeartbeats 4000000
namespace Go.Proofs.Ytbnlhhfobgjeaaa
open Go Go.RowKit Go.Proofs
section
variable {ro : Nat → Option (List AVal)}
theorem put {h : AHeap} {rr : Nat} {t : Rt Str} {x : Str} {after : AVal} {L1 L2 : List (Nat × Str)} (R : Rp h rr t) (hit : t.items = L1 ++ L2)
    (hfit : t.items.length + 1 < 2 ^ 60 ∧ t.tx.length + x.length < 2 ^ 60) (haft : (L1 = [] ∧ after = .nilp) ∨ ∃ L0 a y, L1 = L0 ++ [(a, y)] ∧ after = .ptr a 0)
    {Q : AVal → AHeap → Prop}
    (hq : ∀ n h' t', Rp h' rr t' → t'.items = L1 ++ (n, x) :: L2 → h.next ≤ n → (∀ o, o < h.next → o ≠ rr → o ∉ t.ids → h'.get o = h.get o) → h.next ≤ h'.next → Q (.ptr n 0) h') : Ev (cfgR ro) 7 [.ptr rr 0, after, .agg [.str x]] h Q := by
  refine put7 R hit hfit ?_ hq
  cases ht : t with
  | nil => exact .inl rfl
  | node o0 ht0 x0 l0 r0 =>
    rw [← ht]
    refine .inr ?_
    have hne : t ≠ .nil := by rw [ht]; simp
    have hp : ∃ o, t.ptr = .ptr o 0 := ⟨o0, by rw [ht]; rfl⟩
    rcases haft with ⟨rfl, rfl⟩ | ⟨L0, a, y, rfl, rfl⟩
    · obtain ⟨f, c, h1, h2, h3, h4⟩ := hole_left t hne
      exact ⟨f, c, h1, h2, hp, .inl ⟨rfl, h3, h4⟩⟩
    · obtain ⟨c0, aht, l, r, e1, e2⟩ := place (L1 := L0) (o := a) (x := y) (L2 := L2) (by rw [hit]; simp) R.nd
      cases hr : r with
      | nil =>
        rw [hr] at e1
        refine ⟨⟨a, aht, y, false, l⟩, c0, e1.symm, ?_, hp, .inr ⟨c0, a, aht, y, l, .nil, rfl, e1, .inl ⟨rfl, rfl, rfl⟩⟩⟩
        show bef c0 ++ (l.items ++ [(a, y)]) = _
        rw [← e2]; simp
      | node o2 h2 x2 l2 r2 =>
        obtain ⟨f, c, k1, k2, k3, k4⟩ := hole_left r (by rw [hr]; simp)
        refine ⟨f, c ++ ⟨a, aht, y, false, l⟩ :: c0, ?_, ?_, hp, .inr ⟨c0, a, aht, y, l, r, rfl, e1, .inr ⟨o2, by rw [hr]; rfl, k3, k4⟩⟩⟩
        · rw [← List.cons_append, plug_append, k1, e1]; rfl
        · rw [← List.cons_append, bef_append, k2, List.append_nil]
          show bef c0 ++ (l.items ++ [(a, y)]) = _
          rw [← e2]; simp
end
/-- a list of places, in a row of its own -/
def Plc (h : AHeap) (v : AVal) (es : List AVal) (bad : Nat → Prop) : Prop := (es = [] ∧ v = .nils) ∨ ∃ q fz, v = .sl q 0 es.length ∧ q < h.next ∧ h.get q = some (.row 1 fz es) ∧ ¬ bad q
theorem flat1 : ∀ es : List AVal, (es.map fun e => [e]).flatten = es
  | [] => rfl
  | e :: es => by simp [flat1 es]
theorem Plc.mine {h : AHeap} {v : AVal} {es : List AVal} {bad : Nat → Prop} (p : Plc h v es bad) : ∃ h0, Mine h0 h 1 (es.map fun e => [e]) v := by
  refine ⟨⟨h.objs, 0⟩, by simp, ?_⟩
  rcases p with ⟨rfl, rfl⟩ | ⟨q, fz, rfl, h1, h2, h3⟩
  · exact .inl ⟨rfl, rfl⟩
  · exact .inr ⟨q, fz, by simp, Nat.zero_le _, h1, by rw [flat1]; exact h2⟩
theorem Plc.app {h : AHeap} {v e : AVal} {es : List AVal} {bad : Nat → Prop} (p : Plc h v es bad) (hb : ∀ o, bad o → o < h.next) (hl : es.length < 2 ^ 40) :
    ∃ v' h', appCore 1 8 h v 1 [e] = .ok (v', h') ∧ Plc h' v' (es ++ [e]) bad ∧ h.next ≤ h'.next ∧ ∀ o, bad o → h'.get o = h.get o := by
  rcases p with ⟨rfl, rfl⟩ | ⟨q, fz, rfl, h1, h2, h3⟩
  · refine ⟨.sl h.next 0 1, h.push (.row 1 false [e]), by unfold appCore; simp, .inr ⟨h.next, false, rfl, by simp, by simp, fun hb' => by have := hb _ hb'; omega⟩, by simp, fun o ho => ?_⟩
    have := hb o ho
    rw [AHeap.get_push, if_neg (by omega)]
  · refine ⟨.sl h.next 0 (es.length + 1), (h.del q).push (.row 1 true (es ++ [e])), ?_, .inr ⟨h.next, true, by simp, by simp, by have := get_push_next (h.del q) (.row 1 true (es ++ [e])); simpa using this, fun hb' => by have := hb _ hb'; omega⟩, by simp, fun o ho => ?_⟩
    · unfold appCore
      simp only [h2, if_true]
      rw [if_neg (by omega), if_neg (by omega)]
      have : takeR es 0 (es.length * 1) = .ok es := by
        unfold takeR
        rw [if_pos (by omega), List.drop_zero, Nat.mul_one, List.take_length]
      rw [this]; rfl
    · have h4 := hb o ho
      have h5 : o ≠ q := fun e => h3 (by rw [← e]; exact ho)
      rw [AHeap.get_push, if_neg (by simp; omega), AHeap.get_del, if_neg h5]
theorem Plc.keep {h h' : AHeap} {v : AVal} {es : List AVal} {bad bad' : Nat → Prop} (p : Plc h v es bad) (hn : h.next ≤ h'.next) (hk : ∀ o, o < h.next → ¬ bad o → h'.get o = h.get o) (hb : ∀ o, bad' o → bad o ∨ h.next ≤ o) : Plc h' v es bad' := by
  rcases p with ⟨rfl, rfl⟩ | ⟨q, fz, rfl, h1, h2, h3⟩
  · exact .inl ⟨rfl, rfl⟩
  · refine .inr ⟨q, fz, rfl, by omega, by rw [hk q h1 h3]; exact h2, fun hm => ?_⟩
    rcases hb q hm with h4 | h4
    · exact h3 h4
    · omega
end Go.Proofs.Ytbnlhhfobgjeaaa
set_option linter.all false
set_option maxRecDepth 100000
set_option maxHeartbeats 4000000
namespace Go.Proofs.Ytbnlhhfobgjeaaa
open Go Go.RowKit Go.Proofs
/-- a rope of one's own -/
structure RpO (h0 h : AHeap) (rr : Nat) (t : Rt Str) : Prop where
  rp : Rp h rr t
  lo : h0.next ≤ rr
  los : ∀ o ∈ t.ids, h0.next ≤ o
  old : Old h0 h
theorem new27 {h0 h : AHeap} (k : Old h0 h) : RpO h0 (h.push (.row 0 false [.nilp, .int .u64 0])) h.next .nil :=
  ⟨⟨⟨0, by rw [get_push_next]; rfl⟩, trivial, List.nodup_nil, by simp [Rt.ids, Rt.items], by simp, by simp [Rt.ids, Rt.items]⟩, k.1, by simp [Rt.ids, Rt.items], k.push _⟩
theorem tx_items {t : Rt Str} {L : List (Nat × Str)} (h : t.items = L) : t.tx = txs L := by unfold Rt.tx txs; rw [h]
section
variable {ro : Nat → Option (List AVal)}
theorem putO {h0 h : AHeap} {rr : Nat} {t : Rt Str} {x : Str} {after : AVal} {L1 L2 : List (Nat × Str)} (R : RpO h0 h rr t) (hit : t.items = L1 ++ L2)
    (hfit : t.items.length + 1 < 2 ^ 60 ∧ t.tx.length + x.length < 2 ^ 60) (haft : (L1 = [] ∧ after = .nilp) ∨ ∃ L0 a y, L1 = L0 ++ [(a, y)] ∧ after = .ptr a 0)
    {Q : AVal → AHeap → Prop}
    (hq : ∀ n h' t', RpO h0 h' rr t' → t'.items = L1 ++ (n, x) :: L2 → h.next ≤ n → (∀ o, o < h.next → o ≠ rr → o ∉ t.ids → h'.get o = h.get o) → h.next ≤ h'.next → Q (.ptr n 0) h') : Ev (cfgR ro) 7 [.ptr rr 0, after, .agg [.str x]] h Q := by
  refine put R.rp hit hfit haft (fun n h' t' r1 r2 r3 r4 r5 => ?_)
  refine hq n h' t' ⟨r1, R.lo, ?_, Nat.le_trans R.old.1 r5, fun o ho => ?_⟩ r2 r3 r4 r5
  · intro o ho
    have : o = n ∨ o ∈ t.ids := by
      unfold Rt.ids at ho ⊢
      rw [r2] at ho
      rw [hit]
      simp only [List.map_append, List.map_cons, List.mem_append, List.mem_cons] at ho ⊢
      rcases ho with h1 | h1 | h1
      · exact .inr (.inl h1)
      · exact .inl h1
      · exact .inr (.inr h1)
    rcases this with rfl | h1
    · exact Nat.le_trans R.old.1 r3
    · exact R.los o h1
  · rw [r4 o (Nat.lt_of_lt_of_le ho R.old.1) (fun e => by have := R.lo; omega) (fun hm => by have := R.los o hm; omega), R.old.2 o ho]
theorem anchor6 {h : AHeap} {Q : AVal → AHeap → Prop} (hq : ∀ h', Old h h' → Q (.bool true) h') : Ev (cfgR ro) 6 [] h Q := by
  refine Ev.wp rfl rfl Try.func6 rfl ?_
  simp -implicitDefEqProofs [Try.f6]
  refine putO (new27 (Old.refl h)) (L1 := []) (L2 := []) rfl (by simp [Rt.items, Rt.tx]) (.inl ⟨rfl, rfl⟩) (fun a h1 t1 r1 i1 n1 k1 m1 => ?_)
  simp -implicitDefEqProofs
  refine putO r1 (L1 := [(a, [97])]) (L2 := []) i1 (by rw [tx_items i1, i1]; simp [txs]) (.inr ⟨[], a, _, rfl, rfl⟩) (fun c h2 t2 r2 i2 n2 k2 m2 => ?_)
  simp -implicitDefEqProofs
  refine putO r2 (L1 := [(a, [97])]) (L2 := [(c, [99])]) i2 (by rw [tx_items i2, i2]; simp [txs]) (.inr ⟨[], a, _, rfl, rfl⟩) (fun b h3 t3 r3 i3 n3 k3 m3 => ?_)
  simp -implicitDefEqProofs
  refine all13 r3.rp ?_
  rw [tx_items i3]
  simp -implicitDefEqProofs [txs]
  refine before10 r3.rp.tree r3.rp.nd (L1 := [(a, [97]), (b, [98])]) (a := c) (y := [99]) (L2 := []) i3 (by rw [tx_items i3]; simp [txs]) ?_
  simp -implicitDefEqProofs [txs]
  exact hq h3 r3.old
end
end Go.Proofs.Ytbnlhhfobgjeaaa
