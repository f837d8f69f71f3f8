/-
  A part of the proof of RopeRows, over the seat Ytbnlhhfobgjeaaa: for every input the law returns true, and the input reads as it did.
-/
import Derived.Test.YtbnlhhfobgjeaaaR2F
set_option linter.all false
set_option maxRecDepth 100000
set_option maxHeartbeats 4000000
namespace Go.Proofs.Ytbnlhhfobgjeaaa
open Go Go.RowKit Go.Proofs
section
variable {ro : Nat → Option (List AVal)}
theorem put7 {h : AHeap} {rr : Nat} {t : Rt Str} {x : Str} {after : AVal} {L1 L2 : List (Nat × Str)} (R : Rp h rr t) (hit : t.items = L1 ++ L2)
    (hfit : t.items.length + 1 < 2 ^ 60 ∧ t.tx.length + x.length < 2 ^ 60)
    (W : t = .nil ∨ (∃ f c, plug (f :: c) Rt.nil = t ∧ bef (f :: c) = L1 ∧ (∃ o, t.ptr = .ptr o 0) ∧ ((after = .nilp ∧ f.left = true ∧ t.lm = .ptr f.o 0) ∨
      (∃ c0 a ht ax l r, after = .ptr a 0 ∧ t = plug c0 (.node a ht ax l r) ∧ ((r = .nil ∧ f.left = false ∧ f.o = a) ∨ (∃ o, r.ptr = .ptr o 0 ∧ f.left = true ∧ r.lm = .ptr f.o 0))))))
    {Q : AVal → AHeap → Prop}
    (hq : ∀ n h' t', Rp h' rr t' → t'.items = L1 ++ (n, x) :: L2 → h.next ≤ n → (∀ o, o < h.next → o ≠ rr → o ∉ t.ids → h'.get o = h.get o) → h.next ≤ h'.next → Q (.ptr n 0) h') : Ev (cfgR ro) 7 [.ptr rr 0, after, .agg [.str x]] h Q := by
  obtain ⟨⟨s, hr⟩, ha, hnd, hrt, hlr, hlt⟩ := R
  refine Ev.wp rfl rfl Try.func7 rfl ?_
  simp -implicitDefEqProofs [Try.f7]
  refine draw21 hr ?_
  intro v s'
  obtain ⟨H, hH⟩ : ∃ H, H = (h.set rr (rrow t.ptr s')).push (nrow .nilp .nilp .nilp v 0 x []) := ⟨_, rfl⟩
  obtain ⟨n, hn⟩ : ∃ n, n = h.next := ⟨_, rfl⟩
  have hnr : n ≠ rr := by omega
  have hHn : H.get n = some (nrow .nilp .nilp .nilp v 0 x []) := by rw [hH, hn]; exact get_push_next (h.set rr (rrow t.ptr s')) _
  have hHo : ∀ o, o ≠ n → o ≠ rr → H.get o = h.get o := by
    intro o h1 h2
    rw [hH, AHeap.get_push, AHeap.next_set, ← hn, if_neg h1, get_set_ne (Ne.symm h2)]
  have hHr : H.get rr = some (rrow t.ptr s') := by
    rw [hH, AHeap.get_push, AHeap.next_set, ← hn, if_neg (Ne.symm hnr), get_set_self]
  have hHx : H.next = n + 1 := by rw [hH, AHeap.next_push, AHeap.next_set, hn]
  have hnt : n ∉ t.ids := fun hm => by have := hlt n hm; omega
  have hHt : At TS H .nilp t := At.congr (fun o ho => hHo o (fun e => hnt (by rw [← e]; exact ho)) (fun e => hrt (by rw [← e]; exact ho))) ha
  have hN : ∀ T : List (Nat × Str), T = L1 ++ (n, x) :: L2 → (T.map (·.1)).Nodup ∧ (∀ o, o ∈ T.map (·.1) ↔ o = n ∨ o ∈ t.ids) ∧ T.length < 2 ^ 60 ∧ (T.map (·.2)).flatten.length < 2 ^ 60 := by
    rintro T rfl
    unfold Rt.ids Rt.tx at *
    rw [hit] at hnd hnt hfit
    simp only [List.map_append, List.map_cons, List.flatten_append, List.flatten_cons, List.length_append, List.length_cons] at hnd hnt hfit ⊢
    refine ⟨?_, ?_, by omega, by omega⟩
    · rw [List.nodup_append] at hnd ⊢
      obtain ⟨d1, d2, d3⟩ := hnd
      refine ⟨d1, List.nodup_cons.2 ⟨fun hm => hnt (List.mem_append.2 (.inr hm)), d2⟩, ?_⟩
      intro p hp q hq' e
      rcases List.mem_cons.1 hq' with rfl | hq'
      · exact hnt (List.mem_append.2 (.inl (by rw [← e]; exact hp)))
      · exact d3 p hp q hq' e
    · intro o
      rw [hit]
      simp only [List.map_append, List.mem_append, List.mem_cons]
      constructor
      · rintro (h1 | h1 | h1)
        · exact .inr (.inl h1)
        · exact .inl h1
        · exact .inr (.inr h1)
      · rintro (h1 | h1 | h1)
        · exact .inr (.inl h1)
        · exact .inl h1
        · exact .inr (.inr h1)
  obtain ⟨T, hT⟩ : ∃ T, T = L1 ++ (n, x) :: L2 := ⟨_, rfl⟩
  obtain ⟨N1, N2, N3, N4⟩ := hN T hT
  have endQ : ∀ h' t', At TS h' .nilp t' → (∃ s, h'.get rr = some (rrow t'.ptr s)) → t'.items = T → (∀ o, o ≠ n → o ≠ rr → o ∉ t.ids → h'.get o = H.get o) → h'.next = H.next → Q (.ptr n 0) h' := by
    intro h' t' e1 e2 e3 e4 e5
    refine hq n h' t' ⟨e2, e1, by unfold Rt.ids; rw [e3]; exact N1, ?_, by omega, ?_⟩ (by rw [e3, hT]) (by omega) (fun o o1 o2 o3 => by rw [e4 o (by omega) o2 o3, hHo o (by omega) o2]) (by omega)
    · unfold Rt.ids
      rw [e3, N2]
      rintro (h1 | h1)
      · exact hnr h1.symm
      · exact hrt h1
    · intro o ho
      unfold Rt.ids at ho
      rw [e3, N2] at ho
      rcases ho with rfl | ho
      · omega
      · have := hlt o ho; omega
  simp -implicitDefEqProofs
  simp only [nrow] at hH
  rw [show ((0 : Nat) : Int) = 0 from rfl] at hH
  rw [← hn, ← hH]
  rcases W with W0 | ⟨f, c, w1, w2, ⟨o0, w0⟩, W⟩
  · rw [rrow, W0, ptr_nil] at hHr
    rw [W0] at hit
    simp -implicitDefEqProofs [hHr]
    have hL1 : L1 = [] := by cases L1 with | nil => rfl | cons a b => cases hit
    have hL2 : L2 = [] := by rw [hL1] at hit; exact hit.symm
    have hS : Stl (H.set rr (.row 0 false [.ptr n 0, .int .u64 s'])) [] n v x .nil .nil := ⟨⟨0, [], by rw [get_set_ne (Ne.symm hnr), hHn]; rfl⟩, trivial, trivial, trivial⟩
    have hTi : (plug [] (Rt.node n v x .nil .nil)).items = T := by rw [hT, hL1, hL2]; rfl
    have hR3 : (H.set rr (.row 0 false [.ptr n 0, .int .u64 s'])).get rr = some (rrow (rootOf ([] : List (Frm Str)) (.ptr n 0)) s') := by rw [get_set_self]; rfl
    have hF3 : ∀ o, o ≠ n → o ≠ rr → o ∉ t.ids → (H.set rr (.row 0 false [.ptr n 0, .int .u64 s'])).get o = H.get o := fun o o1 o2 o3 => get_set_ne (Ne.symm o2)
    have hX3 : (H.set rr (.row 0 false [.ptr n 0, .int .u64 s'])).next = H.next := rfl
    have hIDS : ∀ t' : Rt Str, t'.items = T → t'.ids.Nodup ∧ rr ∉ t'.ids ∧ Fit t' ∧ (∀ o, o ∈ t'.ids ↔ o = n ∨ o ∈ t.ids) := by
      intro t' e
      unfold Fit Rt.tx
      refine ⟨by unfold Rt.ids; rw [e]; exact N1, ?_, ?_, ?_⟩
      · unfold Rt.ids
        rw [e, N2]
        rintro (h1 | h1)
        · exact hnr h1.symm
        · exact hrt h1
      · rw [e]; exact ⟨N3, N4⟩
      · intro o; rw [← N2]; unfold Rt.ids; rw [e]
    refine climb24 hS (hIDS _ hTi).1 (hIDS _ hTi).2.2.1 (fun h3 c1 c2 c3 => ?_)
    simp -implicitDefEqProofs
    obtain ⟨I, hI⟩ : ∃ I : Nat → List AVal → AHeap → Prop, I = fun m env h' => ∃ c ht l r, m = c.length ∧ At TS h' .nilp (plug c (.node n ht x l r)) ∧ (plug c (.node n ht x l r)).items = T ∧ (∃ s, h'.get rr = some (rrow (plug c (.node n ht x l r)).ptr s)) ∧ (∀ o, o ≠ n → o ≠ rr → o ∉ t.ids → h'.get o = H.get o) ∧ h'.next = H.next ∧ env = (.ptr rr 0 :: .dead :: .dead :: .dead :: .dead :: .dead :: .dead :: .ptr n 0 :: .dead :: .dead :: .dead :: .dead :: .dead :: .dead :: .dead :: .dead :: .dead :: .dead :: .dead :: .dead :: .dead :: .dead :: .dead :: .dead :: .dead :: .dead :: .dead :: .dead :: .dead :: .dead :: .dead :: .dead :: .dead :: .dead :: .dead :: .dead :: .dead :: .dead :: .dead :: .dead :: .dead :: .dead :: .dead :: .dead :: .dead :: .dead :: .dead :: .dead :: .dead :: .dead :: .dead :: .dead :: .dead :: .dead :: .dead :: .dead :: .dead :: .dead :: .dead :: .dead :: .dead :: .dead :: .dead :: .dead :: .dead :: .dead :: .dead :: .dead :: .dead :: .dead :: .dead :: []) := ⟨_, rfl⟩
    refine loop_of I ?_ ([] : List (Frm Str)).length (by rw [hI]; exact ⟨_, v, .nil, .nil, rfl, c1, hTi, ⟨s', by rw [c2 rr (hIDS _ hTi).2.1, hR3, plug_ptr]; rfl⟩, fun o o1 o2 o3 => by rw [c2 o (fun hm => by rcases ((hIDS _ hTi).2.2.2 o).1 hm with h1 | h1; exact o1 h1; exact o3 h1), hF3 o o1 o2 o3], by rw [c3, hX3], rfl⟩)
    intro m env h' hi
    rw [hI] at hi
    obtain ⟨c, ht, l, r, rfl, i1, i2, ⟨s2, i3⟩, i4, i5, rfl⟩ := hi
    obtain ⟨j1, j2⟩ := At.split i1
    have j0 := (at_node.1 j1).1
    rw [nrow] at j0
    cases c with
    | nil =>
      simp -implicitDefEqProofs [j0, upOf]
      exact endQ h' _ i1 ⟨s2, i3⟩ i2 i4 i5
    | cons f c =>
      obtain ⟨⟨psz, pall, ⟨pq, hpq⟩, p1⟩, p2, p3⟩ := j2
      have hall : pall = [.str pq.flatten] := hpq
      rw [hall, nobj_row, nrow] at p1
      rw [upOf] at j0
      obtain ⟨k1, k2, k3, k4⟩ := hIDS _ i2
      by_cases hh : (f.ht : Int) < (ht : Int)
      · simp -implicitDefEqProofs [j0, p1, hh]
        refine rise25 i1 i3 (riseF k1 k2) k3 (fun h4 d1 d2 d3 d4 => ?_)
        simp -implicitDefEqProofs
        have hturn : ∃ l' r', turned f n ht x l r = .node n ht x l' r' := by unfold turned; cases f.left <;> exact ⟨_, _, rfl⟩
        obtain ⟨l', r', et⟩ := hturn
        have hi : (plug c (turned f n ht x l r)).items = T := by rw [plug_items_congr (turned_items f n ht x l r)]; exact i2
        rw [et] at d1 d2 hi
        exact .mk (m := c.length) (by simp) (by rw [hI]; exact ⟨c, ht, l', r', rfl, d1, hi, ⟨s2, d2⟩, fun o o1 o2 o3 => by rw [d3 o o2 (fun hm => by rcases (k4 o).1 hm with h1 | h1; exact o1 h1; exact o3 h1), i4 o o1 o2 o3], by rw [d4, i5], rfl⟩)
      · simp -implicitDefEqProofs [j0, p1, hh]
        exact endQ h' _ i1 ⟨s2, i3⟩ i2 i4 i5
  · rw [rrow, w0] at hHr
    rw [← w1] at hHt hnt hrt hnd
    obtain ⟨_, ⟨psz, pall, ⟨pq, hpq⟩, p1⟩, p2, p3⟩ := At.split (t := Rt.nil) hHt
    have hall : pall = [.str pq.flatten] := hpq
    rw [hall, nobj_row] at p1
    have hfm : f.o ∈ (plug (f :: c) (Rt.nil : Rt Str)).ids := plug_mem.2 (.inr (cids_cons.2 (.inl rfl)))
    have hnf : n ≠ f.o := fun e => hnt (by rw [e]; exact hfm)
    have hrf : rr ≠ f.o := fun e => hrt (by rw [e]; exact hfm)
    have put : ∀ H3 : AHeap, H3.get n = some (nrow (.ptr f.o 0) .nilp .nilp v 0 x []) → H3.get f.o = some (nrow (upOf c) (if f.left then .ptr n 0 else lptr f (Rt.nil : Rt Str).ptr) (if f.left then rptr' f (Rt.nil : Rt Str).ptr else .ptr n 0) f.ht psz f.x pq.flatten) → (∀ o, o ≠ n → o ≠ f.o → H3.get o = H.get o) → Stl H3 (f :: c) n v x .nil .nil := fun H3 g1 g2 g3 => hung hHt hnd hnt p1 g1 g2 g3
    have hTi : (plug (f :: c) (Rt.node n v x .nil .nil)).items = T := by
      have e1 := plug_items (f :: c) (Rt.nil : Rt Str)
      rw [w1, hit, w2] at e1
      have e2 : L2 = aft (f :: c) := by simpa [Rt.items] using e1
      rw [plug_items, w2, ← e2, hT]
      simp [Rt.items]
    rw [w1] at hnd hrt hnt hfm
    have hfin : ∀ H3 : AHeap, (∀ o, o ≠ n → o ≠ f.o → H3.get o = H.get o) → H3.get rr = some (rrow (rootOf (f :: c) (.ptr n 0)) s') ∧ ∀ o, o ≠ n → o ≠ rr → o ∉ t.ids → H3.get o = H.get o := by
      intro H3 g
      refine ⟨?_, fun o o1 o2 o3 => g o o1 (fun e => o3 (by rw [e]; exact hfm))⟩
      rw [g rr (Ne.symm hnr) hrf, hHr, rootOf, ← w0, ← w1, plug_ptr, rootOf]
      rfl
    rcases W with ⟨rfl, hfl, hlm⟩ | ⟨c0, a, aht, ax, l, r, rfl, hpl, W⟩
    · simp -implicitDefEqProofs [hHr]
      refine first8 (by rw [hHr, ← w0]; rfl) (w1 ▸ hHt) ?_
      rw [hlm]
      simp -implicitDefEqProofs
      refine below22 true hHn p1 hnf (fun H3 b1 b2 hG3 hX3 => ?_)
      have hS := put H3 b1 (by rw [b2, hfl]) hG3
      obtain ⟨hR3, hF3⟩ := hfin H3 hG3
      simp -implicitDefEqProofs
      have hIDS : ∀ t' : Rt Str, t'.items = T → t'.ids.Nodup ∧ rr ∉ t'.ids ∧ Fit t' ∧ (∀ o, o ∈ t'.ids ↔ o = n ∨ o ∈ t.ids) := by
        intro t' e
        unfold Fit Rt.tx
        refine ⟨by unfold Rt.ids; rw [e]; exact N1, ?_, ?_, ?_⟩
        · unfold Rt.ids
          rw [e, N2]
          rintro (h1 | h1)
          · exact hnr h1.symm
          · exact hrt h1
        · rw [e]; exact ⟨N3, N4⟩
        · intro o; rw [← N2]; unfold Rt.ids; rw [e]
      refine climb24 hS (hIDS _ hTi).1 (hIDS _ hTi).2.2.1 (fun h3 c1 c2 c3 => ?_)
      simp -implicitDefEqProofs
      obtain ⟨I, hI⟩ : ∃ I : Nat → List AVal → AHeap → Prop, I = fun m env h' => ∃ c ht l r, m = c.length ∧ At TS h' .nilp (plug c (.node n ht x l r)) ∧ (plug c (.node n ht x l r)).items = T ∧ (∃ s, h'.get rr = some (rrow (plug c (.node n ht x l r)).ptr s)) ∧ (∀ o, o ≠ n → o ≠ rr → o ∉ t.ids → h'.get o = H.get o) ∧ h'.next = H.next ∧ env = (.ptr rr 0 :: .dead :: .dead :: .dead :: .dead :: .dead :: .dead :: .ptr n 0 :: .dead :: .dead :: .dead :: .dead :: .dead :: .dead :: .dead :: .dead :: .dead :: .dead :: .dead :: .dead :: .dead :: .dead :: .dead :: .dead :: .dead :: .dead :: .dead :: .dead :: .dead :: .dead :: .dead :: .dead :: .dead :: .dead :: .dead :: .dead :: .dead :: .dead :: .dead :: .dead :: .dead :: .dead :: .dead :: .dead :: .dead :: .dead :: .dead :: .dead :: .dead :: .dead :: .dead :: .dead :: .dead :: .dead :: .dead :: .dead :: .dead :: .dead :: .dead :: .dead :: .dead :: .dead :: .dead :: .dead :: .dead :: .dead :: .dead :: .dead :: .dead :: .dead :: .dead :: []) := ⟨_, rfl⟩
      refine loop_of I ?_ (f :: c).length (by rw [hI]; exact ⟨_, v, .nil, .nil, rfl, c1, hTi, ⟨s', by rw [c2 rr (hIDS _ hTi).2.1, hR3, plug_ptr]; rfl⟩, fun o o1 o2 o3 => by rw [c2 o (fun hm => by rcases ((hIDS _ hTi).2.2.2 o).1 hm with h1 | h1; exact o1 h1; exact o3 h1), hF3 o o1 o2 o3], by rw [c3, hX3], rfl⟩)
      intro m env h' hi
      rw [hI] at hi
      obtain ⟨c, ht, l, r, rfl, i1, i2, ⟨s2, i3⟩, i4, i5, rfl⟩ := hi
      obtain ⟨j1, j2⟩ := At.split i1
      have j0 := (at_node.1 j1).1
      rw [nrow] at j0
      cases c with
      | nil =>
        simp -implicitDefEqProofs [j0, upOf]
        exact endQ h' _ i1 ⟨s2, i3⟩ i2 i4 i5
      | cons f c =>
        obtain ⟨⟨psz, pall, ⟨pq, hpq⟩, p1⟩, p2, p3⟩ := j2
        have hall : pall = [.str pq.flatten] := hpq
        rw [hall, nobj_row, nrow] at p1
        rw [upOf] at j0
        obtain ⟨k1, k2, k3, k4⟩ := hIDS _ i2
        by_cases hh : (f.ht : Int) < (ht : Int)
        · simp -implicitDefEqProofs [j0, p1, hh]
          refine rise25 i1 i3 (riseF k1 k2) k3 (fun h4 d1 d2 d3 d4 => ?_)
          simp -implicitDefEqProofs
          have hturn : ∃ l' r', turned f n ht x l r = .node n ht x l' r' := by unfold turned; cases f.left <;> exact ⟨_, _, rfl⟩
          obtain ⟨l', r', et⟩ := hturn
          have hi : (plug c (turned f n ht x l r)).items = T := by rw [plug_items_congr (turned_items f n ht x l r)]; exact i2
          rw [et] at d1 d2 hi
          exact .mk (m := c.length) (by simp) (by rw [hI]; exact ⟨c, ht, l', r', rfl, d1, hi, ⟨s2, d2⟩, fun o o1 o2 o3 => by rw [d3 o o2 (fun hm => by rcases (k4 o).1 hm with h1 | h1; exact o1 h1; exact o3 h1), i4 o o1 o2 o3], by rw [d4, i5], rfl⟩)
        · simp -implicitDefEqProofs [j0, p1, hh]
          exact endQ h' _ i1 ⟨s2, i3⟩ i2 i4 i5
    · have hHp : At TS H .nilp (plug c0 (.node a aht ax l r)) := by rw [← hpl, ← w1]; exact hHt
      obtain ⟨ja, jl, jr⟩ := at_node.1 (At.split hHp).1
      rw [nrow] at ja
      rcases W with ⟨hr0, hfl, hfa⟩ | ⟨o1, hr1, hfl, hlm⟩
      · rw [hr0, ptr_nil] at ja
        rw [← hfa] at ja ⊢
        simp -implicitDefEqProofs [hHr, ja]
        refine below22 false hHn p1 hnf (fun H3 b1 b2 hG3 hX3 => ?_)
        have hS := put H3 b1 (by rw [b2, hfl]) hG3
        obtain ⟨hR3, hF3⟩ := hfin H3 hG3
        simp -implicitDefEqProofs
        have hIDS : ∀ t' : Rt Str, t'.items = T → t'.ids.Nodup ∧ rr ∉ t'.ids ∧ Fit t' ∧ (∀ o, o ∈ t'.ids ↔ o = n ∨ o ∈ t.ids) := by
          intro t' e
          unfold Fit Rt.tx
          refine ⟨by unfold Rt.ids; rw [e]; exact N1, ?_, ?_, ?_⟩
          · unfold Rt.ids
            rw [e, N2]
            rintro (h1 | h1)
            · exact hnr h1.symm
            · exact hrt h1
          · rw [e]; exact ⟨N3, N4⟩
          · intro o; rw [← N2]; unfold Rt.ids; rw [e]
        refine climb24 hS (hIDS _ hTi).1 (hIDS _ hTi).2.2.1 (fun h3 c1 c2 c3 => ?_)
        simp -implicitDefEqProofs
        obtain ⟨I, hI⟩ : ∃ I : Nat → List AVal → AHeap → Prop, I = fun m env h' => ∃ c ht l r, m = c.length ∧ At TS h' .nilp (plug c (.node n ht x l r)) ∧ (plug c (.node n ht x l r)).items = T ∧ (∃ s, h'.get rr = some (rrow (plug c (.node n ht x l r)).ptr s)) ∧ (∀ o, o ≠ n → o ≠ rr → o ∉ t.ids → h'.get o = H.get o) ∧ h'.next = H.next ∧ env = (.ptr rr 0 :: .dead :: .dead :: .dead :: .dead :: .dead :: .dead :: .ptr n 0 :: .dead :: .dead :: .dead :: .dead :: .dead :: .dead :: .dead :: .dead :: .dead :: .dead :: .dead :: .dead :: .dead :: .dead :: .dead :: .dead :: .dead :: .dead :: .dead :: .dead :: .dead :: .dead :: .dead :: .dead :: .dead :: .dead :: .dead :: .dead :: .dead :: .dead :: .dead :: .dead :: .dead :: .dead :: .dead :: .dead :: .dead :: .dead :: .dead :: .dead :: .dead :: .dead :: .dead :: .dead :: .dead :: .dead :: .dead :: .dead :: .dead :: .dead :: .dead :: .dead :: .dead :: .dead :: .dead :: .dead :: .dead :: .dead :: .dead :: .dead :: .dead :: .dead :: .dead :: []) := ⟨_, rfl⟩
        refine loop_of I ?_ (f :: c).length (by rw [hI]; exact ⟨_, v, .nil, .nil, rfl, c1, hTi, ⟨s', by rw [c2 rr (hIDS _ hTi).2.1, hR3, plug_ptr]; rfl⟩, fun o o1 o2 o3 => by rw [c2 o (fun hm => by rcases ((hIDS _ hTi).2.2.2 o).1 hm with h1 | h1; exact o1 h1; exact o3 h1), hF3 o o1 o2 o3], by rw [c3, hX3], rfl⟩)
        intro m env h' hi
        rw [hI] at hi
        obtain ⟨c, ht, l, r, rfl, i1, i2, ⟨s2, i3⟩, i4, i5, rfl⟩ := hi
        obtain ⟨j1, j2⟩ := At.split i1
        have j0 := (at_node.1 j1).1
        rw [nrow] at j0
        cases c with
        | nil =>
          simp -implicitDefEqProofs [j0, upOf]
          exact endQ h' _ i1 ⟨s2, i3⟩ i2 i4 i5
        | cons f c =>
          obtain ⟨⟨psz, pall, ⟨pq, hpq⟩, p1⟩, p2, p3⟩ := j2
          have hall : pall = [.str pq.flatten] := hpq
          rw [hall, nobj_row, nrow] at p1
          rw [upOf] at j0
          obtain ⟨k1, k2, k3, k4⟩ := hIDS _ i2
          by_cases hh : (f.ht : Int) < (ht : Int)
          · simp -implicitDefEqProofs [j0, p1, hh]
            refine rise25 i1 i3 (riseF k1 k2) k3 (fun h4 d1 d2 d3 d4 => ?_)
            simp -implicitDefEqProofs
            have hturn : ∃ l' r', turned f n ht x l r = .node n ht x l' r' := by unfold turned; cases f.left <;> exact ⟨_, _, rfl⟩
            obtain ⟨l', r', et⟩ := hturn
            have hi : (plug c (turned f n ht x l r)).items = T := by rw [plug_items_congr (turned_items f n ht x l r)]; exact i2
            rw [et] at d1 d2 hi
            exact .mk (m := c.length) (by simp) (by rw [hI]; exact ⟨c, ht, l', r', rfl, d1, hi, ⟨s2, d2⟩, fun o o1 o2 o3 => by rw [d3 o o2 (fun hm => by rcases (k4 o).1 hm with h1 | h1; exact o1 h1; exact o3 h1), i4 o o1 o2 o3], by rw [d4, i5], rfl⟩)
          · simp -implicitDefEqProofs [j0, p1, hh]
            exact endQ h' _ i1 ⟨s2, i3⟩ i2 i4 i5
      · rw [hr1] at ja
        simp -implicitDefEqProofs [hHr, ja]
        rw [← hr1]
        refine leftmost23 jr ?_
        rw [hlm]
        simp -implicitDefEqProofs
        refine below22 true hHn p1 hnf (fun H3 b1 b2 hG3 hX3 => ?_)
        have hS := put H3 b1 (by rw [b2, hfl]) hG3
        obtain ⟨hR3, hF3⟩ := hfin H3 hG3
        simp -implicitDefEqProofs
        have hIDS : ∀ t' : Rt Str, t'.items = T → t'.ids.Nodup ∧ rr ∉ t'.ids ∧ Fit t' ∧ (∀ o, o ∈ t'.ids ↔ o = n ∨ o ∈ t.ids) := by
          intro t' e
          unfold Fit Rt.tx
          refine ⟨by unfold Rt.ids; rw [e]; exact N1, ?_, ?_, ?_⟩
          · unfold Rt.ids
            rw [e, N2]
            rintro (h1 | h1)
            · exact hnr h1.symm
            · exact hrt h1
          · rw [e]; exact ⟨N3, N4⟩
          · intro o; rw [← N2]; unfold Rt.ids; rw [e]
        refine climb24 hS (hIDS _ hTi).1 (hIDS _ hTi).2.2.1 (fun h3 c1 c2 c3 => ?_)
        simp -implicitDefEqProofs
        obtain ⟨I, hI⟩ : ∃ I : Nat → List AVal → AHeap → Prop, I = fun m env h' => ∃ c ht l r, m = c.length ∧ At TS h' .nilp (plug c (.node n ht x l r)) ∧ (plug c (.node n ht x l r)).items = T ∧ (∃ s, h'.get rr = some (rrow (plug c (.node n ht x l r)).ptr s)) ∧ (∀ o, o ≠ n → o ≠ rr → o ∉ t.ids → h'.get o = H.get o) ∧ h'.next = H.next ∧ env = (.ptr rr 0 :: .dead :: .dead :: .dead :: .dead :: .dead :: .dead :: .ptr n 0 :: .dead :: .dead :: .dead :: .dead :: .dead :: .dead :: .dead :: .dead :: .dead :: .dead :: .dead :: .dead :: .dead :: .dead :: .dead :: .dead :: .dead :: .dead :: .dead :: .dead :: .dead :: .dead :: .dead :: .dead :: .dead :: .dead :: .dead :: .dead :: .dead :: .dead :: .dead :: .dead :: .dead :: .dead :: .dead :: .dead :: .dead :: .dead :: .dead :: .dead :: .dead :: .dead :: .dead :: .dead :: .dead :: .dead :: .dead :: .dead :: .dead :: .dead :: .dead :: .dead :: .dead :: .dead :: .dead :: .dead :: .dead :: .dead :: .dead :: .dead :: .dead :: .dead :: .dead :: []) := ⟨_, rfl⟩
        refine loop_of I ?_ (f :: c).length (by rw [hI]; exact ⟨_, v, .nil, .nil, rfl, c1, hTi, ⟨s', by rw [c2 rr (hIDS _ hTi).2.1, hR3, plug_ptr]; rfl⟩, fun o o1 o2 o3 => by rw [c2 o (fun hm => by rcases ((hIDS _ hTi).2.2.2 o).1 hm with h1 | h1; exact o1 h1; exact o3 h1), hF3 o o1 o2 o3], by rw [c3, hX3], rfl⟩)
        intro m env h' hi
        rw [hI] at hi
        obtain ⟨c, ht, l, r, rfl, i1, i2, ⟨s2, i3⟩, i4, i5, rfl⟩ := hi
        obtain ⟨j1, j2⟩ := At.split i1
        have j0 := (at_node.1 j1).1
        rw [nrow] at j0
        cases c with
        | nil =>
          simp -implicitDefEqProofs [j0, upOf]
          exact endQ h' _ i1 ⟨s2, i3⟩ i2 i4 i5
        | cons f c =>
          obtain ⟨⟨psz, pall, ⟨pq, hpq⟩, p1⟩, p2, p3⟩ := j2
          have hall : pall = [.str pq.flatten] := hpq
          rw [hall, nobj_row, nrow] at p1
          rw [upOf] at j0
          obtain ⟨k1, k2, k3, k4⟩ := hIDS _ i2
          by_cases hh : (f.ht : Int) < (ht : Int)
          · simp -implicitDefEqProofs [j0, p1, hh]
            refine rise25 i1 i3 (riseF k1 k2) k3 (fun h4 d1 d2 d3 d4 => ?_)
            simp -implicitDefEqProofs
            have hturn : ∃ l' r', turned f n ht x l r = .node n ht x l' r' := by unfold turned; cases f.left <;> exact ⟨_, _, rfl⟩
            obtain ⟨l', r', et⟩ := hturn
            have hi : (plug c (turned f n ht x l r)).items = T := by rw [plug_items_congr (turned_items f n ht x l r)]; exact i2
            rw [et] at d1 d2 hi
            exact .mk (m := c.length) (by simp) (by rw [hI]; exact ⟨c, ht, l', r', rfl, d1, hi, ⟨s2, d2⟩, fun o o1 o2 o3 => by rw [d3 o o2 (fun hm => by rcases (k4 o).1 hm with h1 | h1; exact o1 h1; exact o3 h1), i4 o o1 o2 o3], by rw [d4, i5], rfl⟩)
          · simp -implicitDefEqProofs [j0, p1, hh]
            exact endQ h' _ i1 ⟨s2, i3⟩ i2 i4 i5
end
end Go.Proofs.Ytbnlhhfobgjeaaa
