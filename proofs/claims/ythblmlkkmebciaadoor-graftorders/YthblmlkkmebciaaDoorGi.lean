/-
  A part of the proof of GraftOrders, over the seat YthblmlkkmebciaaDoor: for every input the law returns true, and the input reads as it did.
-/
import Derived.Test.YthblmlkkmebciaaDoorGh
set_option linter.all false
set_option linter.all false
set_option maxRecDepth 100000
set_option maxHeartbeats 4000000
namespace Go.Proofs.YthblmlkkmebciaaDoor
open Go Go.RowKit Go.Proofs
theorem atIx_lt {A : List AtV} {r n i : Nat} (h : atIx A r n = some i) : i < A.length := by
  unfold atIx at h
  rw [List.findIdx?_eq_some_iff_getElem] at h
  exact h.1
section
variable {ro : Nat → Option (List AVal)}
theorem Put16_ev {h : AHeap} {v : AVal} {A : List AtV} {ar an : Nat} {x : RunV} (hs : Sl (cfgR ro) h 7 v (A.map AtV.cells)) (hv : notSlc v) (hl : A.length < 2 ^ 30) (hxl : x.text.length < 2 ^ 60) (hn : x.n < 2 ^ 32) (he : x.en < 2 ^ 32) {Q : AVal → AHeap → Prop}
    (hq : ∀ v' h', Old h h' → (v' = v ∧ (putA A ar an x).1 = A) ∨ Mine h h' 7 ((putA A ar an x).1.map AtV.cells) v' → Q (.tuple [v', .int .i64 ((putA A ar an x).2 : Nat)]) h') : Ev (cfgR ro) 47 [v, idA ar an, .agg x.cells] h Q := by
  refine Ev.wp rfl rfl Tryd.func47 rfl ?_
  have hL : ∀ h', Old h h' → lenR (cfgR ro) h' 32 v = .ok (.int .i64 (A.length : Nat)) := fun h' o => by have := (hs.old o).lenR (t := 32) un32; simpa using this
  simp -implicitDefEqProofs [Tryd.f47, idA, RunV.cells]
  refine right15_ev (x := x) hxl hn he (fun b hb => ?_)
  cases b with
  | false =>
    have e : putA A ar an x = (A, 11) := by unfold putA; rw [if_pos (fun hh => by have := hb.2 hh; cases this)]
    rw [e] at hq
    simp -implicitDefEqProofs [same_self]
    exact hq v h (Old.refl h) (.inl ⟨rfl, rfl⟩)
  | true =>
    obtain ⟨hx, hpl⟩ := hb.1 rfl
    have e0 : putA A ar an x = (match posA A ar an with
      | none => (A, 40)
      | some k => if hitA A x = true then (A, 16) else if 65536 < A.length + x.text.length then (A, 21) else (A.take k ++ atomsOf x ++ A.drop k, 0)) := by unfold putA; rw [if_neg (fun h => h ⟨hx, hpl⟩)] <;> rfl
    rw [e0] at hq
    have hxl2 := hx.len
    simp -implicitDefEqProofs [same_self]
    by_cases c : ar = 0 ∧ an = 0
    · have hpos : posA A ar an = some 0 := by unfold posA; rw [if_pos c]
      obtain ⟨k, hk⟩ : ∃ k, k = 0 := ⟨_, rfl⟩
      rw [← hk] at hpos
      have hkl : k ≤ A.length := by omega
      have hki : (0 : Int) = (k : Int) := by omega
      have d1 := c.1
      have d2 := c.2
      simp only [hpos] at hq
      simp -implicitDefEqProofs [same_self, d1, d2]
      refine atoms15_ev hx (fun v2 h1 o1 hm2 => ?_)
      have ht := hm2.sl (c := cfgR ro)
      have hL2 : lenR (cfgR ro) h1 32 v2 = .ok (.int .i64 (x.text.length : Nat)) := by have := ht.lenR (t := 32) un32; simpa [atomsOf_len] using this
      simp -implicitDefEqProofs [same_self]
      obtain ⟨I, hI⟩ : ∃ I : Nat → List AVal → AHeap → Prop, I = fun m env h' => h' = h1 ∧ ∃ i : Nat, i + m = x.text.length ∧ (∀ j a, j < i → (atomsOf x)[j]? = some a → atIx A a.r a.n = none) ∧
        env = (v :: .dead :: .dead :: .dead :: .dead :: .dead :: .dead :: .dead :: .int .i64 (k : Nat) :: v2 :: .int .i64 (i : Nat) :: .dead :: .dead :: .dead :: .dead :: .dead :: .dead :: .dead :: .dead :: .dead :: .dead :: .dead :: .dead :: .dead :: .dead :: .dead :: .dead :: .dead :: .dead :: .dead :: .dead :: .dead :: .dead :: .dead :: .dead :: .dead :: .dead :: .dead :: .dead :: .dead :: .dead :: .dead :: .dead :: .dead :: .dead :: .dead :: .dead :: .dead :: .dead :: .dead :: .dead :: .dead :: .dead :: .dead :: .dead :: .dead :: .dead :: .dead :: .dead :: .dead :: .dead :: .dead :: .dead :: .dead :: .dead :: .dead :: .dead :: .dead :: .dead :: .dead :: .dead :: .dead :: .dead :: .dead :: .dead :: .dead :: []) := ⟨_, rfl⟩
      refine loop_of I ?_ x.text.length (by rw [hI]; exact ⟨rfl, 0, by omega, fun j a hj => by omega, by first | rfl | (rw [hk]; rfl)⟩)
      intro m env h' hi
      rw [hI] at hi
      obtain ⟨rfl, i, him, hno, rfl⟩ := hi
      by_cases hlt : i < x.text.length
      · obtain ⟨a, ha⟩ : ∃ a, (atomsOf x)[i]? = some a := ⟨_, List.getElem?_eq_getElem (by rw [atomsOf_len]; exact hlt)⟩
        have E := El.of ht ha
        have w1 : IntKind.i64.wrap ((i : Int) + 1) = ((i + 1 : Nat) : Int) := by rw [w64 (by omega) (by omega)]; omega
        simp -implicitDefEqProofs [hL2, hlt, E.x, E.o, E.p, E.l1, E.l2, same_self]
        refine At_ev (r := a.r) (n := a.n) (hs.old o1) (by omega) ?_
        cases hh : atIx A a.r a.n with
        | none =>
          simp -implicitDefEqProofs [same_self, ixI, w1, E.l1, E.l2]
          exact .mk (m := m - 1) (by omega) (by rw [hI]; exact ⟨rfl, i + 1, by omega, fun j b hj hb => by
            by_cases e : j = i
            · subst e; rw [ha] at hb; cases hb; exact hh
            · exact hno j b (by omega) hb, by simp⟩)
        | some z =>
          have hhit : hitA A x = true := by
            unfold hitA
            rw [List.any_eq_true]
            exact ⟨a, List.mem_of_getElem? ha, by rw [hh]; rfl⟩
          simp only [hhit, if_true] at hq
          have dz : decide ((0 : Int) ≤ (z : Int)) = true := decide_eq_true (by omega)
          simp -implicitDefEqProofs [same_self, ixI, dz, E.l1, E.l2]
          exact hq v h' o1 (.inl ⟨rfl, by first | rfl | trivial⟩)
      · have hhit : hitA A x = false := by
          unfold hitA
          rw [List.any_eq_false]
          intro a ha
          obtain ⟨j, hj⟩ := List.mem_iff_getElem?.1 ha
          have hjl := (List.getElem?_eq_some_iff.1 hj).1
          rw [atomsOf_len] at hjl
          rw [hno j a (by omega) hj]; simp
        simp only [hhit, Bool.false_eq_true, if_false] at hq
        obtain ⟨tot, htot⟩ : ∃ tot, tot = A.length + x.text.length := ⟨_, rfl⟩
        have w2 : IntKind.i64.wrap ((A.length : Int) + (x.text.length : Int)) = (tot : Int) := by rw [w64 (by omega) (by omega)]; omega
        rw [← htot] at hq
        by_cases cf : 65536 < tot
        · have d3 : decide ((65536 : Int) < (tot : Int)) = true := decide_eq_true (by omega)
          simp only [cf, if_true] at hq
          simp -implicitDefEqProofs [hL2, hL h' o1, hlt, same_self, w2, cf, d3]
          exact hq v h' o1 (.inl ⟨rfl, by first | rfl | trivial⟩)
        · have d3 : decide ((65536 : Int) < (tot : Int)) = false := decide_eq_false (by omega)
          simp only [cf, if_false] at hq
          have hs1 := hs.old o1
          have hal : (A.map AtV.cells).length = A.length := List.length_map _
          obtain ⟨p1, p2, p3⟩ := hs1.upto (at_ := k) (by decide) hv (by rw [hal]; exact hkl) .i64
          obtain ⟨u1, hu1⟩ : ∃ u1, u1 = cutV v 7 0 k := ⟨_, rfl⟩
          rw [← hu1] at p1 p2
          have q1 := p2.len
          have q2 := p2.read
          have hel : ∀ e ∈ A.map AtV.cells, e.length = 7 := fun e he => by obtain ⟨a, _, rfl⟩ := List.mem_map.1 he; rfl
          have hn1 : ((A.map AtV.cells).take k).length = k := by rw [List.length_take, hal]; omega
          obtain ⟨w1', h2, e1, m1, o2⟩ := (Mine.nil h' h' 7).append (bytes := 32) (new := (A.map AtV.cells).take k) (by decide) (fun e he => hel e (List.mem_of_mem_take he)) (by rw [hn1]; simp; omega) (Old.refl h')
          rw [List.nil_append] at m1
          rw [hn1] at q1 q2 e1
          have ht2 := ht.old o2
          have hxl3 : ((atomsOf x).map AtV.cells).length = x.text.length := by rw [List.length_map, atomsOf_len]
          have q3 := ht2.len
          have q4 := ht2.read
          obtain ⟨w2', h3, e2, m2, o3⟩ := m1.append (bytes := 32) (new := (atomsOf x).map AtV.cells) (by decide) (fun e he => by obtain ⟨a, _, rfl⟩ := List.mem_map.1 he; rfl) (by rw [hn1, hxl3]; omega) o2
          rw [hxl3] at q3 q4 e2
          have hs3 := hs1.old o3
          obtain ⟨p4, p5, p6⟩ := hs3.from_ (at_ := k) (by decide) hv (by rw [hal]; exact hkl) .i64
          obtain ⟨u2, hu2⟩ : ∃ u2, u2 = cutV v 7 k (A.map AtV.cells).length := ⟨_, rfl⟩
          rw [← hu2] at p4 p5
          have q5 := p5.len
          have q6 := p5.read
          have hn2 : ((A.map AtV.cells).drop k).length = A.length - k := by rw [List.length_drop, hal]
          obtain ⟨w3', h4, e3, m3, o4⟩ := m2.append (bytes := 32) (new := (A.map AtV.cells).drop k) (by decide) (fun e he => hel e (List.mem_of_mem_drop he)) (by rw [List.length_append, hn1, hxl3, hn2]; omega) o3
          rw [hn2] at q5 q6 e3
          have hm4 : Mine h h4 7 ((A.take k ++ atomsOf x ++ A.drop k).map AtV.cells) w3' := by
            rw [List.map_append, List.map_append, List.map_take, List.map_drop]
            obtain ⟨z1, z2⟩ := m3
            exact ⟨z1, z2.imp_right (fun ⟨q, fz, g1, g2, g3⟩ => ⟨q, fz, g1, Nat.le_trans o1.1 g2, g3⟩)⟩
          simp -implicitDefEqProofs [hL2, hL h' o1, hlt, same_self, w2, cf, d3, p1, q1, q2, e1, q3, q4, e2, p4, q5, q6, e3]
          exact hq w3' h4 (o1.trans o4) (.inr hm4)
    · cases hix : atIx A ar an with
      | none =>
        have hpos : posA A ar an = none := by unfold posA; rw [if_neg c, hix]; rfl
        simp only [hpos] at hq
        have w0 : IntKind.i64.wrap 0 = 0 := by decide
        by_cases d1 : ar = 0
        · have d2 : ¬ an = 0 := fun e => c ⟨d1, e⟩
          simp -implicitDefEqProofs [same_self, d1, d2]
          refine At_ev (r := 0) (n := an) hs (by omega) ?_
          rw [show atIx A 0 an = atIx A ar an by rw [d1], hix]
          simp -implicitDefEqProofs [same_self, ixI, w0]
          exact hq v h (Old.refl h) (.inl ⟨rfl, by first | rfl | trivial⟩)
        · simp -implicitDefEqProofs [same_self, d1]
          refine At_ev hs (by omega) ?_
          rw [hix]
          simp -implicitDefEqProofs [same_self, ixI, w0]
          exact hq v h (Old.refl h) (.inl ⟨rfl, by first | rfl | trivial⟩)
      | some i =>
        have hil := atIx_lt hix
        obtain ⟨k, hk⟩ : ∃ k, k = i + 1 := ⟨_, rfl⟩
        have hpos : posA A ar an = some k := by unfold posA; rw [if_neg c, hix, hk]; rfl
        simp only [hpos] at hq
        have hkl : k ≤ A.length := by omega
        have w0 : IntKind.i64.wrap ((i : Int) + 1) = (k : Int) := by rw [w64 (by omega) (by omega)]; omega
        have k0 : ¬ k = 0 := by omega
        have k0' : decide ((k : Int) = 0) = false := decide_eq_false (by omega)
        by_cases d1 : ar = 0
        · have d2 : ¬ an = 0 := fun e => c ⟨d1, e⟩
          simp -implicitDefEqProofs [same_self, d1, d2]
          refine At_ev (r := 0) (n := an) hs (by omega) ?_
          rw [show atIx A 0 an = atIx A ar an by rw [d1], hix]
          simp -implicitDefEqProofs [same_self, ixI, w0, k0, k0']
          refine atoms15_ev hx (fun v2 h1 o1 hm2 => ?_)
          have ht := hm2.sl (c := cfgR ro)
          have hL2 : lenR (cfgR ro) h1 32 v2 = .ok (.int .i64 (x.text.length : Nat)) := by have := ht.lenR (t := 32) un32; simpa [atomsOf_len] using this
          simp -implicitDefEqProofs [same_self]
          obtain ⟨I, hI⟩ : ∃ I : Nat → List AVal → AHeap → Prop, I = fun m env h' => h' = h1 ∧ ∃ i : Nat, i + m = x.text.length ∧ (∀ j a, j < i → (atomsOf x)[j]? = some a → atIx A a.r a.n = none) ∧
            env = (v :: .dead :: .dead :: .dead :: .dead :: .dead :: .dead :: .dead :: .int .i64 (k : Nat) :: v2 :: .int .i64 (i : Nat) :: .dead :: .dead :: .dead :: .dead :: .dead :: .dead :: .dead :: .dead :: .dead :: .dead :: .dead :: .dead :: .dead :: .dead :: .dead :: .dead :: .dead :: .dead :: .dead :: .dead :: .dead :: .dead :: .dead :: .dead :: .dead :: .dead :: .dead :: .dead :: .dead :: .dead :: .dead :: .dead :: .dead :: .dead :: .dead :: .dead :: .dead :: .dead :: .dead :: .dead :: .dead :: .dead :: .dead :: .dead :: .dead :: .dead :: .dead :: .dead :: .dead :: .dead :: .dead :: .dead :: .dead :: .dead :: .dead :: .dead :: .dead :: .dead :: .dead :: .dead :: .dead :: .dead :: .dead :: .dead :: .dead :: []) := ⟨_, rfl⟩
          refine loop_of I ?_ x.text.length (by rw [hI]; exact ⟨rfl, 0, by omega, fun j a hj => by omega, by first | rfl | (rw [hk]; rfl)⟩)
          intro m env h' hi
          rw [hI] at hi
          obtain ⟨rfl, i, him, hno, rfl⟩ := hi
          by_cases hlt : i < x.text.length
          · obtain ⟨a, ha⟩ : ∃ a, (atomsOf x)[i]? = some a := ⟨_, List.getElem?_eq_getElem (by rw [atomsOf_len]; exact hlt)⟩
            have E := El.of ht ha
            have w1 : IntKind.i64.wrap ((i : Int) + 1) = ((i + 1 : Nat) : Int) := by rw [w64 (by omega) (by omega)]; omega
            simp -implicitDefEqProofs [hL2, hlt, E.x, E.o, E.p, E.l1, E.l2, same_self]
            refine At_ev (r := a.r) (n := a.n) (hs.old o1) (by omega) ?_
            cases hh : atIx A a.r a.n with
            | none =>
              simp -implicitDefEqProofs [same_self, ixI, w1, E.l1, E.l2]
              exact .mk (m := m - 1) (by omega) (by rw [hI]; exact ⟨rfl, i + 1, by omega, fun j b hj hb => by
                by_cases e : j = i
                · subst e; rw [ha] at hb; cases hb; exact hh
                · exact hno j b (by omega) hb, by simp⟩)
            | some z =>
              have hhit : hitA A x = true := by
                unfold hitA
                rw [List.any_eq_true]
                exact ⟨a, List.mem_of_getElem? ha, by rw [hh]; rfl⟩
              simp only [hhit, if_true] at hq
              have dz : decide ((0 : Int) ≤ (z : Int)) = true := decide_eq_true (by omega)
              simp -implicitDefEqProofs [same_self, ixI, dz, E.l1, E.l2]
              exact hq v h' o1 (.inl ⟨rfl, by first | rfl | trivial⟩)
          · have hhit : hitA A x = false := by
              unfold hitA
              rw [List.any_eq_false]
              intro a ha
              obtain ⟨j, hj⟩ := List.mem_iff_getElem?.1 ha
              have hjl := (List.getElem?_eq_some_iff.1 hj).1
              rw [atomsOf_len] at hjl
              rw [hno j a (by omega) hj]; simp
            simp only [hhit, Bool.false_eq_true, if_false] at hq
            obtain ⟨tot, htot⟩ : ∃ tot, tot = A.length + x.text.length := ⟨_, rfl⟩
            have w2 : IntKind.i64.wrap ((A.length : Int) + (x.text.length : Int)) = (tot : Int) := by rw [w64 (by omega) (by omega)]; omega
            rw [← htot] at hq
            by_cases cf : 65536 < tot
            · have d3 : decide ((65536 : Int) < (tot : Int)) = true := decide_eq_true (by omega)
              simp only [cf, if_true] at hq
              simp -implicitDefEqProofs [hL2, hL h' o1, hlt, same_self, w2, cf, d3]
              exact hq v h' o1 (.inl ⟨rfl, by first | rfl | trivial⟩)
            · have d3 : decide ((65536 : Int) < (tot : Int)) = false := decide_eq_false (by omega)
              simp only [cf, if_false] at hq
              have hs1 := hs.old o1
              have hal : (A.map AtV.cells).length = A.length := List.length_map _
              obtain ⟨p1, p2, p3⟩ := hs1.upto (at_ := k) (by decide) hv (by rw [hal]; exact hkl) .i64
              obtain ⟨u1, hu1⟩ : ∃ u1, u1 = cutV v 7 0 k := ⟨_, rfl⟩
              rw [← hu1] at p1 p2
              have q1 := p2.len
              have q2 := p2.read
              have hel : ∀ e ∈ A.map AtV.cells, e.length = 7 := fun e he => by obtain ⟨a, _, rfl⟩ := List.mem_map.1 he; rfl
              have hn1 : ((A.map AtV.cells).take k).length = k := by rw [List.length_take, hal]; omega
              obtain ⟨w1', h2, e1, m1, o2⟩ := (Mine.nil h' h' 7).append (bytes := 32) (new := (A.map AtV.cells).take k) (by decide) (fun e he => hel e (List.mem_of_mem_take he)) (by rw [hn1]; simp; omega) (Old.refl h')
              rw [List.nil_append] at m1
              rw [hn1] at q1 q2 e1
              have ht2 := ht.old o2
              have hxl3 : ((atomsOf x).map AtV.cells).length = x.text.length := by rw [List.length_map, atomsOf_len]
              have q3 := ht2.len
              have q4 := ht2.read
              obtain ⟨w2', h3, e2, m2, o3⟩ := m1.append (bytes := 32) (new := (atomsOf x).map AtV.cells) (by decide) (fun e he => by obtain ⟨a, _, rfl⟩ := List.mem_map.1 he; rfl) (by rw [hn1, hxl3]; omega) o2
              rw [hxl3] at q3 q4 e2
              have hs3 := hs1.old o3
              obtain ⟨p4, p5, p6⟩ := hs3.from_ (at_ := k) (by decide) hv (by rw [hal]; exact hkl) .i64
              obtain ⟨u2, hu2⟩ : ∃ u2, u2 = cutV v 7 k (A.map AtV.cells).length := ⟨_, rfl⟩
              rw [← hu2] at p4 p5
              have q5 := p5.len
              have q6 := p5.read
              have hn2 : ((A.map AtV.cells).drop k).length = A.length - k := by rw [List.length_drop, hal]
              obtain ⟨w3', h4, e3, m3, o4⟩ := m2.append (bytes := 32) (new := (A.map AtV.cells).drop k) (by decide) (fun e he => hel e (List.mem_of_mem_drop he)) (by rw [List.length_append, hn1, hxl3, hn2]; omega) o3
              rw [hn2] at q5 q6 e3
              have hm4 : Mine h h4 7 ((A.take k ++ atomsOf x ++ A.drop k).map AtV.cells) w3' := by
                rw [List.map_append, List.map_append, List.map_take, List.map_drop]
                obtain ⟨z1, z2⟩ := m3
                exact ⟨z1, z2.imp_right (fun ⟨q, fz, g1, g2, g3⟩ => ⟨q, fz, g1, Nat.le_trans o1.1 g2, g3⟩)⟩
              simp -implicitDefEqProofs [hL2, hL h' o1, hlt, same_self, w2, cf, d3, p1, q1, q2, e1, q3, q4, e2, p4, q5, q6, e3]
              exact hq w3' h4 (o1.trans o4) (.inr hm4)
        · simp -implicitDefEqProofs [same_self, d1]
          refine At_ev hs (by omega) ?_
          rw [hix]
          simp -implicitDefEqProofs [same_self, ixI, w0, k0, k0']
          refine atoms15_ev hx (fun v2 h1 o1 hm2 => ?_)
          have ht := hm2.sl (c := cfgR ro)
          have hL2 : lenR (cfgR ro) h1 32 v2 = .ok (.int .i64 (x.text.length : Nat)) := by have := ht.lenR (t := 32) un32; simpa [atomsOf_len] using this
          simp -implicitDefEqProofs [same_self]
          obtain ⟨I, hI⟩ : ∃ I : Nat → List AVal → AHeap → Prop, I = fun m env h' => h' = h1 ∧ ∃ i : Nat, i + m = x.text.length ∧ (∀ j a, j < i → (atomsOf x)[j]? = some a → atIx A a.r a.n = none) ∧
            env = (v :: .dead :: .dead :: .dead :: .dead :: .dead :: .dead :: .dead :: .int .i64 (k : Nat) :: v2 :: .int .i64 (i : Nat) :: .dead :: .dead :: .dead :: .dead :: .dead :: .dead :: .dead :: .dead :: .dead :: .dead :: .dead :: .dead :: .dead :: .dead :: .dead :: .dead :: .dead :: .dead :: .dead :: .dead :: .dead :: .dead :: .dead :: .dead :: .dead :: .dead :: .dead :: .dead :: .dead :: .dead :: .dead :: .dead :: .dead :: .dead :: .dead :: .dead :: .dead :: .dead :: .dead :: .dead :: .dead :: .dead :: .dead :: .dead :: .dead :: .dead :: .dead :: .dead :: .dead :: .dead :: .dead :: .dead :: .dead :: .dead :: .dead :: .dead :: .dead :: .dead :: .dead :: .dead :: .dead :: .dead :: .dead :: .dead :: .dead :: []) := ⟨_, rfl⟩
          refine loop_of I ?_ x.text.length (by rw [hI]; exact ⟨rfl, 0, by omega, fun j a hj => by omega, by first | rfl | (rw [hk]; rfl)⟩)
          intro m env h' hi
          rw [hI] at hi
          obtain ⟨rfl, i, him, hno, rfl⟩ := hi
          by_cases hlt : i < x.text.length
          · obtain ⟨a, ha⟩ : ∃ a, (atomsOf x)[i]? = some a := ⟨_, List.getElem?_eq_getElem (by rw [atomsOf_len]; exact hlt)⟩
            have E := El.of ht ha
            have w1 : IntKind.i64.wrap ((i : Int) + 1) = ((i + 1 : Nat) : Int) := by rw [w64 (by omega) (by omega)]; omega
            simp -implicitDefEqProofs [hL2, hlt, E.x, E.o, E.p, E.l1, E.l2, same_self]
            refine At_ev (r := a.r) (n := a.n) (hs.old o1) (by omega) ?_
            cases hh : atIx A a.r a.n with
            | none =>
              simp -implicitDefEqProofs [same_self, ixI, w1, E.l1, E.l2]
              exact .mk (m := m - 1) (by omega) (by rw [hI]; exact ⟨rfl, i + 1, by omega, fun j b hj hb => by
                by_cases e : j = i
                · subst e; rw [ha] at hb; cases hb; exact hh
                · exact hno j b (by omega) hb, by simp⟩)
            | some z =>
              have hhit : hitA A x = true := by
                unfold hitA
                rw [List.any_eq_true]
                exact ⟨a, List.mem_of_getElem? ha, by rw [hh]; rfl⟩
              simp only [hhit, if_true] at hq
              have dz : decide ((0 : Int) ≤ (z : Int)) = true := decide_eq_true (by omega)
              simp -implicitDefEqProofs [same_self, ixI, dz, E.l1, E.l2]
              exact hq v h' o1 (.inl ⟨rfl, by first | rfl | trivial⟩)
          · have hhit : hitA A x = false := by
              unfold hitA
              rw [List.any_eq_false]
              intro a ha
              obtain ⟨j, hj⟩ := List.mem_iff_getElem?.1 ha
              have hjl := (List.getElem?_eq_some_iff.1 hj).1
              rw [atomsOf_len] at hjl
              rw [hno j a (by omega) hj]; simp
            simp only [hhit, Bool.false_eq_true, if_false] at hq
            obtain ⟨tot, htot⟩ : ∃ tot, tot = A.length + x.text.length := ⟨_, rfl⟩
            have w2 : IntKind.i64.wrap ((A.length : Int) + (x.text.length : Int)) = (tot : Int) := by rw [w64 (by omega) (by omega)]; omega
            rw [← htot] at hq
            by_cases cf : 65536 < tot
            · have d3 : decide ((65536 : Int) < (tot : Int)) = true := decide_eq_true (by omega)
              simp only [cf, if_true] at hq
              simp -implicitDefEqProofs [hL2, hL h' o1, hlt, same_self, w2, cf, d3]
              exact hq v h' o1 (.inl ⟨rfl, by first | rfl | trivial⟩)
            · have d3 : decide ((65536 : Int) < (tot : Int)) = false := decide_eq_false (by omega)
              simp only [cf, if_false] at hq
              have hs1 := hs.old o1
              have hal : (A.map AtV.cells).length = A.length := List.length_map _
              obtain ⟨p1, p2, p3⟩ := hs1.upto (at_ := k) (by decide) hv (by rw [hal]; exact hkl) .i64
              obtain ⟨u1, hu1⟩ : ∃ u1, u1 = cutV v 7 0 k := ⟨_, rfl⟩
              rw [← hu1] at p1 p2
              have q1 := p2.len
              have q2 := p2.read
              have hel : ∀ e ∈ A.map AtV.cells, e.length = 7 := fun e he => by obtain ⟨a, _, rfl⟩ := List.mem_map.1 he; rfl
              have hn1 : ((A.map AtV.cells).take k).length = k := by rw [List.length_take, hal]; omega
              obtain ⟨w1', h2, e1, m1, o2⟩ := (Mine.nil h' h' 7).append (bytes := 32) (new := (A.map AtV.cells).take k) (by decide) (fun e he => hel e (List.mem_of_mem_take he)) (by rw [hn1]; simp; omega) (Old.refl h')
              rw [List.nil_append] at m1
              rw [hn1] at q1 q2 e1
              have ht2 := ht.old o2
              have hxl3 : ((atomsOf x).map AtV.cells).length = x.text.length := by rw [List.length_map, atomsOf_len]
              have q3 := ht2.len
              have q4 := ht2.read
              obtain ⟨w2', h3, e2, m2, o3⟩ := m1.append (bytes := 32) (new := (atomsOf x).map AtV.cells) (by decide) (fun e he => by obtain ⟨a, _, rfl⟩ := List.mem_map.1 he; rfl) (by rw [hn1, hxl3]; omega) o2
              rw [hxl3] at q3 q4 e2
              have hs3 := hs1.old o3
              obtain ⟨p4, p5, p6⟩ := hs3.from_ (at_ := k) (by decide) hv (by rw [hal]; exact hkl) .i64
              obtain ⟨u2, hu2⟩ : ∃ u2, u2 = cutV v 7 k (A.map AtV.cells).length := ⟨_, rfl⟩
              rw [← hu2] at p4 p5
              have q5 := p5.len
              have q6 := p5.read
              have hn2 : ((A.map AtV.cells).drop k).length = A.length - k := by rw [List.length_drop, hal]
              obtain ⟨w3', h4, e3, m3, o4⟩ := m2.append (bytes := 32) (new := (A.map AtV.cells).drop k) (by decide) (fun e he => hel e (List.mem_of_mem_drop he)) (by rw [List.length_append, hn1, hxl3, hn2]; omega) o3
              rw [hn2] at q5 q6 e3
              have hm4 : Mine h h4 7 ((A.take k ++ atomsOf x ++ A.drop k).map AtV.cells) w3' := by
                rw [List.map_append, List.map_append, List.map_take, List.map_drop]
                obtain ⟨z1, z2⟩ := m3
                exact ⟨z1, z2.imp_right (fun ⟨q, fz, g1, g2, g3⟩ => ⟨q, fz, g1, Nat.le_trans o1.1 g2, g3⟩)⟩
              simp -implicitDefEqProofs [hL2, hL h' o1, hlt, same_self, w2, cf, d3, p1, q1, q2, e1, q3, q4, e2, p4, q5, q6, e3]
              exact hq w3' h4 (o1.trans o4) (.inr hm4)
end
end Go.Proofs.YthblmlkkmebciaaDoor
set_option linter.all false
set_option maxRecDepth 100000
set_option maxHeartbeats 4000000
namespace Go.Proofs.YthblmlkkmebciaaDoor
open Go Go.RowKit Go.Proofs
/-! walks, in whole numbers -/
def Wk.apply (w : Wk) (z : Int × Int) : Int × Int := (w.tr * z.1 - w.ti * z.2 + w.sr, w.tr * z.2 + w.ti * z.1 + w.si)
theorem Wk.apply_then (w v : Wk) (z : Int × Int) : v.apply (w.apply z) = (w.then_ v).apply z := by
  obtain ⟨a, b, c, d⟩ := w
  obtain ⟨e, f, g, k⟩ := v
  obtain ⟨x, y⟩ := z
  simp only [Wk.apply, Wk.then_, Prod.mk.injEq]
  refine ⟨?_, ?_⟩ <;> simp only [Int.mul_sub, Int.mul_add, Int.sub_mul, Int.add_mul, Int.mul_assoc] <;> omega
section
variable {ro : Nat → Option (List AVal)}
theorem times_ev {h : AHeap} {a b c d : Int} (h1 : (a * c).natAbs < 2 ^ 60) (h2 : (b * d).natAbs < 2 ^ 60) (h3 : (a * d).natAbs < 2 ^ 60) (h4 : (b * c).natAbs < 2 ^ 60) {Q : AVal → AHeap → Prop} (hq : Q (.agg [.int .i64 (a * c - b * d), .int .i64 (a * d + b * c)]) h) : Ev (cfgR ro) 114 [.agg [.int .i64 a, .int .i64 b], .agg [.int .i64 c, .int .i64 d]] h Q := by
  refine Ev.wp rfl rfl Tryd.func114 rfl ?_
  obtain ⟨p, hp⟩ : ∃ p, p = a * c := ⟨_, rfl⟩
  obtain ⟨q, hqq⟩ : ∃ q, q = b * d := ⟨_, rfl⟩
  obtain ⟨r, hr⟩ : ∃ r, r = a * d := ⟨_, rfl⟩
  obtain ⟨s, hs⟩ : ∃ s, s = b * c := ⟨_, rfl⟩
  rw [← hp, ← hqq, ← hr, ← hs] at hq
  rw [← hp] at h1
  rw [← hqq] at h2
  rw [← hr] at h3
  rw [← hs] at h4
  have w1 : IntKind.i64.wrap (a * c) = p := by rw [← hp]; exact w64 (by omega) (by omega)
  have w2 : IntKind.i64.wrap (b * d) = q := by rw [← hqq]; exact w64 (by omega) (by omega)
  have w3 : IntKind.i64.wrap (a * d) = r := by rw [← hr]; exact w64 (by omega) (by omega)
  have w4 : IntKind.i64.wrap (b * c) = s := by rw [← hs]; exact w64 (by omega) (by omega)
  have w5 : IntKind.i64.wrap (p - q) = p - q := w64 (by omega) (by omega)
  have w6 : IntKind.i64.wrap (r + s) = r + s := w64 (by omega) (by omega)
  simp -implicitDefEqProofs [Tryd.f114, w1, w2, w3, w4, w5, w6]
  exact hq
theorem minus_ev {h : AHeap} {a b c d : Int} (h1 : a.natAbs < 2 ^ 60) (h2 : b.natAbs < 2 ^ 60) (h3 : c.natAbs < 2 ^ 60) (h4 : d.natAbs < 2 ^ 60) {Q : AVal → AHeap → Prop} (hq : Q (.agg [.int .i64 (a - c), .int .i64 (b - d)]) h) : Ev (cfgR ro) 91 [.agg [.int .i64 a, .int .i64 b], .agg [.int .i64 c, .int .i64 d]] h Q := by
  refine Ev.wp rfl rfl Tryd.func91 rfl ?_
  have w5 : IntKind.i64.wrap (a - c) = a - c := w64 (by omega) (by omega)
  have w6 : IntKind.i64.wrap (b - d) = b - d := w64 (by omega) (by omega)
  simp -implicitDefEqProofs [Tryd.f91, w5, w6]
  exact hq
theorem turned_ev {h : AHeap} {n : Nat} (hn : n < 4) {Q : AVal → AHeap → Prop} (hq : Q (.agg [.int .i64 (tX n), .int .i64 (tY n)]) h) : Ev (cfgR ro) 115 [.int .i64 (n : Nat)] h Q := by
  refine Ev.wp rfl rfl Tryd.func115 rfl ?_
  simp -implicitDefEqProofs [Tryd.f115]
  obtain ⟨I, hI⟩ : ∃ I : Nat → List AVal → AHeap → Prop, I = fun m env h' => h' = h ∧ ∃ i : Nat, i + m = n ∧ env = (.int .i64 (n : Nat) :: .dead :: .cell [.int .i64 0, .int .i64 0] :: .cell [.int .i64 (tX i), .int .i64 (tY i)] :: .int .i64 (i : Nat) :: .dead :: .dead :: .dead :: .dead :: .dead :: .dead :: .dead :: .dead :: .dead :: .dead :: []) := ⟨_, rfl⟩
  refine loop_of I ?_ n (by rw [hI]; exact ⟨rfl, 0, by omega, rfl⟩)
  intro m env h' hi
  rw [hI] at hi
  obtain ⟨rfl, i, him, rfl⟩ := hi
  by_cases hlt : i < n
  · have w1 : IntKind.i64.wrap ((i : Int) + 1) = ((i + 1 : Nat) : Int) := by rw [w64 (by omega) (by omega)]; omega
    simp -implicitDefEqProofs [hlt]
    have hb : (tX i).natAbs ≤ 1 ∧ (tY i).natAbs ≤ 1 := by rcases lt4 (n := i) (by omega) with rfl | rfl | rfl | rfl <;> decide
    refine times_ev (by omega) (by omega) (by omega) (by omega) ?_
    have e1 : tX i * 0 - tY i * 1 = tX (i + 1) ∧ tX i * 1 + tY i * 0 = tY (i + 1) := by
      rcases lt4 (n := i) (by omega) with rfl | rfl | rfl | rfl
      · decide
      · decide
      · decide
      · omega
    rw [e1.1, e1.2]
    obtain ⟨a, ha⟩ : ∃ a, a = tX (i + 1) := ⟨_, rfl⟩
    obtain ⟨b, hb⟩ : ∃ b, b = tY (i + 1) := ⟨_, rfl⟩
    rw [← ha, ← hb]
    simp -implicitDefEqProofs [hlt, w1]
    exact .mk (m := m - 1) (by omega) (by rw [hI]; exact ⟨rfl, i + 1, by omega, by rw [ha, hb]; simp⟩)
  · have e : i = n := by omega
    subst e
    simp -implicitDefEqProofs [hlt]
    exact hq
theorem byte04_ev {h : AHeap} {b : UInt8} {Q : AVal → AHeap → Prop} (hq : Q (.agg [.int .i64 (Wk.byte b).tr, .int .i64 (Wk.byte b).ti, .int .i64 (Wk.byte b).sr, .int .i64 (Wk.byte b).si]) h) : Ev (cfgR ro) 90 [.int .u8 b.toNat] h Q := by
  refine Ev.wp rfl rfl Tryd.func90 rfl ?_
  have hb := b.toNat_lt
  simp only [Wk.byte] at hq
  obtain ⟨n, hn⟩ : ∃ n, n = b.toNat := ⟨_, rfl⟩
  rw [← hn] at hb hq ⊢
  have c1 : IntKind.i64.wrap (n : Int) = (n : Int) := w64 (by omega) (by omega)
  have e1 : (n : Int).tmod 4 = ((n % 4 : Nat) : Int) := by rw [Int.tmod_eq_emod_of_nonneg (by omega)]; omega
  have e2 : IntKind.i64.wrap ((n : Int) / 4) = ((n / 4 : Nat) : Int) := by rw [w64 (by omega) (by omega)]; omega
  have e3 : IntKind.i64.wrap ((n : Int) / 32) = ((n / 32 : Nat) : Int) := by rw [w64 (by omega) (by omega)]; omega
  have e4 : ((n / 4 : Nat) : Int).tmod 8 = ((n / 4 % 8 : Nat) : Int) := by rw [Int.tmod_eq_emod_of_nonneg (by omega)]; omega
  obtain ⟨p, hp⟩ : ∃ p, p = n % 4 := ⟨_, rfl⟩
  obtain ⟨q, hqq⟩ : ∃ q, q = n / 4 := ⟨_, rfl⟩
  obtain ⟨r, hr⟩ : ∃ r, r = n / 32 := ⟨_, rfl⟩
  rw [← hp] at e1 hq
  rw [← hqq] at e2 e4 hq
  rw [← hr] at e3 hq
  obtain ⟨s, hs⟩ : ∃ s, s = q % 8 := ⟨_, rfl⟩
  rw [← hs] at e4 hq
  have w1 : IntKind.i64.wrap ((s : Int) + 1) = ((s + 1 : Nat) : Int) := by rw [w64 (by omega) (by omega)]; omega
  have w2 : IntKind.i64.wrap ((r : Int) + 1) = ((r + 1 : Nat) : Int) := by rw [w64 (by omega) (by omega)]; omega
  obtain ⟨s1, hs1⟩ : ∃ s1, s1 = s + 1 := ⟨_, rfl⟩
  obtain ⟨r1, hr1⟩ : ∃ r1, r1 = r + 1 := ⟨_, rfl⟩
  rw [← hs1] at w1 hq
  rw [← hr1] at w2 hq
  simp -implicitDefEqProofs [Tryd.f90, c1, e1]
  refine turned_ev (by omega) ?_
  simp -implicitDefEqProofs [c1, e1, e2, e3, e4, w1, w2]
  exact hq
theorem apply_ev {h : AHeap} {w : Wk} {x y : Int} (hw : w.Ok 1) (hx : x.natAbs < 2 ^ 50) (hy : y.natAbs < 2 ^ 50) {Q : AVal → AHeap → Prop} (hq : Q (.agg [.int .i64 (w.apply (x, y)).1, .int .i64 (w.apply (x, y)).2]) h) : Ev (cfgR ro) 89 [.agg [.int .i64 w.tr, .int .i64 w.ti, .int .i64 w.sr, .int .i64 w.si], .agg [.int .i64 x, .int .i64 y]] h Q := by
  refine Ev.wp rfl rfl Tryd.func89 rfl ?_
  obtain ⟨u, s1, s2⟩ := hw
  obtain ⟨a, b, c, d⟩ := w
  simp only [Wk.apply] at hq u s1 s2
  have bd : ∀ z t : Int, (z = 0 ∨ z = 1 ∨ z = -1) → t.natAbs < 2 ^ 50 → (z * t).natAbs < 2 ^ 50 := by
    rintro z t (rfl | rfl | rfl) ht <;> omega
  have ua : a = 0 ∨ a = 1 ∨ a = -1 := by omega
  have ub : b = 0 ∨ b = 1 ∨ b = -1 := by omega
  have b1 := bd a x ua hx
  have b2 := bd b y ub hy
  have b3 := bd a y ua hy
  have b4 := bd b x ub hx
  simp -implicitDefEqProofs [Tryd.f89]
  refine times_ev (by omega) (by omega) (by omega) (by omega) ?_
  obtain ⟨p, hp⟩ : ∃ p, p = a * x - b * y := ⟨_, rfl⟩
  obtain ⟨q, hqq⟩ : ∃ q, q = a * y + b * x := ⟨_, rfl⟩
  rw [← hp, ← hqq] at hq ⊢
  have w1 : IntKind.i64.wrap (p + c) = p + c := w64 (by omega) (by omega)
  have w2 : IntKind.i64.wrap (q + d) = q + d := w64 (by omega) (by omega)
  simp -implicitDefEqProofs [w1, w2]
  exact hq
theorem text04_ev {h : AHeap} {s : Str} (hs : s.length < 2 ^ 39) {Q : AVal → AHeap → Prop} (hq : Q (.agg [.int .i64 (Wk.text s).tr, .int .i64 (Wk.text s).ti, .int .i64 (Wk.text s).sr, .int .i64 (Wk.text s).si]) h) : Ev (cfgR ro) 54 [.str s] h Q := by
  refine Ev.wp rfl rfl Tryd.func54 rfl ?_
  have hstep : ∀ i, (hi : i < s.length) → Wk.text (s.take (i + 1)) = (Wk.text (s.take i)).then_ (Wk.byte s[i]) := fun i hi => by
    rw [List.take_succ_eq_append_getElem hi, Wk.text, List.foldl_append]; rfl
  have hbd : ∀ (w : Wk) (n : Nat) (x y : Int), w.Ok n → n < 2 ^ 39 → x.natAbs ≤ 1 → y.natAbs ≤ 1 → (w.apply (x, y)).1.natAbs < 2 ^ 45 ∧ (w.apply (x, y)).2.natAbs < 2 ^ 45 := by
    intro w n x y hw hn hx hy
    obtain ⟨u, s1, s2⟩ := hw
    obtain ⟨a, b, c, d⟩ := w
    simp only [Wk.apply] at u s1 s2 ⊢
    have bd : ∀ z t : Int, (z = 0 ∨ z = 1 ∨ z = -1) → t.natAbs ≤ 1 → (z * t).natAbs ≤ 1 := by
      rintro z t (rfl | rfl | rfl) ht <;> omega
    have ua : a = 0 ∨ a = 1 ∨ a = -1 := by omega
    have ub : b = 0 ∨ b = 1 ∨ b = -1 := by omega
    have b1 := bd a x ua hx
    have b2 := bd b y ub hy
    have b3 := bd a y ua hy
    have b4 := bd b x ub hx
    omega
  simp -implicitDefEqProofs [Tryd.f54]
  obtain ⟨I, hI⟩ : ∃ I : Nat → List AVal → AHeap → Prop, I = fun m env h' => h' = h ∧ ∃ i : Nat, i + m = s.length ∧
    env = (.str s :: .dead :: .cell [.int .i64 0, .int .i64 0, .int .i64 0, .int .i64 0] :: .cell [.int .i64 ((Wk.text (s.take i)).apply (0, 0)).1, .int .i64 ((Wk.text (s.take i)).apply (0, 0)).2] :: .cell [.int .i64 ((Wk.text (s.take i)).apply (1, 0)).1, .int .i64 ((Wk.text (s.take i)).apply (1, 0)).2] :: .int .i64 (i : Nat) :: .dead :: .dead :: .dead :: .dead :: .dead :: .dead :: .dead :: .dead :: .dead :: .dead :: .dead :: .dead :: .dead :: .dead :: .dead :: .dead :: .dead :: .dead :: .dead :: .dead :: .dead :: .dead :: .dead :: .dead :: .dead :: []) := ⟨_, rfl⟩
  refine loop_of I ?_ s.length (by rw [hI]; exact ⟨rfl, 0, by omega, rfl⟩)
  intro m env h' hi
  rw [hI] at hi
  obtain ⟨rfl, i, him, rfl⟩ := hi
  have hok := Wk.text_ok (s.take i)
  have htl : (s.take i).length ≤ i := List.length_take_le _ _
  obtain ⟨z1, z2⟩ := hbd _ _ 0 0 hok (by omega) (by decide) (by decide)
  obtain ⟨o1, o2⟩ := hbd _ _ 1 0 hok (by omega) (by decide) (by decide)
  by_cases hlt : i < s.length
  · have w1 : IntKind.i64.wrap ((i : Int) + 1) = ((i + 1 : Nat) : Int) := by rw [w64 (by omega) (by omega)]; omega
    have ix : idxNat (.int .i64 (i : Int)) s.length = .ok i := ix_nat hlt
    have hst := hstep i hlt
    obtain ⟨b, hb⟩ : ∃ b, s[i]'hlt = b := ⟨_, rfl⟩
    rw [hb] at hst
    have f1 := Wk.apply_then (Wk.text (s.take i)) (Wk.byte b) (0, 0)
    have f2 := Wk.apply_then (Wk.text (s.take i)) (Wk.byte b) (1, 0)
    rw [← hst] at f1 f2
    obtain ⟨⟨zx, zy⟩, hz⟩ : ∃ z, z = (Wk.text (s.take i)).apply (0, 0) := ⟨_, rfl⟩
    obtain ⟨⟨ox, oy⟩, ho⟩ : ∃ z, z = (Wk.text (s.take i)).apply (1, 0) := ⟨_, rfl⟩
    rw [← hz] at f1 z1 z2 ⊢
    rw [← ho] at f2 o1 o2 ⊢
    simp only [] at z1 z2 o1 o2
    simp -implicitDefEqProofs [hlt, ix, hb]
    refine byte04_ev ?_
    simp -implicitDefEqProofs [hlt, ix, hb]
    refine apply_ev (Wk.byte_ok b) (by omega) (by omega) ?_
    rw [f1]
    obtain ⟨⟨zx', zy'⟩, hz'⟩ : ∃ z, z = (Wk.text (s.take (i + 1))).apply (0, 0) := ⟨_, rfl⟩
    obtain ⟨⟨ox', oy'⟩, ho'⟩ : ∃ z, z = (Wk.text (s.take (i + 1))).apply (1, 0) := ⟨_, rfl⟩
    rw [← hz']
    rw [← ho'] at f2
    simp -implicitDefEqProofs [hlt, ix, hb]
    refine byte04_ev ?_
    simp -implicitDefEqProofs [hlt, ix, hb]
    refine apply_ev (Wk.byte_ok b) (by omega) (by omega) ?_
    rw [f2]
    simp -implicitDefEqProofs [hlt, ix, hb, w1]
    exact .mk (m := m - 1) (by omega) (by rw [hI]; exact ⟨rfl, i + 1, by omega, by rw [← hz', ← ho']; simp⟩)
  · have e : s.take i = s := List.take_of_length_le (by omega)
    rw [e] at z1 z2 o1 o2 ⊢
    have g : (Wk.text s).apply (1, 0) = ((Wk.text s).tr + (Wk.text s).sr, (Wk.text s).ti + (Wk.text s).si) ∧ (Wk.text s).apply (0, 0) = ((Wk.text s).sr, (Wk.text s).si) := by
      simp [Wk.apply]
    rw [g.1] at o1 o2 ⊢
    rw [g.2] at z1 z2 ⊢
    obtain ⟨⟨a, b, c, d⟩, hw⟩ : ∃ w, w = Wk.text s := ⟨_, rfl⟩
    rw [← hw] at hq z1 z2 o1 o2 ⊢
    simp only [] at hq z1 z2 o1 o2
    simp -implicitDefEqProofs [hlt]
    refine minus_ev (by omega) (by omega) (by omega) (by omega) ?_
    rw [show a + c - c = a by omega, show b + d - d = b by omega]
    simp -implicitDefEqProofs
    exact hq
end
end Go.Proofs.YthblmlkkmebciaaDoor
set_option linter.all false
set_option maxRecDepth 100000
set_option maxHeartbeats 4000000
namespace Go.Proofs.YthblmlkkmebciaaDoor
open Go Go.RowKit Go.Proofs
theorem row_set : ∀ (A : List AtV) (i : Nat) (v : Bool), i < A.length → overR (A.map AtV.cells).flatten (i * 7 + 6) [.bool v] = .ok ((setSh A i v).map AtV.cells).flatten
  | [], i, v, h => by simp at h
  | a :: A, 0, v, h => by
    simp only [List.map_cons, List.flatten_cons, AtV.cells, List.cons_append]
    simp [setSh, AtV.cells]
  | a :: A, i + 1, v, h => by
    have ih := row_set A i v (by simpa using h)
    simp only [List.map_cons, List.flatten_cons, AtV.cells, List.cons_append, List.nil_append, setSh] at ih ⊢
    unfold overR at ih ⊢
    split at ih
    · rename_i hle
      injection ih with ih
      simp only [List.length_cons, List.length_nil] at hle ⊢
      rw [if_pos (by omega)]
      congr 1
      have e1 : (i + 1) * 7 + 6 = (i * 7 + 6) + 1 + 1 + 1 + 1 + 1 + 1 + 1 := by omega
      have e2 : (i * 7 + 6) + 1 + 1 + 1 + 1 + 1 + 1 + 1 + (0 + 1) = (i * 7 + 6 + (0 + 1)) + 1 + 1 + 1 + 1 + 1 + 1 + 1 := by omega
      rw [e1, e2]
      simp only [List.take_succ_cons, List.drop_succ_cons, List.cons_append]
      simp only [List.length_cons, List.length_nil] at ih
      rw [ih]
    · cases ih
section
variable {ro : Nat → Option (List AVal)}
theorem Show16_ev {h : AHeap} {v : AVal} {A : List AtV} {ar an : Nat} {yes : Bool} (hs : Sl (cfgR ro) h 7 v (A.map AtV.cells)) (hv : notSlc v) (hl : A.length < 2 ^ 30) {Q : AVal → AHeap → Prop}
    (hq : ∀ v' h', Old h h' → (v' = v ∧ (showA A ar an yes).1 = A) ∨ Mine h h' 7 ((showA A ar an yes).1.map AtV.cells) v' → Q (.tuple [v', .int .i64 ((showA A ar an yes).2 : Nat)]) h') : Ev (cfgR ro) 48 [v, idA ar an, .bool yes] h Q := by
  refine Ev.wp rfl rfl Tryd.func48 rfl ?_
  simp -implicitDefEqProofs [Tryd.f48, idA]
  refine At_ev hs (by omega) ?_
  cases hix : atIx A ar an with
  | none =>
    have e : showA A ar an yes = (A, 40) := by unfold showA; rw [hix]
    rw [e] at hq
    simp -implicitDefEqProofs [same_self, ixI]
    exact hq v h (Old.refl h) (.inl ⟨rfl, rfl⟩)
  | some i =>
    have e : showA A ar an yes = (setSh A i yes, 0) := by unfold showA; rw [hix]
    rw [e] at hq
    have hil := atIx_lt hix
    have hal : (A.map AtV.cells).length = A.length := List.length_map _
    have q1 := hs.len
    have q2 := hs.read
    obtain ⟨w, h1, e1, m1, o1⟩ := (Mine.nil h h 7).append (bytes := 32) (new := A.map AtV.cells) (by decide) (fun e he => by obtain ⟨a, _, rfl⟩ := List.mem_map.1 he; rfl) (by rw [hal]; simp; omega) (Old.refl h)
    rw [List.nil_append] at m1
    rw [hal] at q1 q2 e1
    have hd : decide ((i : Int) < 0) = false := decide_eq_false (by omega)
    have ha : A[i]? = some A[i] := List.getElem?_eq_getElem hil
    have E := El.of (m1.sl (c := cfgR ro)) ha
    obtain ⟨hs7, ⟨h0, _⟩ | ⟨q, fz, rfl, g1, g2, g3⟩⟩ := m1
    · have h00 : A.length = 0 := by rw [← hal, h0]; rfl
      omega
    · have rs := row_set A i yes hil
      have ex : idxNat (.int .i64 (i : Int)) A.length = .ok i := ix_nat hil
      have hst : storeR (cfgR ro) h1 4 (elpo (.sl q 0 (A.map AtV.cells).length) 7 i 6) (.bool yes) = .ok (h1.set q (.row 7 fz ((setSh A i yes).map AtV.cells).flatten)) := by
        simp [elpo, g3, rs]
      have Ex := E.x
      have Eo := E.o
      obtain ⟨w, hw⟩ : ∃ w, w = AVal.sl q 0 (A.map AtV.cells).length := ⟨_, rfl⟩
      rw [← hw] at Ex Eo hst e1
      simp -implicitDefEqProofs [same_self, ixI, hd, q1, q2, e1, Ex, Eo, hst]
      refine hq w _ (o1.set g1 _) (.inr ⟨fun e he => by obtain ⟨a, _, rfl⟩ := List.mem_map.1 he; rfl, .inr ⟨q, fz, ?_, g1, g2, get_set_self _ _ _⟩⟩)
      rw [hw, List.length_map, List.length_map, setSh_len]
theorem eqK57 (h : AHeap) (z a b y c d : Nat) : eqIn (cfgR ro) h 10000 57 (.agg [.int .u64 z, .int .u16 a, .int .u32 b]) (.agg [.int .u64 y, .int .u16 c, .int .u32 d]) = .ok (decide (z = y ∧ a = c ∧ b = d)) := by
  have e0 : eqIn (cfgR ro) h 10000 57 (.agg [.int .u64 z, .int .u16 a, .int .u32 b]) (.agg [.int .u64 y, .int .u16 c, .int .u32 d]) = (match (z : Int) == (y : Int) with | true => (match (a : Int) == (c : Int) with | true => (match (b : Int) == (d : Int) with | true => .ok true | false => .ok false) | false => .ok false) | false => .ok false) := by kernel_rfl
  rw [e0]
  simp only [beqNI]
  by_cases c1 : z = y
  · by_cases c2 : a = c
    · by_cases c3 : b = d
      · simp [c1, c2, c3]
      · simp [c1, c2, c3]
    · simp [c1, c2]
  · simp [c1]
theorem eqI56 (h : AHeap) (a b c d : Nat) : eqIn (cfgR ro) h 10000 56 (.agg [.int .u16 a, .int .u32 b]) (.agg [.int .u16 c, .int .u32 d]) = .ok (decide (a = c ∧ b = d)) := by
  have e0 : eqIn (cfgR ro) h 10000 56 (.agg [.int .u16 a, .int .u32 b]) (.agg [.int .u16 c, .int .u32 d]) = (match (a : Int) == (c : Int) with | true => (match (b : Int) == (d : Int) with | true => .ok true | false => .ok false) | false => .ok false) := by kernel_rfl
  rw [e0]
  simp only [beqNI]
  by_cases c2 : a = c
  · by_cases c3 : b = d
    · simp [c2, c3]
    · simp [c2, c3]
  · simp [c2]
theorem eqL57 : eqL 57 = true := by decide
theorem eqL56 : eqL 56 = true := by decide
theorem atom16_ev {h : AHeap} {a b : AtV} {Q : AVal → AHeap → Prop} (hq : Q (.bool (decide (a = b))) h) : Ev (cfgR ro) 37 [.agg a.cells, .agg b.cells] h Q := by
  refine Ev.wp rfl rfl Tryd.func37 rfl ?_
  have fin : ∀ x : Bool, (x = true ↔ (a.clock = b.clock ∧ a.r = b.r ∧ a.n = b.n ∧ a.er = b.er ∧ a.en = b.en ∧ a.b.toNat = b.b.toNat ∧ a.shown = b.shown)) → Q (.bool x) h := by
    intro x hx
    rw [AtV.ext_iff'] at hx
    have : decide (a = b) = x := by
      cases x with
      | true => exact decide_eq_true (hx.1 rfl)
      | false => exact decide_eq_false (fun hh => by have := hx.2 hh; cases this)
    rw [this] at hq; exact hq
  obtain ⟨c, r, n, er, en, bb, sh⟩ := a
  obtain ⟨c', r', n', er', en', bb', sh'⟩ := b
  simp only at fin
  have bad : ¬ (c = c' ∧ r = r' ∧ n = n' ∧ er = er' ∧ en = en' ∧ bb.toNat = bb'.toNat ∧ sh = sh') → Q (.bool false) h := fun hn => fin false ⟨fun e => (nomatch e), fun e => (hn e).elim⟩
  have ek := eqK57 (ro := ro) h c r n c' r' n'
  have ei := eqI56 (ro := ro) h er en er' en'
  have eb : eqFlat Tryd.prog h .bool (.bool sh) (.bool sh') = .ok (sh == sh') := by rfl
  by_cases c1 : c = c' ∧ r = r' ∧ n = n'
  · rw [decide_eq_true c1] at ek
    by_cases c2 : er = er' ∧ en = en'
    · rw [decide_eq_true c2] at ei
      by_cases c3 : bb.toNat = bb'.toNat
      · simp -implicitDefEqProofs [Tryd.f37, AtV.cells, ek, ei, eqL57, eqL56, c3, eb]
        exact fin (sh == sh') (by simp [c1, c2, c3])
      · have d : ¬ ((bb.toNat : Int) = (bb'.toNat : Int)) := by omega
        simp -implicitDefEqProofs [Tryd.f37, AtV.cells, ek, ei, eqL57, eqL56, d]
        exact bad (fun hh => c3 hh.2.2.2.2.2.1)
    · rw [decide_eq_false c2] at ei
      simp -implicitDefEqProofs [Tryd.f37, AtV.cells, ek, ei, eqL57, eqL56]
      exact bad (fun hh => c2 ⟨hh.2.2.2.1, hh.2.2.2.2.1⟩)
  · rw [decide_eq_false c1] at ek
    simp -implicitDefEqProofs [Tryd.f37, AtV.cells, ek, ei, eqL57, eqL56]
    exact bad (fun hh => c1 ⟨hh.1, hh.2.1, hh.2.2.1⟩)
theorem f_geq {a b : Nat} {x y : Int} (ha : Wh a x) (hb : Wh b y) : floatBin .geq .f64 a b = .ok (.bool (decide (y ≤ x))) := by
  unfold floatBin
  rw [show FloatKind.f64.format = Ieee.double from rfl, order_wh ha hb]
  rcases Int.lt_trichotomy x y with h | h | h
  · rw [cmp_lt h, decide_eq_false (by omega)]; rfl
  · rw [h, cmp_eq, decide_eq_true (by omega)]; rfl
  · rw [cmp_gt h, decide_eq_true (by omega)]; rfl
theorem f_leq {a b : Nat} {x y : Int} (ha : Wh a x) (hb : Wh b y) : floatBin .leq .f64 a b = .ok (.bool (decide (x ≤ y))) := by
  unfold floatBin
  rw [show FloatKind.f64.format = Ieee.double from rfl, order_wh ha hb]
  rcases Int.lt_trichotomy x y with h | h | h
  · rw [cmp_lt h, decide_eq_true (by omega)]; rfl
  · rw [h, cmp_eq, decide_eq_true (by omega)]; rfl
  · rw [cmp_gt h, decide_eq_false (by omega)]; rfl
theorem f_eql {a b : Nat} {x y : Int} (ha : Wh a x) (hb : Wh b y) : floatBin .eql .f64 a b = .ok (.bool (decide (x = y))) := by
  unfold floatBin
  rw [show FloatKind.f64.format = Ieee.double from rfl, order_wh ha hb]
  rcases Int.lt_trichotomy x y with h | h | h
  · rw [cmp_lt h, decide_eq_false (by omega)]; rfl
  · rw [h, cmp_eq, decide_eq_true (by omega)]; rfl
  · rw [cmp_gt h, decide_eq_false (by omega)]; rfl
theorem f_neq {a b : Nat} {x y : Int} (ha : Wh a x) (hb : Wh b y) : floatBin .neq .f64 a b = .ok (.bool (!decide (x = y))) := by
  unfold floatBin
  rw [show FloatKind.f64.format = Ieee.double from rfl, order_wh ha hb]
  rcases Int.lt_trichotomy x y with h | h | h
  · rw [cmp_lt h, decide_eq_false (by omega)]; rfl
  · rw [h, cmp_eq, decide_eq_true (by omega)]; rfl
  · rw [cmp_gt h, decide_eq_false (by omega)]; rfl
theorem f_int {a : Nat} {x : Int} (ha : Wh a x) : (FloatKind.f64.decode a).toInt .zero = some x := toInt_wh ha
theorem wh_lo : Wh 13943144446339055616 (-33554432) := by
  have : FloatKind.f64.nearest (-33554432) = 13943144446339055616 := by decide +kernel
  rw [← this]; exact nearest_wh (by decide)
theorem wh_hi : Wh 4719772409484279808 33554432 := by
  have : FloatKind.f64.nearest 33554432 = 4719772409484279808 := by decide +kernel
  rw [← this]; exact nearest_wh (by decide)
theorem of03_ev {h : AHeap} {a b : Nat} {x y : Int} (ha : Wh a x) (h1 : -33554432 ≤ x) (h2 : x ≤ 33554432) (hb : Wh b y) (h3 : -33554432 ≤ y) (h4 : y ≤ 33554432) {Q : AVal → AHeap → Prop}
    (hq : Q (.tuple [.agg [.int .i64 x, .int .i64 y], .bool true]) h) : Ev (cfgR ro) 55 [.cplx .f64 a b] h Q := by
  refine Ev.wp rfl rfl Tryd.func55 rfl ?_
  have hn : Wh (FloatKind.f64.nearest x) x := nearest_wh (by omega)
  have hm : Wh (FloatKind.f64.nearest y) y := nearest_wh (by omega)
  have e1 := f_geq ha wh_lo
  have e2 := f_leq ha wh_hi
  have e3 := f_neq hn ha
  have e4 := f_int ha
  have e5 := f_geq hb wh_lo
  have e6 := f_leq hb wh_hi
  have e7 := f_neq hm hb
  have e8 := f_int hb
  have b1 : IntKind.i64.min ≤ x := by show (-9223372036854775808 : Int) ≤ x; omega
  have b2 : x ≤ IntKind.i64.max := by show x ≤ (9223372036854775807 : Int); omega
  have b3 : IntKind.i64.min ≤ y := by show (-9223372036854775808 : Int) ≤ y; omega
  have b4 : y ≤ IntKind.i64.max := by show y ≤ (9223372036854775807 : Int); omega
  have b5 : x ≤ 9223372036854775807 := by omega
  have b6 : y ≤ 9223372036854775807 := by omega
  simp -implicitDefEqProofs [Tryd.f55, e1, e2, e3, e4, e5, e6, e7, e8, h1, h2, h3, h4, b1, b2, b3, b4, b5, b6]
  exact hq
end
end Go.Proofs.YthblmlkkmebciaaDoor
set_option linter.all false
set_option maxRecDepth 100000
set_option maxHeartbeats 4000000
namespace Go.Proofs.YthblmlkkmebciaaDoor
open Go Go.RowKit Go.Proofs
/-- a call, as the law has it -/
structure OpV where
  kind : Int
  ar : Nat
  an : Nat
  x : RunV
  yes : Bool
def OpV.cells (o : OpV) : List AVal := [.int .i64 o.kind, .int .u16 o.ar, .int .u32 o.an, .int .u64 o.x.clock, .int .u16 o.x.r, .int .u32 o.x.n, .int .u16 o.x.er, .int .u32 o.x.en, .str o.x.text, .bool o.x.shown, .bool o.yes]
structure RunR (x : RunV) : Prop where
  n : x.n < 2 ^ 32
  en : x.en < 2 ^ 32
  tx : x.text.length < 2 ^ 63
structure OpR (o : OpV) : Prop where
  an : o.an < 2 ^ 32
  x : RunR o.x
def doA (A : List AtV) (o : OpV) : List AtV := if o.kind = 1 then (putA A o.ar o.an o.x).1 else if o.kind = 2 then (showA A o.ar o.an o.yes).1 else A
/-- a row of one's own, apart from a store -/
structure Wt (h0 h : AHeap) (O : Nat → Prop) (A : List AtV) (v : AVal) : Prop where
  m : Mine h0 h 7 (A.map AtV.cells) v
  no : ∀ q f n, v = .sl q f n → ¬ O q
theorem Wt.stp {h0 h h' : AHeap} {O O' : Nat → Prop} {A : List AtV} {v : AVal} (W : Wt h0 h O A v) (P : Stp h O h' O') : Wt h0 h' O' A v := by
  obtain ⟨⟨m1, m2⟩, no⟩ := W
  refine ⟨⟨m1, m2.imp_right ?_⟩, fun q f n e ho => ?_⟩
  · rintro ⟨q, fz, e, g1, g2, g3⟩
    exact ⟨q, fz, e, g1, Nat.lt_of_lt_of_le g2 P.nx, by rw [P.keep q g2 (no q 0 _ e)]; exact g3⟩
  · rcases m2 with ⟨_, e2⟩ | ⟨q', fz, e2, g1, g2, g3⟩
    · rw [e] at e2; cases e2
    · rw [e] at e2; cases e2
      rcases P.own q ho with h1 | h1
      · exact no _ _ _ e h1
      · omega
theorem Wt.old {h0 h h' : AHeap} {O : Nat → Prop} {A : List AtV} {v : AVal} (W : Wt h0 h O A v) (o : Old h h') : Wt h0 h' O A v := ⟨W.m.keep o, W.no⟩
theorem StA.keep {h h' : AHeap} {s : Nat} {O : Nat → Prop} {A : List AtV} (S : StA h s O A) (o : Old h h') : StA h' s O A := by
  obtain ⟨m, t, ix, a1, a2, a3, a4, a5, a6, rfl⟩ := S
  have kk : ∀ q, IObj m h q → h'.get q = h.get q := fun q hq => o.2 q (a1.lt q (.inr (.inr hq)))
  refine ⟨m, t, ix, (a1.old o).1, a2, a3, a4, a5, a6, funext fun q => propext ?_⟩
  unfold SOwn
  rw [IObj.keep a1 kk]
theorem Stp.ofOld {h h' : AHeap} (O : Nat → Prop) (o : Old h h') : Stp h O h' O := ⟨o.1, fun q hq _ => o.2 q hq, fun _ h => .inl h⟩
theorem StA.len {h : AHeap} {s : Nat} {O : Nat → Prop} {A : List AtV} (S : StA h s O A) : A.length ≤ 65536 := by
  obtain ⟨m, t, ix, a1, a2, a3, a4, a5, a6, a7⟩ := S
  rw [← a5, flatten_length]; exact a4
theorem StA.num {h : AHeap} {s : Nat} {O : Nat → Prop} {A : List AtV} (S : StA h s O A) : ∀ a ∈ A, a.n < 2 ^ 29 ∧ a.en < 2 ^ 29 := by
  obtain ⟨m, t, ix, a1, a2, a3, a4, a5, a6, a7⟩ := S
  intro a ha
  rw [← a5] at ha
  obtain ⟨l, hl, ha⟩ := List.mem_flatten.1 ha
  obtain ⟨x, hx, rfl⟩ := List.mem_map.1 hl
  obtain ⟨p, hp, rfl⟩ := List.mem_map.1 hx
  obtain ⟨i, hi⟩ := List.mem_iff_getElem?.1 ha
  rw [atomsOf_get] at hi
  have := a2.ok p hp
  cases hx2 : p.2.text[i]? with
  | none => rw [hx2] at hi; cases hi
  | some b =>
    rw [hx2] at hi
    cases hi
    have h1 := (List.getElem?_eq_some_iff.1 hx2).1
    have h2 := this.n2
    have h3 := this.e2
    exact ⟨by simp only []; omega, by simp only []; omega⟩
/-- a store at its beginning -/
theorem StA.new (h : AHeap) : StA (h.push (.row 0 false [.nilp, .int .u64 0, .nilm])) h.next (fun o => o = h.next) [] := by
  refine ⟨.nilm, .nil, fun _ => [], ⟨⟨⟨0, get_push_next _ _⟩, trivial, List.nodup_nil, by simp [Rt.ids, Rt.items], by simp, by simp [Rt.ids, Rt.items]⟩, ⟨fun r p => by simp [Rt.items], fun r => List.Pairwise.nil, .inl ⟨rfl, fun _ => rfl⟩⟩, fun p hp => hp, fun o ho => (by obtain ⟨q, e, _⟩ := ho; cases e)⟩, ⟨fun p hp => (by cases hp), List.Pairwise.nil⟩, fun p hp => (by cases hp), by simp [Rt.at_, Rt.rs, Rt.items, atomsN], rfl, fun _ => trivial, funext fun o => propext ?_⟩
  unfold SOwn
  constructor
  · exact fun e => .inl e
  · rintro (e | e | ⟨q, e, _⟩)
    · exact e
    · simp [Rt.ids, Rt.items] at e
    · cases e
section
variable {ro : Nat → Option (List AVal)}
theorem do_ev (hro : ro 0 = some [.int .u16 0, .int .u32 0]) {h0 h : AHeap} {s : Nat} {O : Nat → Prop} {A : List AtV} {v : AVal} {o : OpV} (S : StA h s O A) (W : Wt h0 h O A v) (hh : h0.next ≤ h.next) (hr : OpR o) (htx : o.x.text.length < 2 ^ 60) {Q : AVal → AHeap → Prop}
    (hq : ∀ v' h' O', StA h' s O' (doA A o) → Wt h0 h' O' (doA A o) v' → Stp h O h' O' → Q (.tuple [v', .bool true]) h') : Ev (cfgR ro) 11 [.ptr s 0, v, .agg o.cells] h Q := by
  refine Ev.wp rfl rfl Tryd.func11 rfl ?_
  have hlen := S.len
  have hold : ∀ {h1 h2 : AHeap} {v' : AVal} {B : List AtV} {O1 : Nat → Prop}, h0.next ≤ h1.next → Wt h0 h1 O1 A v → (∀ o, O1 o → o < h1.next) → Old h1 h2 → (v' = v ∧ B = A) ∨ Mine h1 h2 7 (B.map AtV.cells) v' → Wt h0 h2 O1 B v' := by
    intro h1 h2 v' B O1 hle W1 hlt oo hm
    rcases hm with ⟨rfl, rfl⟩ | ⟨m1, m2⟩
    · exact W1.old oo
    · refine ⟨⟨m1, m2.imp_right (fun ⟨q, fz, e, g1, g2, g3⟩ => ⟨q, fz, e, Nat.le_trans hle g1, g2, g3⟩)⟩, fun q f n e ho => ?_⟩
      rcases m2 with ⟨_, e2⟩ | ⟨q', fz, e2, g1, g2, g3⟩
      · rw [e] at e2; cases e2
      · rw [e] at e2; cases e2
        have := hlt q ho; omega
  unfold doA at hq
  by_cases c1 : o.kind = 1
  · rw [if_pos c1] at hq
    simp -implicitDefEqProofs [Tryd.f11, OpV.cells, c1]
    refine sput_ev hro (x := o.x) (ar := o.ar) (an := o.an) S hr.an htx hr.x.n hr.x.en (fun h1 O1 S1 P1 => ?_)
    have W1 := W.stp P1
    simp -implicitDefEqProofs [OpV.cells, c1, same_self]
    refine Put16_ev (x := o.x) (ar := o.ar) (an := o.an) W1.m.sl W1.m.notSlc (by omega) htx hr.x.n hr.x.en (fun v' h2 o2 hm => ?_)
    simp -implicitDefEqProofs
    exact hq v' h2 O1 (S1.keep o2) (hold (Nat.le_trans hh P1.nx) W1 S1.lt o2 hm) (P1.trans (Stp.ofOld O1 o2))
  · rw [if_neg c1] at hq
    by_cases c2 : o.kind = 2
    · rw [if_pos c2] at hq
      simp -implicitDefEqProofs [Tryd.f11, OpV.cells, c2]
      refine sshow_ev (ar := o.ar) (an := o.an) (v := o.yes) S hr.an (fun h1 O1 S1 P1 => ?_)
      have W1 := W.stp P1
      simp -implicitDefEqProofs [OpV.cells, c2, same_self]
      refine Show16_ev (ar := o.ar) (an := o.an) (yes := o.yes) W1.m.sl W1.m.notSlc (by omega) (fun v' h2 o2 hm => ?_)
      simp -implicitDefEqProofs
      exact hq v' h2 O1 (S1.keep o2) (hold (Nat.le_trans hh P1.nx) W1 S1.lt o2 hm) (P1.trans (Stp.ofOld O1 o2))
    · rw [if_neg c2] at hq
      simp -implicitDefEqProofs [Tryd.f11, OpV.cells, c1, c2]
      exact hq v h O S W (Stp.refl _ _)
/-- few calls -/
def sizeOps (l : List OpV) : Nat := (l.map fun o => min o.x.text.length 3000).sum
theorem small_ev {h : AHeap} {v : AVal} {l : List OpV} (hs : Sl (cfgR ro) h 11 v (l.map OpV.cells)) (hl : l.length < 2 ^ 63) (hr : ∀ o ∈ l, OpR o) {Q : AVal → AHeap → Prop} (hq1 : sizeOps l ≤ 2500 → l.length ≤ 80 → Q (.bool true) h) (hq2 : Q (.bool false) h) : Ev (cfgR ro) 10 [v] h Q := by
  refine Ev.wp rfl rfl Tryd.func10 rfl ?_
  have hL : lenR (cfgR ro) h 22 v = .ok (.int .i64 (l.length : Nat)) := by have := hs.lenR (t := 22) un22; simpa using this
  simp -implicitDefEqProofs [Tryd.f10, hL]
  obtain ⟨I, hI⟩ : ∃ I : Nat → List AVal → AHeap → Prop, I = fun m env h' => h' = h ∧ ∃ i : Nat, i + m = l.length ∧ sizeOps (l.take i) ≤ 2500 ∧
    env = (v :: .dead :: .dead :: .int .i64 (sizeOps (l.take i) : Nat) :: .dead :: .dead :: v :: .int .i64 (l.length : Nat) :: .int .i64 (i : Nat) :: .dead :: .dead :: .dead :: .dead :: .dead :: .dead :: .dead :: .dead :: .dead :: .dead :: .dead :: .dead :: .dead :: .dead :: .dead :: .dead :: []) := ⟨_, rfl⟩
  refine loop_of I ?_ l.length (by rw [hI]; exact ⟨rfl, 0, by omega, by simp [sizeOps], rfl⟩)
  intro m env h' hi
  rw [hI] at hi
  obtain ⟨rfl, i, him, hsz, rfl⟩ := hi
  by_cases hlt : i < l.length
  · obtain ⟨o, ho⟩ : ∃ o, l[i]? = some o := ⟨_, List.getElem?_eq_getElem hlt⟩
    have he : (l.map OpV.cells)[i]? = some o.cells := by rw [List.getElem?_map, ho]; rfl
    have hx : indexAddrR Tryd.prog 22 v (.int .i64 (i : Nat)) = .ok (elp v 11 i) := hs.idx un22 sz42 (by simpa using hlt)
    have hld : loadR (cfgR ro) h' 42 (elp v 11 i) = .ok (.agg o.cells) := hs.load he ag42 sz42
    have w1 : IntKind.i64.wrap ((i : Int) + 1) = ((i + 1 : Nat) : Int) := by rw [w64 (by omega) (by omega)]; omega
    have hsc : sizeOps (l.take (i + 1)) = sizeOps (l.take i) + min o.x.text.length 3000 := by
      obtain ⟨l1, e1⟩ := List.getElem?_eq_some_iff.1 ho
      rw [List.take_succ_eq_append_getElem l1, e1]; simp [sizeOps]
    obtain ⟨n, hn⟩ : ∃ n, n = sizeOps (l.take i) := ⟨_, rfl⟩
    rw [← hn] at hsz hsc ⊢
    simp only [OpV.cells] at hld
    have hmin : foldR min2R (.int .i64 (o.x.text.length : Nat)) [.int .i64 3000] = .ok (.int .i64 (min o.x.text.length 3000 : Nat)) := by
      have : min2R (.int .i64 (o.x.text.length : Nat)) (.int .i64 3000) = .ok (.int .i64 (min o.x.text.length 3000 : Nat)) := by
        simp [min2R]; omega
      simp [foldR, this]
    obtain ⟨mn, hmn⟩ : ∃ mn, mn = min o.x.text.length 3000 := ⟨_, rfl⟩
    rw [← hmn] at hmin hsc
    have w2 : IntKind.i64.wrap ((n : Int) + (mn : Int)) = ((n + mn : Nat) : Int) := by rw [w64 (by omega) (by omega)]; omega
    obtain ⟨n2, hn2⟩ : ∃ n2, n2 = n + mn := ⟨_, rfl⟩
    rw [← hn2] at w2 hsc
    by_cases c : 2500 < n2
    · have d1 : decide ((2500 : Int) < (n2 : Int)) = true := decide_eq_true (by omega)
      simp -implicitDefEqProofs [hlt, hx, hld, hmin, w2, c, d1]
      exact hq2
    · have d1 : decide ((2500 : Int) < (n2 : Int)) = false := decide_eq_false (by omega)
      simp -implicitDefEqProofs [hlt, hx, hld, hmin, w1, w2, c, d1]
      exact .mk (m := m - 1) (by omega) (by rw [hI]; exact ⟨rfl, i + 1, by omega, by omega, by rw [hsc]; simp⟩)
  · have : l.take i = l := List.take_of_length_le (by omega)
    rw [this] at hsz ⊢
    simp -implicitDefEqProofs [hlt, hL]
    by_cases c : l.length ≤ 80
    · rw [decide_eq_true (by omega : (l.length : Int) ≤ 80)]
      exact hq1 hsz c
    · rw [decide_eq_false (by omega : ¬ (l.length : Int) ≤ 80)]
      exact hq2
end
end Go.Proofs.YthblmlkkmebciaaDoor
set_option linter.all false
set_option maxRecDepth 100000
set_option maxHeartbeats 4000000
namespace Go.Proofs.YthblmlkkmebciaaDoor
open Go Go.RowKit Go.Proofs
section
variable {ro : Nat → Option (List AVal)}
theorem eqG (h : AHeap) (a b c d : Int) : eqIn (cfgR ro) h 10000 112 (.agg [.int .i64 a, .int .i64 b]) (.agg [.int .i64 c, .int .i64 d]) = (match a == c with | true => (match b == d with | true => .ok true | false => .ok false) | false => .ok false) := by kernel_rfl
theorem eqG_self (h : AHeap) (a b : Int) : eqIn (cfgR ro) h 10000 112 (.agg [.int .i64 a, .int .i64 b]) (.agg [.int .i64 a, .int .i64 b]) = .ok true := by rw [eqG]; simp
theorem eqLG : eqL 112 = true := by decide
theorem anchor_ev (hro : ro 0 = some [.int .u16 0, .int .u32 0]) {h : AHeap} {Q : AVal → AHeap → Prop} (hq : ∀ h', Old h h' → Q (.bool true) h') : Ev (cfgR ro) 9 [] h Q := by
  refine Ev.wp rfl rfl Tryd.func9 rfl ?_
  have S0 := StA.new h
  obtain ⟨H0, hH0⟩ : ∃ H0, H0 = h.push (.row 0 false [.nilp, .int .u64 0, .nilm]) := ⟨_, rfl⟩
  obtain ⟨s, hss⟩ : ∃ s, s = h.next := ⟨_, rfl⟩
  have o0 : Old h H0 := by rw [hH0]; exact (Old.refl h).push _
  rw [← hH0, ← hss] at S0
  simp -implicitDefEqProofs [Tryd.f9]
  rw [← hH0, ← hss]
  obtain ⟨A1, hA1⟩ : ∃ A1 : List AtV, A1 = [⟨1, 1, 1, 1, 1, 97, true⟩, ⟨1, 1, 2, 1, 2, 98, true⟩] := ⟨_, rfl⟩
  obtain ⟨A2, hA2⟩ : ∃ A2 : List AtV, A2 = [⟨1, 1, 1, 1, 1, 97, true⟩, ⟨2, 1, 3, 1, 3, 120, true⟩, ⟨1, 1, 2, 1, 2, 98, true⟩] := ⟨_, rfl⟩
  have p1 : putA [] 0 0 ⟨1, 1, 1, 1, 1, [97, 98], true⟩ = (A1, 0) := by rw [hA1]; decide +kernel
  have p2 : putA A1 1 1 ⟨2, 1, 3, 1, 3, [120], true⟩ = (A2, 0) := by rw [hA1, hA2]; decide +kernel
  refine sput_ev hro (x := ⟨1, 1, 1, 1, 1, [97, 98], true⟩) (ar := 0) (an := 0) S0 (by decide) (by decide) (by decide) (by decide) (fun h1 O1 S1 P1 => ?_)
  rw [p1] at S1 ⊢
  simp -implicitDefEqProofs
  refine idPlus_ev (r := 1) (n := 1) (k := 2) (by decide) ?_
  simp -implicitDefEqProofs [idA, same_self]
  refine sput_ev hro (x := ⟨2, 1, 3, 1, 3, [120], true⟩) (ar := 1) (an := 1) S1 (by decide) (by decide) (by decide) (by decide) (fun h2 O2 S2 P2 => ?_)
  rw [p2] at S2 ⊢
  simp -implicitDefEqProofs [same_self]
  refine stext_ev S2 (fun h3 o3 => ?_)
  have t2 : shownA A2 = [97, 120, 98] := by rw [hA2]; decide
  rw [t2]
  have S3 := S2.keep o3
  simp -implicitDefEqProofs [same_self]
  refine sshow_ev (ar := 1) (an := 1) (v := false) S3 (by decide) (fun h4 O4 S4 P4 => ?_)
  have p4 : showA A2 1 1 false = (setSh A2 0 false, 0) := by rw [hA2]; decide +kernel
  rw [p4] at S4 ⊢
  simp -implicitDefEqProofs [same_self]
  refine stext_ev S4 (fun h5 o5 => ?_)
  have t4 : shownA (setSh A2 0 false) = [120, 98] := by rw [hA2]; decide
  rw [t4]
  simp -implicitDefEqProofs [same_self]
  have PP := ((P1.trans P2).trans (Stp.ofOld O2 o3)).trans (P4.trans (Stp.ofOld O4 o5))
  exact hq h5 (PP.toOld o0 (fun o ho => by rw [ho]; omega)).1
theorem is_ev {h0 h : AHeap} {s : Nat} {O : Nat → Prop} {A : List AtV} {v : AVal} (S : StA h s O A) (W : Wt h0 h O A v) {Q : AVal → AHeap → Prop} (hq : ∀ h', Old h h' → Q (.bool true) h') : Ev (cfgR ro) 15 [.ptr s 0, v] h Q := by
  refine Ev.wp rfl rfl Tryd.func15 rfl ?_
  have hlen := S.len
  have hnum := S.num
  have hL : ∀ h', Old h h' → lenR (cfgR ro) h' 32 v = .ok (.int .i64 (A.length : Nat)) := fun h' o => by have := ((W.old o).m.sl (c := cfgR ro)).lenR (t := 32) un32; simpa using this
  simp -implicitDefEqProofs [Tryd.f15]
  refine satoms_ev S (fun w h1 o1 mw => ?_)
  simp -implicitDefEqProofs
  refine Shown_ev (W.old o1).m.sl (by omega) (fun h2 o2 => ?_)
  have o12 := o1.trans o2
  have mw2 := mw.keep o2
  have hLw : ∀ h', Old h2 h' → lenR (cfgR ro) h' 109 w = .ok (.int .i64 (A.length : Nat)) := fun h' o => by have := ((mw2.keep o).sl (c := cfgR ro)).lenR (t := 109) un109; simpa using this
  obtain ⟨m, t, ix, a1, a2, a3, a4, a5, a6, a7⟩ := S.keep o12
  have hat : t.at_ = A.length := by rw [← a5, flatten_length]; rfl
  have hsh : shownTx t.rs = shownA A := by rw [← a5, shownA_flat]
  have hr1 : t.items.length ≤ A.length := by rw [← hat]; exact a2.len
  have hr2 : min 1 A.length ≤ t.items.length := by
    have : t.items.length = 0 → A.length = 0 := fun e => by
      rw [← hat]; have : t.items = [] := List.length_eq_zero_iff.1 e
      unfold Rt.at_ Rt.rs; rw [this]; rfl
    omega
  have hr3 : need A ≤ t.items.length := by
    have := need_le t.rs none (fun x hx => by obtain ⟨p, hp, rfl⟩ := List.mem_map.1 hx; exact (a2.ok p hp).pos)
    rw [a5] at this
    simpa [Rt.rs, need] using this
  have hmin : foldR min2R (.int .i64 1) [.int .i64 (A.length : Nat)] = .ok (.int .i64 (min 1 A.length : Nat)) := by
    have : min2R (.int .i64 1) (.int .i64 (A.length : Nat)) = .ok (.int .i64 (min 1 A.length : Nat)) := by
      simp [min2R]; omega
    simp [foldR, this]
  simp -implicitDefEqProofs [hLw h2 (Old.refl h2), hL h2 o12]
  refine slen_ev a1 ?_
  rw [hat]
  simp -implicitDefEqProofs [hLw h2 (Old.refl h2), hL h2 o12]
  refine sshown_ev a1 ?_
  rw [hsh]
  simp -implicitDefEqProofs [hLw h2 (Old.refl h2), hL h2 o12]
  refine stext_ev (S.keep o12) (fun h3 o3 => ?_)
  have b1 := (a1.old o3).1
  simp -implicitDefEqProofs [hLw h3 o3, hL h3 (o12.trans o3)]
  refine sruns_ev b1 ?_
  obtain ⟨R, hR⟩ : ∃ R, R = t.items.length := ⟨_, rfl⟩
  rw [← hR] at hr1 hr2 hr3 ⊢
  have d1 : decide ((R : Int) < ((min 1 A.length : Nat) : Int)) = false := decide_eq_false (by omega)
  obtain ⟨mn, hmn⟩ : ∃ mn, mn = min 1 A.length := ⟨_, rfl⟩
  rw [← hmn] at hmin d1 hr2
  have d1' : ¬ R < mn := by omega
  simp -implicitDefEqProofs [hLw h3 o3, hL h3 (o12.trans o3), hmin, d1, d1']
  refine sruns_ev b1 ?_
  rw [← hR]
  have d2 : decide ((A.length : Int) < (R : Int)) = false := decide_eq_false (by omega)
  have d2' : ¬ A.length < R := by omega
  simp -implicitDefEqProofs [hLw h3 o3, hL h3 (o12.trans o3), hmin, d2, d2']
  have o13 := o12.trans o3
  have mw3 := mw2.keep o3
  have S3 := S.keep o13
  obtain ⟨I, hI⟩ : ∃ I : Nat → List AVal → AHeap → Prop, I = fun m env h' => h' = h3 ∧ ∃ i : Nat, i + m = A.length ∧
    env = (.ptr s 0 :: v :: .dead :: .dead :: .dead :: w :: .str (shownA A) :: .dead :: .dead :: .dead :: .dead :: .dead :: .dead :: .dead :: .dead :: .dead :: .dead :: .dead :: .dead :: .dead :: .dead :: .dead :: .dead :: .dead :: .dead :: .dead :: .dead :: .dead :: .dead :: .dead :: .dead :: .dead :: .dead :: .dead :: .dead :: .dead :: .dead :: .dead :: .dead :: .dead :: .dead :: .dead :: .dead :: .dead :: .dead :: .dead :: .dead :: .dead :: .dead :: .dead :: .dead :: .dead :: .dead :: .dead :: .dead :: .dead :: .dead :: .dead :: .int .i64 (A.length : Nat) :: .int .i64 (i : Nat) :: .dead :: .dead :: .dead :: .dead :: .dead :: .dead :: .dead :: .dead :: .dead :: .dead :: .dead :: .dead :: .dead :: .dead :: .dead :: .dead :: .dead :: .dead :: .dead :: .dead :: .dead :: .dead :: .dead :: .dead :: .dead :: .dead :: .dead :: .dead :: .dead :: .dead :: .dead :: .dead :: .dead :: .dead :: .dead :: .dead :: .dead :: .dead :: .dead :: .dead :: .dead :: .dead :: .dead :: .dead :: .dead :: .dead :: .dead :: .dead :: .dead :: .dead :: .dead :: .dead :: []) := ⟨_, rfl⟩
  refine loop_of I ?_ A.length (by rw [hI]; exact ⟨rfl, 0, by omega, rfl⟩)
  intro n env h' hi
  rw [hI] at hi
  obtain ⟨rfl, i, him, rfl⟩ := hi
  by_cases hlt : i < A.length
  · obtain ⟨a, ha⟩ : ∃ a, A[i]? = some a := ⟨_, List.getElem?_eq_getElem hlt⟩
    have E := El.of ((W.old o13).m.sl (c := cfgR ro)) ha
    have he : (A.map AtV.cells)[i]? = some a.cells := by rw [List.getElem?_map, ha]; rfl
    have hsw := mw3.sl (c := cfgR ro)
    have hx : indexAddrR Tryd.prog 109 w (.int .i64 (i : Nat)) = .ok (elp w 7 i) := hsw.idx un109 sz82 (by simpa using hlt)
    have hld : loadR (cfgR ro) h' 82 (elp w 7 i) = .ok (.agg a.cells) := hsw.load he ag82 sz82
    have w1 : IntKind.i64.wrap ((i : Int) + 1) = ((i + 1 : Nat) : Int) := by rw [w64 (by omega) (by omega)]; omega
    have El_ := E.l
    have hEl : AVal.agg [.int .u64 a.clock, .int .u16 a.r, .int .u32 a.n, .int .u16 a.er, .int .u32 a.en, .int .u8 a.b.toNat, .bool a.shown] = .agg a.cells := rfl
    rw [hEl] at El_
    simp -implicitDefEqProofs [hlt, hx, hld, E.x, El_]
    refine atom16_ev ?_
    rw [decide_eq_true rfl]
    simp -implicitDefEqProofs [hlt, hx, hld, E.x, El_, same_self, w1]
    exact .mk (m := n - 1) (by omega) (by rw [hI]; exact ⟨rfl, i + 1, by omega, by simp⟩)
  · have hshl := shownA_le A
    have hwk := Wk.text_ok (shownA A)
    simp -implicitDefEqProofs [hlt]
    refine text04_ev (by omega) ?_
    obtain ⟨wk, hwkk⟩ : ∃ wk, wk = Wk.text (shownA A) := ⟨_, rfl⟩
    rw [← hwkk] at hwk
    rw [← hwkk]
    simp -implicitDefEqProofs
    refine swalk_ev b1 (fun p q r u hw => ?_)
    rw [hsh, ← hwkk] at hw
    obtain ⟨hu, hs1, hs2⟩ := hwk
    simp -implicitDefEqProofs
    refine of03_ev hw.tr (by omega) (by omega) hw.ti (by omega) (by omega) ?_
    simp -implicitDefEqProofs
    refine swalk_ev b1 (fun p2 q2 r2 u2 hw2 => ?_)
    rw [hsh, ← hwkk] at hw2
    simp -implicitDefEqProofs
    refine of03_ev hw2.sr (by omega) (by omega) hw2.si (by omega) (by omega) ?_
    simp -implicitDefEqProofs [eqG_self, eqLG]
    refine sruns_ev b1 ?_
    rw [← hR]
    simp -implicitDefEqProofs [eqG_self, eqLG]
    refine Runs_ev ((W.old o13).m.sl) (by omega) hnum ?_
    have d3 : decide ((need A : Int) ≤ (R : Int)) = true := decide_eq_true (by omega)
    have d3' : need A ≤ R := hr3
    simp -implicitDefEqProofs [eqG_self, eqLG, d3, d3']
    exact hq h' o13
end
end Go.Proofs.YthblmlkkmebciaaDoor
set_option linter.all false
set_option maxRecDepth 100000
set_option maxHeartbeats 4000000
namespace Go.Proofs.YthblmlkkmebciaaDoor
open Go Go.RowKit Go.Proofs
/-! trees of anchors -/
abbrev KeyT := Nat × Nat × Nat
def klt (x y : KeyT) : Prop := x.1 < y.1 ∨ (x.1 = y.1 ∧ (x.2.1 < y.2.1 ∨ (x.2.1 = y.2.1 ∧ x.2.2 < y.2.2)))
instance (x y : KeyT) : Decidable (klt x y) := by unfold klt; infer_instance
theorem klt_irrefl (x : KeyT) : ¬ klt x x := by unfold klt; omega
theorem klt_trans {x y z : KeyT} (h : klt x y) (k : klt y z) : klt x z := by unfold klt at *; omega
theorem klt_asymm {x y : KeyT} (h : klt x y) : ¬ klt y x := by unfold klt at *; omega
theorem klt_total {x y : KeyT} (h : x ≠ y) : klt x y ∨ klt y x := by
  obtain ⟨a, b, c⟩ := x
  obtain ⟨d, e, f⟩ := y
  have : ¬ (a = d ∧ b = e ∧ c = f) := fun ⟨h1, h2, h3⟩ => h (by rw [h1, h2, h3])
  unfold klt; simp only; omega
def AtV.key (a : AtV) : KeyT := (a.clock, a.r, a.n)
abbrev IdT := Nat × Nat
def AtV.id (a : AtV) : IdT := (a.r, a.n)
/-- an atom, and what it is anchored at -/
structure TV where
  a : AtV
  an : IdT
def TV.key (t : TV) : KeyT := t.a.key
def TV.id (t : TV) : IdT := t.a.id
/-- those that are anchored at one, in their order -/
structure Kids (T : List TV) (x : IdT) (ks : List TV) : Prop where
  mem : ∀ t, t ∈ ks ↔ t ∈ T ∧ t.an = x
  ord : ks.Pairwise fun t u => klt u.key t.key
inductive OrdK (T : List TV) : List TV → List AtV → Prop
  | nil : OrdK T [] []
  | cons {c : TV} {cs ks : List TV} {L1 L2 : List AtV} : Kids T c.id ks → OrdK T ks L1 → OrdK T cs L2 → OrdK T (c :: cs) (c.a :: (L1 ++ L2))
theorem Kids.uniq {T : List TV} {x : IdT} {ks ks' : List TV} (h : Kids T x ks) (h' : Kids T x ks') : ks = ks' := by
  have key : ∀ (ks ks' : List TV), ks.Pairwise (fun t u => klt u.key t.key) → ks'.Pairwise (fun t u => klt u.key t.key) → (∀ t, t ∈ ks ↔ t ∈ ks') → ks = ks' := by
    intro ks
    induction ks with
    | nil =>
      intro ks' _ _ hm
      cases ks' with
      | nil => rfl
      | cons a l => have := (hm a).2 (by simp); cases this
    | cons a l ih =>
      intro ks' h1 h2 hm
      cases ks' with
      | nil => have := (hm a).1 (by simp); cases this
      | cons b l' =>
        rw [List.pairwise_cons] at h1 h2
        have hab : a = b := by
          rcases List.mem_cons.1 ((hm a).1 (by simp)) with e | e
          · exact e
          · rcases List.mem_cons.1 ((hm b).2 (by simp)) with e2 | e2
            · exact e2.symm
            · exact (klt_asymm (h1.1 b e2) (h2.1 a e)).elim
        subst hab
        congr 1
        refine ih l' h1.2 h2.2 (fun t => ?_)
        constructor
        · intro ht
          rcases List.mem_cons.1 ((hm t).1 (by simp [ht])) with e | e
          · subst e; exact (klt_irrefl _ (h1.1 _ ht)).elim
          · exact e
        · intro ht
          rcases List.mem_cons.1 ((hm t).2 (by simp [ht])) with e | e
          · subst e; exact (klt_irrefl _ (h2.1 _ ht)).elim
          · exact e
  exact key ks ks' h.ord h'.ord (fun t => by rw [h.mem, h'.mem])
theorem Kids.same {T T' : List TV} (e : ∀ t, t ∈ T ↔ t ∈ T') {x : IdT} {ks : List TV} (h : Kids T x ks) : Kids T' x ks := ⟨fun t => by rw [h.mem, e], h.ord⟩
theorem OrdK.same {T T' : List TV} (e : ∀ t, t ∈ T ↔ t ∈ T') {ks : List TV} {L : List AtV} (h : OrdK T ks L) : OrdK T' ks L := by
  induction h with
  | nil => exact .nil
  | cons hk _ _ ih1 ih2 => exact .cons (hk.same e) ih1 ih2
theorem OrdK.uniq {T : List TV} {ks : List TV} {L L' : List AtV} (h : OrdK T ks L) (h' : OrdK T ks L') : L = L' := by
  induction h generalizing L' with
  | nil => cases h'; rfl
  | cons hk h1 h2 ih1 ih2 =>
    cases h' with
    | cons hk' h1' h2' =>
      have := hk.uniq hk'
      subst this
      rw [ih1 h1', ih2 h2']
theorem OrdK.append {T : List TV} {ks ks' : List TV} {L L' : List AtV} (h : OrdK T ks L) (h' : OrdK T ks' L') : OrdK T (ks ++ ks') (L ++ L') := by
  induction h with
  | nil => exact h'
  | cons hk h1 h2 ih1 ih2 =>
    have := OrdK.cons hk h1 ih2
    simpa using this
theorem OrdK.split {T : List TV} : ∀ {ks ks' : List TV} {L : List AtV}, OrdK T (ks ++ ks') L → ∃ L1 L2, L = L1 ++ L2 ∧ OrdK T ks L1 ∧ OrdK T ks' L2
  | [], ks', L, h => ⟨[], L, rfl, .nil, h⟩
  | c :: ks, ks', L, h => by
    cases h with
    | cons hk h1 h2 =>
      obtain ⟨M1, M2, rfl, g1, g2⟩ := OrdK.split h2
      exact ⟨_, M2, by simp, .cons hk h1 g1, g2⟩
/-- each is anchored at the root, or at one with a lesser key -/
structure Tree (T : List TV) : Prop where
  names : ∀ t ∈ T, ∀ u ∈ T, t.id = u.id → t = u
  up : ∀ t ∈ T, t.an = (0, 0) ∨ ∃ u ∈ T, u.id = t.an ∧ klt u.key t.key
  noroot : ∀ t ∈ T, t.id ≠ (0, 0)
/-- all below a place have greater keys -/
theorem OrdK.low {T : List TV} (V : Tree T) {ks : List TV} {L : List AtV} (h : OrdK T ks L) (hT : ∀ c ∈ ks, c ∈ T) : ∀ x ∈ L, ∃ c ∈ ks, c.key = x.key ∨ klt c.key x.key := by
  induction h with
  | nil => intro x hx; cases hx
  | @cons c cs ks L1 L2 hk h1 h2 ih1 ih2 =>
    intro x hx
    rcases List.mem_cons.1 hx with rfl | hx
    · exact ⟨c, by simp, .inl rfl⟩
    · rcases List.mem_append.1 hx with hx | hx
      · obtain ⟨d, hd, hdk⟩ := ih1 (fun d hd => ((hk.mem d).1 hd).1) x hx
        have hdT := (hk.mem d).1 hd
        refine ⟨c, by simp, .inr ?_⟩
        have hcd : klt c.key d.key := by
          rcases V.up d hdT.1 with e | ⟨u, hu, e1, e2⟩
          · rw [hdT.2] at e; exact (V.noroot c (hT c (by simp)) e).elim
          · have := V.names u hu c (hT c (by simp)) (by rw [e1, hdT.2])
            rw [← this]; exact e2
        rcases hdk with e | e
        · rw [← e]; exact hcd
        · exact klt_trans hcd e
      · obtain ⟨d, hd, hdk⟩ := ih2 (fun d hd => hT d (by simp [hd])) x hx
        exact ⟨d, by simp [hd], hdk⟩
/-- what has nothing to do with a new one stays -/
theorem OrdK.away {T : List TV} {n : TV} {ks : List TV} {L : List AtV} (h : OrdK T ks L) (hn : ∀ x ∈ L, x.id ≠ n.an) : OrdK (T ++ [n]) ks L := by
  induction h with
  | nil => exact .nil
  | @cons c cs ks L1 L2 hk h1 h2 ih1 ih2 =>
    refine .cons ⟨fun t => ?_, hk.ord⟩ (ih1 (fun x hx => hn x (by simp [hx]))) (ih2 (fun x hx => hn x (by simp [hx])))
    rw [hk.mem, List.mem_append, List.mem_singleton]
    constructor
    · rintro ⟨h1, h2⟩; exact ⟨.inl h1, h2⟩
    · rintro ⟨h1 | rfl, h2⟩
      · exact ⟨h1, h2⟩
      · exact (hn c.a (by simp) h2.symm).elim
/-- where one comes among others -/
def insK (n : AtV) (Y : List AtV) : List AtV := Y.takeWhile (fun x => decide (klt n.key x.key)) ++ n :: Y.dropWhile (fun x => decide (klt n.key x.key))
theorem insK_split {n : AtV} {H R : List AtV} (h1 : ∀ x ∈ H, klt n.key x.key) (h2 : ∀ x l, R = x :: l → ¬ klt n.key x.key) : insK n (H ++ R) = H ++ n :: R := by
  unfold insK
  induction H with
  | nil =>
    cases R with
    | nil => rfl
    | cons x l => simp [h2 x l rfl]
  | cons x H ih =>
    have := ih (fun y hy => h1 y (by simp [hy]))
    simp only [List.cons_append, List.takeWhile_cons, List.dropWhile_cons, h1 x (by simp), decide_true, if_true] at this ⊢
    rw [this]
/-- a sorted row, parted at a key -/
theorem kids_part {n : TV} : ∀ {ks : List TV}, ks.Pairwise (fun t u => klt u.key t.key) → (∀ t ∈ ks, t.key ≠ n.key) → ∃ hi lo, ks = hi ++ lo ∧ (∀ t ∈ hi, klt n.key t.key) ∧ (∀ t ∈ lo, klt t.key n.key)
  | [], _, _ => ⟨[], [], rfl, fun t h => (by cases h), fun t h => (by cases h)⟩
  | a :: ks, h, hn => by
    rw [List.pairwise_cons] at h
    rcases klt_total (hn a (by simp)) with e | e
    · refine ⟨[], a :: ks, rfl, fun t h => (by cases h), fun t ht => ?_⟩
      rcases List.mem_cons.1 ht with rfl | ht
      · exact e
      · exact klt_trans (h.1 t ht) e
    · obtain ⟨hi, lo, rfl, g1, g2⟩ := kids_part h.2 (fun t ht => hn t (by simp [ht]))
      refine ⟨a :: hi, lo, rfl, fun t ht => ?_, g2⟩
      rcases List.mem_cons.1 ht with rfl | ht
      · exact e
      · exact g1 t ht
theorem OrdK.head {T : List TV} {ks : List TV} {L : List AtV} (h : OrdK T ks L) : ∀ x l, L = x :: l → ∃ c cs, ks = c :: cs ∧ c.a = x := by
  intro x l e
  cases h with
  | nil => cases e
  | cons hk h1 h2 => cases e; exact ⟨_, _, rfl, rfl⟩
/-- a new one, anchored at the one whose kids these are -/
theorem OrdK.kid {T : List TV} (V : Tree T) {n : TV} {x : IdT} {ks : List TV} {L : List AtV} (hk : Kids T x ks) (h : OrdK T ks L) (hx : n.an = x) (hne : ∀ t ∈ T, t.key ≠ n.key) (hnm : ∀ t ∈ T, t.an ≠ n.id) (hnn : n.an ≠ n.id) (haway : ∀ y ∈ L, y.id ≠ n.an) :
    ∃ ks' H R, Kids (T ++ [n]) x ks' ∧ L = H ++ R ∧ OrdK (T ++ [n]) ks' (H ++ n.a :: R) ∧ (∀ y ∈ H, klt n.key y.key) ∧ ∀ y l, R = y :: l → ¬ klt n.key y.key := by
  obtain ⟨hi, lo, rfl, g1, g2⟩ := kids_part hk.ord (fun t ht => hne t ((hk.mem t).1 ht).1)
  obtain ⟨H, R, rfl, o1, o2⟩ := OrdK.split h
  refine ⟨hi ++ n :: lo, H, R, ⟨fun t => ?_, ?_⟩, rfl, ?_, fun y hy => ?_, fun y l e => ?_⟩
  · have := hk.mem t
    simp only [List.mem_append, List.mem_cons, List.mem_singleton, List.not_mem_nil, or_false] at this ⊢
    constructor
    · rintro (h1 | rfl | h1)
      · have := this.1 (.inl h1); exact ⟨.inl this.1, this.2⟩
      · exact ⟨.inr rfl, hx⟩
      · have := this.1 (.inr h1); exact ⟨.inl this.1, this.2⟩
    · rintro ⟨h1 | rfl, h2⟩
      · rcases this.2 ⟨h1, h2⟩ with h3 | h3
        · exact .inl h3
        · exact .inr (.inr h3)
      · exact .inr (.inl rfl)
  · have ho := hk.ord
    rw [List.pairwise_append] at ho ⊢
    rw [List.pairwise_cons]
    refine ⟨ho.1, ⟨fun t ht => g2 t ht, ho.2.1⟩, fun t ht u hu => ?_⟩
    rcases List.mem_cons.1 hu with rfl | hu
    · exact g1 t ht
    · exact ho.2.2 t ht u hu
  · refine OrdK.append (o1.away (fun y hy => haway y (by simp [hy]))) ?_
    have := OrdK.cons (T := T ++ [n]) (c := n) (ks := []) (L1 := []) ⟨fun t => ?_, List.Pairwise.nil⟩ .nil (o2.away (n := n) (fun y hy => haway y (by simp [hy])))
    · exact this
    · simp only [List.not_mem_nil, List.mem_append, List.mem_singleton, false_iff, not_and]
      rintro (h1 | rfl) h2
      · exact hnm t h1 h2
      · exact hnn h2
  · obtain ⟨c, hc, e⟩ := o1.low V (fun c hc => ((hk.mem c).1 (by simp [hc])).1) y hy
    have := g1 c hc
    rcases e with e | e
    · rw [← e]; exact this
    · exact klt_trans this e
  · obtain ⟨c, cs, rfl, e2⟩ := o2.head y l e
    have := g2 c (by simp)
    rw [← e2]
    exact klt_asymm this
/-- a new one among others, anchored at one of them -/
theorem OrdK.ins {T : List TV} (V : Tree T) {n : TV} (hne : ∀ t ∈ T, t.key ≠ n.key) (hnm : ∀ t ∈ T, t.an ≠ n.id) (hnn : n.an ≠ n.id) {ks : List TV} {L : List AtV} (h : OrdK T ks L) (hT : ∀ c ∈ ks, c ∈ T) (hord : ks.Pairwise fun t u => klt u.key t.key) (hd : (L.map AtV.id).Nodup) :
    ∀ X a Y, L = X ++ a :: Y → a.id = n.an → klt a.key n.key → ∃ H R, Y = H ++ R ∧ OrdK (T ++ [n]) ks (X ++ a :: (H ++ n.a :: R)) ∧ (∀ y ∈ H, klt n.key y.key) ∧ ∀ y l, R = y :: l → ¬ klt n.key y.key := by
  induction h with
  | nil => intro X a Y e; cases X <;> cases e
  | @cons c cs ks L1 L2 hk h1 h2 ih1 ih2 =>
    intro X a Y e hid hlt
    rw [List.pairwise_cons] at hord
    have hd' := hd
    rw [List.map_cons, List.map_append, List.nodup_cons, List.nodup_append] at hd
    obtain ⟨d1, d2, d3, d4⟩ := hd
    have hcT := hT c (by simp)
    have hkT : ∀ d ∈ ks, d ∈ T := fun d hd => ((hk.mem d).1 hd).1
    -- what stands behind this tree has a lesser key
    have after : ∀ y l, L2 = y :: l → klt y.key c.key := fun y l e => by
      obtain ⟨d, ds, rfl, e2⟩ := h2.head y l e
      rw [← e2]; exact hord.1 d (by simp)
    -- the keys of this tree
    have lowc : ∀ y ∈ L1, klt c.key y.key := fun y hy => by
      obtain ⟨d, hd, hdk⟩ := h1.low V hkT y hy
      have hdT := (hk.mem d).1 hd
      have hcd : klt c.key d.key := by
        rcases V.up d hdT.1 with e | ⟨u, hu, e1, e2⟩
        · rw [hdT.2] at e; exact (V.noroot c hcT e).elim
        · have := V.names u hu c hcT (by rw [e1, hdT.2])
          rw [← this]; exact e2
      rcases hdk with e | e
      · rw [← e]; exact hcd
      · exact klt_trans hcd e
    -- a tree that is changed, and what stands behind it
    have glue : ∀ (Y1 H R : List AtV), Y1 = H ++ R → (∀ y ∈ H, klt n.key y.key) → (∀ y l, R = y :: l → ¬ klt n.key y.key) → (klt c.key n.key) → ∃ H' R', Y1 ++ L2 = H' ++ R' ∧ H ++ n.a :: R ++ L2 = H' ++ n.a :: R' ∧ (∀ y ∈ H', klt n.key y.key) ∧ ∀ y l, R' = y :: l → ¬ klt n.key y.key := by
      intro Y1 H R e1 g1 g2 g3
      refine ⟨H, R ++ L2, by rw [e1]; simp, by simp, g1, fun y l e => ?_⟩
      cases R with
      | nil => exact klt_asymm (klt_trans (after y l e) g3)
      | cons z R => cases e; exact g2 _ _ rfl
    cases X with
    | nil =>
      simp only [List.nil_append, List.cons.injEq] at e
      obtain ⟨rfl, rfl⟩ := e
      have haw1 : ∀ y ∈ L1, y.id ≠ n.an := fun y hy e => d1 (by rw [List.mem_append]; left; rw [hid, ← e]; exact List.mem_map.2 ⟨y, hy, rfl⟩)
      have haw2 : ∀ y ∈ L2, y.id ≠ n.an := fun y hy e => d1 (by rw [List.mem_append]; right; rw [hid, ← e]; exact List.mem_map.2 ⟨y, hy, rfl⟩)
      obtain ⟨ks', H, R, k1, k2, k3, k4, k5⟩ := OrdK.kid V hk h1 hid.symm hne hnm hnn haw1
      obtain ⟨H', R', q1, q2, q3, q4⟩ := glue L1 H R k2 k4 k5 hlt
      refine ⟨H', R', q1, ?_, q3, q4⟩
      have := OrdK.cons (T := T ++ [n]) k1 k3 (h2.away haw2)
      rw [q2] at this
      simpa using this
    | cons b X =>
      simp only [List.cons_append, List.cons.injEq] at e
      obtain ⟨rfl, e⟩ := e
      have hca : c.id ≠ n.an := fun e2 => by
        apply d1
        rw [List.mem_append]
        have hm : a ∈ L1 ++ L2 := by rw [e]; simp
        have h3 : c.a.id = a.id := by rw [hid]; exact e2
        rw [h3]
        rcases List.mem_append.1 hm with h4 | h4
        · exact .inl (List.mem_map.2 ⟨a, h4, rfl⟩)
        · exact .inr (List.mem_map.2 ⟨a, h4, rfl⟩)
      have hk' : Kids (T ++ [n]) c.id ks := ⟨fun t => by
        rw [hk.mem, List.mem_append, List.mem_singleton]
        constructor
        · rintro ⟨h1, h2⟩; exact ⟨.inl h1, h2⟩
        · rintro ⟨h1 | rfl, h2⟩
          · exact ⟨h1, h2⟩
          · exact (hca h2.symm).elim, hk.ord⟩
      rw [List.append_eq_append_iff] at e
      rcases e with ⟨us, e1, e2⟩ | ⟨bs, e1, e2⟩
      · -- in what stands behind
        have hin : a ∈ L2 := by rw [e2]; simp
        have haw1 : ∀ y ∈ L1, y.id ≠ n.an := fun y hy e3 => d4 y.id (List.mem_map.2 ⟨y, hy, rfl⟩) a.id (List.mem_map.2 ⟨a, hin, rfl⟩) (by rw [e3, hid])
        obtain ⟨H, R, k1, k2, k3, k4⟩ := ih2 (fun d hd => hT d (by simp [hd])) hord.2 d3 us a Y e2 hid hlt
        refine ⟨H, R, k1, ?_, k3, k4⟩
        have := OrdK.cons hk' (h1.away haw1) k2
        rw [e1]
        simpa using this
      · -- in this tree, or right behind it
        cases bs with
        | nil =>
          simp only [List.append_nil, List.nil_append] at e1 e2
          have hin : a ∈ L2 := by rw [← e2]; simp
          have haw1 : ∀ y ∈ L1, y.id ≠ n.an := fun y hy e3 => d4 y.id (List.mem_map.2 ⟨y, hy, rfl⟩) a.id (List.mem_map.2 ⟨a, hin, rfl⟩) (by rw [e3, hid])
          obtain ⟨H, R, k1, k2, k3, k4⟩ := ih2 (fun d hd => hT d (by simp [hd])) hord.2 d3 [] a Y (by rw [← e2]; rfl) hid hlt
          refine ⟨H, R, k1, ?_, k3, k4⟩
          have := OrdK.cons hk' (h1.away haw1) k2
          rw [← e1]
          simpa using this
        | cons z bs =>
          simp only [List.cons_append, List.cons.injEq] at e2
          obtain ⟨rfl, e2⟩ := e2
          have hin : a ∈ L1 := by rw [e1]; simp
          have haw2 : ∀ y ∈ L2, y.id ≠ n.an := fun y hy e3 => d4 a.id (List.mem_map.2 ⟨a, hin, rfl⟩) y.id (List.mem_map.2 ⟨y, hy, rfl⟩) (by rw [e3, hid])
          obtain ⟨H, R, k1, k2, k3, k4⟩ := ih1 hkT hk.ord d2 X a bs e1 hid hlt
          obtain ⟨H', R', q1, q2, q3, q4⟩ := glue bs H R k1 k3 k4 (klt_trans (lowc a hin) hlt)
          refine ⟨H', R', by rw [e2, q1], ?_, q3, q4⟩
          have := OrdK.cons hk' k2 (h2.away haw2)
          have e5 : X ++ a :: (H ++ n.a :: R) ++ L2 = X ++ a :: (H' ++ n.a :: R') := by rw [← q2]; simp
          rw [e5] at this
          simpa using this
/-- a row that has grown out of a tree -/
structure Grown (T : List TV) (A : List AtV) : Prop where
  tree : Tree T
  ord : ∃ ks, Kids T (0, 0) ks ∧ OrdK T ks A
  mem : ∀ x, x ∈ A ↔ ∃ t ∈ T, t.a = x
  nd : (A.map AtV.id).Nodup
theorem Grown.nil : Grown [] [] := ⟨⟨fun t h => (by cases h), fun t h => (by cases h), fun t h => (by cases h)⟩, ⟨[], ⟨fun t => by simp, List.Pairwise.nil⟩, .nil⟩, fun x => by simp, List.nodup_nil⟩
/-- behind how many an anchor is -/
def posT (A : List AtV) (x : IdT) (p : Nat) : Prop := (x = (0, 0) ∧ p = 0) ∨ ∃ i a, A[i]? = some a ∧ a.id = x ∧ p = i + 1
theorem key_of_id {a b : AtV} (h : a.id ≠ b.id) : a.key ≠ b.key := by
  intro e
  unfold AtV.key at e
  unfold AtV.id at h
  simp only [Prod.mk.injEq] at e
  exact h (by rw [e.2.1, e.2.2])
theorem Grown.add {T : List TV} {A : List AtV} (G : Grown T A) {n : TV} {p : Nat} (hp : posT A n.an p) (hup : n.an = (0, 0) ∨ ∃ u ∈ T, u.id = n.an ∧ klt u.key n.key) (hfr : ∀ t ∈ T, t.id ≠ n.id) (h0 : n.id ≠ (0, 0)) :
    ∃ H R, A.drop p = H ++ R ∧ Grown (T ++ [n]) (A.take p ++ (H ++ n.a :: R)) ∧ (∀ y ∈ H, klt n.key y.key) ∧ ∀ y l, R = y :: l → ¬ klt n.key y.key := by
  have hne : ∀ t ∈ T, t.key ≠ n.key := fun t ht => key_of_id (hfr t ht)
  have hnm : ∀ t ∈ T, t.an ≠ n.id := fun t ht e => by
    rcases G.tree.up t ht with e2 | ⟨u, hu, e2, _⟩
    · exact h0 (by rw [← e, e2])
    · exact hfr u hu (by rw [e2, e])
  have hnn : n.an ≠ n.id := fun e => by
    rcases hup with e2 | ⟨u, hu, e2, _⟩
    · exact h0 (by rw [← e, e2])
    · exact hfr u hu (by rw [e2, e])
  have tree' : Tree (T ++ [n]) := by
    refine ⟨fun t ht u hu e => ?_, fun t ht => ?_, fun t ht => ?_⟩
    · rcases List.mem_append.1 ht with h1 | h1 <;> rcases List.mem_append.1 hu with h2 | h2
      · exact G.tree.names t h1 u h2 e
      · rw [List.mem_singleton] at h2; subst h2; exact (hfr t h1 e).elim
      · rw [List.mem_singleton] at h1; subst h1; exact (hfr u h2 e.symm).elim
      · rw [List.mem_singleton] at h1 h2; rw [h1, h2]
    · rcases List.mem_append.1 ht with h1 | h1
      · rcases G.tree.up t h1 with e2 | ⟨u, hu, e2, e3⟩
        · exact .inl e2
        · exact .inr ⟨u, by simp [hu], e2, e3⟩
      · rw [List.mem_singleton] at h1; subst h1
        rcases hup with e2 | ⟨u, hu, e2, e3⟩
        · exact .inl e2
        · exact .inr ⟨u, by simp [hu], e2, e3⟩
    · rcases List.mem_append.1 ht with h1 | h1
      · exact G.tree.noroot t h1
      · rw [List.mem_singleton] at h1; subst h1; exact h0
  have hfa : ∀ y ∈ A, y.id ≠ n.id := fun y hy => by
    obtain ⟨t, ht, rfl⟩ := (G.mem y).1 hy; exact hfr t ht
  -- what both cases have in common
  have fin : ∀ (B H R : List AtV), A = B ++ (H ++ R) → (∃ ks, Kids (T ++ [n]) (0, 0) ks ∧ OrdK (T ++ [n]) ks (B ++ (H ++ n.a :: R))) → Grown (T ++ [n]) (B ++ (H ++ n.a :: R)) := by
    intro B H R e ho
    have hnd := G.nd
    rw [e] at hnd
    refine ⟨tree', ho, fun x => ?_, ?_⟩
    · have := G.mem x
      rw [e] at this
      simp only [List.mem_append, List.mem_cons, List.mem_singleton] at this ⊢
      constructor
      · rintro (h | h | h | h)
        · obtain ⟨t, ht, e2⟩ := this.1 (.inl h); exact ⟨t, .inl ht, e2⟩
        · obtain ⟨t, ht, e2⟩ := this.1 (.inr (.inl h)); exact ⟨t, .inl ht, e2⟩
        · exact ⟨n, .inr (.inl rfl), h.symm⟩
        · obtain ⟨t, ht, e2⟩ := this.1 (.inr (.inr h)); exact ⟨t, .inl ht, e2⟩
      · rintro ⟨t, h | h, e2⟩
        · rcases this.2 ⟨t, h, e2⟩ with h | h | h
          · exact .inl h
          · exact .inr (.inl h)
          · exact .inr (.inr (.inr h))
        · rcases h with h | h
          · subst h; exact .inr (.inr (.inl e2.symm))
          · cases h
    · have hfb : ∀ y ∈ B ++ (H ++ R), y.id ≠ n.id := by rw [← e]; exact hfa
      rw [← List.append_assoc, List.map_append, List.map_cons, List.nodup_append, List.nodup_cons]
      rw [← List.append_assoc, List.map_append, List.nodup_append] at hnd
      refine ⟨hnd.1, ⟨fun hm => ?_, hnd.2.1⟩, fun x hx y hy => ?_⟩
      · obtain ⟨y, hy, e2⟩ := List.mem_map.1 hm
        exact hfb y (by simp [hy]) e2
      · rcases List.mem_cons.1 hy with rfl | hy
        · obtain ⟨z, hz, rfl⟩ := List.mem_map.1 hx
          exact hfb z (by rcases List.mem_append.1 hz with h | h <;> simp [h])
        · exact hnd.2.2 x hx y hy
  obtain ⟨ks, hk, ho⟩ := G.ord
  have hkT : ∀ d ∈ ks, d ∈ T := fun d hd => ((hk.mem d).1 hd).1
  rcases hp with ⟨e1, rfl⟩ | ⟨i, a, ha, hid, rfl⟩
  · have haw : ∀ y ∈ A, y.id ≠ n.an := fun y hy => by
      obtain ⟨t, ht, rfl⟩ := (G.mem y).1 hy
      rw [e1]; exact G.tree.noroot t ht
    obtain ⟨ks', H, R, k1, k2, k3, k4, k5⟩ := OrdK.kid G.tree hk ho e1 hne hnm hnn haw
    exact ⟨H, R, by rw [List.drop_zero]; exact k2, by rw [List.take_zero]; exact fin [] H R k2 ⟨ks', k1, k3⟩, k4, k5⟩
  · have hsplit : A = A.take i ++ a :: A.drop (i + 1) := by
      obtain ⟨l, e⟩ := List.getElem?_eq_some_iff.1 ha
      rw [← e, ← List.drop_eq_getElem_cons l]
      exact (List.take_append_drop i A).symm
    have hlt : klt a.key n.key := by
      have hm : a ∈ A := List.mem_of_getElem? ha
      obtain ⟨t, ht, e⟩ := (G.mem a).1 hm
      rcases hup with e2 | ⟨u, hu, e2, e3⟩
      · exact (G.tree.noroot t ht (by unfold TV.id; rw [e, hid, e2])).elim
      · have := G.tree.names t ht u hu (by unfold TV.id at e2 ⊢; rw [e, hid, e2])
        rw [← e]; rw [← this] at e3; exact e3
    obtain ⟨H, R, k1, k2, k3, k4⟩ := OrdK.ins G.tree hne hnm hnn ho hkT hk.ord G.nd _ a _ hsplit hid hlt
    have ht1 : A.take (i + 1) = A.take i ++ [a] := by
      obtain ⟨l, e⟩ := List.getElem?_eq_some_iff.1 ha
      rw [List.take_succ_eq_append_getElem l, e]
    refine ⟨H, R, k1, ?_, k3, k4⟩
    rw [ht1]
    have hk' : Kids (T ++ [n]) (0, 0) ks := ⟨fun t => by
      rw [hk.mem, List.mem_append, List.mem_singleton]
      constructor
      · rintro ⟨h1, h2⟩; exact ⟨.inl h1, h2⟩
      · rintro ⟨h1 | rfl, h2⟩
        · exact ⟨h1, h2⟩
        · exfalso
          have hm : a ∈ A := List.mem_of_getElem? ha
          obtain ⟨u, hu, e⟩ := (G.mem a).1 hm
          exact G.tree.noroot u hu (by unfold TV.id; rw [e, hid, h2]), hk.ord⟩
    refine fin (A.take i ++ [a]) H R (by rw [← k1, List.append_assoc]; exact hsplit) ⟨ks, hk', ?_⟩
    simpa using k2
/-- atoms, each anchored at the one ahead -/
def tvs : IdT → List AtV → List TV
  | _, [] => []
  | x, b :: bs => ⟨b, x⟩ :: tvs b.id bs
theorem tvs_atoms : ∀ (bs : List AtV) (x : IdT), (tvs x bs).map (·.a) = bs
  | [], _ => rfl
  | b :: bs, x => by simp [tvs, tvs_atoms bs]
/-- atoms in a row: each has a greater key than the one ahead -/
def Row : AtV → List AtV → Prop
  | _, [] => True
  | a, b :: bs => klt a.key b.key ∧ Row b bs
theorem Grown.chain : ∀ (bs : List AtV) {T : List TV} {P R : List AtV} {a : AtV}, Grown T (P ++ a :: R) → Row a bs → (∀ y l, R = y :: l → ¬ klt a.key y.key) → (∀ b ∈ bs, ∀ t ∈ T, t.id ≠ b.id) → (bs.map AtV.id).Nodup → (∀ b ∈ bs, b.id ≠ (0, 0)) → Grown (T ++ tvs a.id bs) (P ++ a :: (bs ++ R))
  | [], T, P, R, a, G, _, _, _, _, _ => by simpa [tvs] using G
  | b :: bs, T, P, R, a, G, hr, hR, hfr, hnd, h0 => by
    have hget : (P ++ a :: R)[P.length]? = some a := by simp
    obtain ⟨u, hu, e⟩ := (G.mem a).1 (by simp)
    obtain ⟨H, R', k1, k2, k3, k4⟩ := G.add (n := ⟨b, a.id⟩) (p := P.length + 1) (.inr ⟨P.length, a, hget, rfl, rfl⟩) (.inr ⟨u, hu, by unfold TV.id; rw [e], by unfold TV.key; rw [e]; exact hr.1⟩) (hfr b (by simp)) (h0 b (by simp))
    have hd : (P ++ a :: R).drop (P.length + 1) = R := by simp
    have htk : (P ++ a :: R).take (P.length + 1) = P ++ [a] := by rw [List.take_length_add_append]; rfl
    rw [hd] at k1
    rw [htk] at k2
    have hH : H = [] := by
      cases H with
      | nil => rfl
      | cons y H =>
        exfalso
        have h1 := k3 y (by simp)
        rw [k1] at hR
        exact hR y _ rfl (klt_trans hr.1 h1)
    subst hH
    simp only [List.nil_append] at k1 k2
    subst k1
    rw [List.map_cons, List.nodup_cons] at hnd
    have ih := Grown.chain bs (T := T ++ [⟨b, a.id⟩]) (P := P ++ [a]) (R := R) (a := b) (by simpa using k2) hr.2 (fun y l e => k4 y l e) (fun c hc t ht => by
      rcases List.mem_append.1 ht with h | h
      · exact hfr c (by simp [hc]) t h
      · rw [List.mem_singleton] at h; subst h
        intro e; exact hnd.1 (List.mem_map.2 ⟨c, hc, e.symm⟩)) hnd.2 (fun c hc => h0 c (by simp [hc]))
    simpa [tvs] using ih
theorem Grown.run {T : List TV} {A : List AtV} (G : Grown T A) {x : IdT} {b : AtV} {bs : List AtV} {p : Nat} (hp : posT A x p) (hup : x = (0, 0) ∨ ∃ u ∈ T, u.id = x ∧ klt u.key b.key) (hr : Row b bs) (hfr : ∀ c ∈ b :: bs, ∀ t ∈ T, t.id ≠ c.id) (hnd : ((b :: bs).map AtV.id).Nodup) (h0 : ∀ c ∈ b :: bs, c.id ≠ (0, 0)) :
    ∃ H R, A.drop p = H ++ R ∧ Grown (T ++ tvs x (b :: bs)) (A.take p ++ (H ++ (b :: bs ++ R))) ∧ (∀ y ∈ H, klt b.key y.key) ∧ ∀ y l, R = y :: l → ¬ klt b.key y.key := by
  obtain ⟨H, R, k1, k2, k3, k4⟩ := G.add (n := ⟨b, x⟩) hp hup (hfr b (by simp)) (h0 b (by simp))
  rw [List.map_cons, List.nodup_cons] at hnd
  have := Grown.chain bs (T := T ++ [⟨b, x⟩]) (P := A.take p ++ H) (R := R) (a := b) (by simpa using k2) hr k4 (fun c hc t ht => by
      rcases List.mem_append.1 ht with h | h
      · exact hfr c (by simp [hc]) t h
      · rw [List.mem_singleton] at h; subst h
        intro e; exact hnd.1 (List.mem_map.2 ⟨c, hc, e.symm⟩)) hnd.2 (fun c hc => h0 c (by simp [hc]))
  exact ⟨H, R, k1, by simpa [tvs] using this, k3, k4⟩
/-- parts of a row at a key are these alone -/
theorem part_uniq {k : KeyT} : ∀ {H R H' R' : List AtV}, H ++ R = H' ++ R' → (∀ y ∈ H, klt k y.key) → (∀ y l, R = y :: l → ¬ klt k y.key) → (∀ y ∈ H', klt k y.key) → (∀ y l, R' = y :: l → ¬ klt k y.key) → H = H' ∧ R = R'
  | [], R, [], R', e, _, _, _, _ => ⟨rfl, e⟩
  | [], R, y :: H', R', e, _, h2, h3, _ => (h2 y _ e (h3 y (by simp))).elim
  | y :: H, R, [], R', e, h1, _, _, h4 => (h4 y _ e.symm (h1 y (by simp))).elim
  | y :: H, R, z :: H', R', e, h1, h2, h3, h4 => by
    simp only [List.cons_append, List.cons.injEq] at e
    obtain ⟨rfl, e⟩ := e
    obtain ⟨rfl, rfl⟩ := part_uniq e (fun y hy => h1 y (by simp [hy])) h2 (fun y hy => h3 y (by simp [hy])) h4
    exact ⟨rfl, rfl⟩
theorem atF_row (c r : Nat) (sh : Bool) : ∀ (s : Str) (n er en : Nat) (b : UInt8), Row ⟨c, r, n, er, en, b, sh⟩ (atF c r sh (n + 1) (er) (en + 1) s)
  | [], _, _, _, _ => trivial
  | d :: s, n, er, en, b => ⟨by unfold klt AtV.key; simp, atF_row c r sh s (n + 1) er (en + 1) d⟩
theorem atF_ids (c r : Nat) (sh : Bool) : ∀ (s : Str) (n er en : Nat), ((atF c r sh n er en s).map AtV.id).Nodup ∧ ∀ x ∈ atF c r sh n er en s, n ≤ x.n
  | [], _, _, _ => ⟨List.nodup_nil, fun x h => (by cases h)⟩
  | d :: s, n, er, en => by
    obtain ⟨h1, h2⟩ := atF_ids c r sh s (n + 1) er (en + 1)
    simp only [atF, List.map_cons, List.nodup_cons]
    refine ⟨⟨fun hm => ?_, h1⟩, fun x hx => ?_⟩
    · obtain ⟨y, hy, e⟩ := List.mem_map.1 hm
      have := h2 y hy
      unfold AtV.id at e
      simp only [Prod.mk.injEq] at e
      omega
    · rcases List.mem_cons.1 hx with rfl | hx
      · exact Nat.le_refl _
      · have := h2 x hx; omega
end Go.Proofs.YthblmlkkmebciaaDoor
set_option linter.all false
set_option maxRecDepth 100000
set_option maxHeartbeats 4000000
namespace Go.Proofs.YthblmlkkmebciaaDoor
open Go Go.RowKit Go.Proofs
section
variable {ro : Nat → Option (List AVal)}
theorem nan_u64_ev {h : AHeap} {a : Nat} {Q : AVal → AHeap → Prop} (hq : Q (.bool false) h) : Ev (cfgR ro) 116 [.int .u64 a] h Q := by
  refine Ev.wp rfl rfl Tryd.func116 rfl ?_
  simp -implicitDefEqProofs [Tryd.f116]
  exact hq
theorem cmp_u64_ev {h : AHeap} {a b : Nat} {Q : AVal → AHeap → Prop} (hq : Q (.int .i64 (cmpN a b)) h) : Ev (cfgR ro) 94 [.int .u64 a, .int .u64 b] h Q := by
  refine Ev.wp rfl rfl Tryd.func94 rfl ?_
  simp -implicitDefEqProofs [Tryd.f94]
  refine nan_u64_ev ?_
  simp -implicitDefEqProofs
  refine nan_u64_ev ?_
  unfold cmpN at hq
  by_cases c1 : a < b
  · rw [if_pos c1] at hq
    simp -implicitDefEqProofs [c1]
    exact hq
  · rw [if_neg c1] at hq
    by_cases c2 : b < a
    · rw [if_pos c2] at hq
      simp -implicitDefEqProofs [c1, c2]
      exact hq
    · rw [if_neg c2] at hq
      simp -implicitDefEqProofs [c1, c2]
      exact hq
theorem nan_u16_ev {h : AHeap} {a : Nat} {Q : AVal → AHeap → Prop} (hq : Q (.bool false) h) : Ev (cfgR ro) 117 [.int .u16 a] h Q := by
  refine Ev.wp rfl rfl Tryd.func117 rfl ?_
  simp -implicitDefEqProofs [Tryd.f117]
  exact hq
theorem cmp_u16_ev {h : AHeap} {a b : Nat} {Q : AVal → AHeap → Prop} (hq : Q (.int .i64 (cmpN a b)) h) : Ev (cfgR ro) 95 [.int .u16 a, .int .u16 b] h Q := by
  refine Ev.wp rfl rfl Tryd.func95 rfl ?_
  simp -implicitDefEqProofs [Tryd.f95]
  refine nan_u16_ev ?_
  simp -implicitDefEqProofs
  refine nan_u16_ev ?_
  unfold cmpN at hq
  by_cases c1 : a < b
  · rw [if_pos c1] at hq
    simp -implicitDefEqProofs [c1]
    exact hq
  · rw [if_neg c1] at hq
    by_cases c2 : b < a
    · rw [if_pos c2] at hq
      simp -implicitDefEqProofs [c1, c2]
      exact hq
    · rw [if_neg c2] at hq
      simp -implicitDefEqProofs [c1, c2]
      exact hq
/-- the first that is not 0 -/
def orI : List Int → Int
  | [] => 0
  | x :: l => if x ≠ 0 then x else orI l
theorem or_ev {h : AHeap} {v : AVal} {l : List Int} (hs : Sl (cfgR ro) h 1 v (l.map fun x => [.int .i64 x])) (hl : l.length < 2 ^ 60) {Q : AVal → AHeap → Prop} (hq : Q (.int .i64 (orI l)) h) : Ev (cfgR ro) 93 [v] h Q := by
  refine Ev.wp rfl rfl Tryd.func93 rfl ?_
  have hL : lenR (cfgR ro) h 74 v = .ok (.int .i64 (l.length : Nat)) := by have := hs.lenR (t := 74) un74; simpa using this
  simp -implicitDefEqProofs [Tryd.f93, hL]
  obtain ⟨I, hI⟩ : ∃ I : Nat → List AVal → AHeap → Prop, I = fun m env h' => h' = h ∧ ∃ i : Nat, i + m = l.length ∧ orI l = orI (l.drop i) ∧
    env = (.dead :: .dead :: .dead :: .int .i64 0 :: .dead :: .dead :: v :: .int .i64 (l.length : Nat) :: .int .i64 (i : Nat) :: .dead :: .dead :: .dead :: .dead :: .dead :: .dead :: .dead :: .dead :: .dead :: []) := ⟨_, rfl⟩
  refine loop_of I ?_ l.length (by rw [hI]; exact ⟨rfl, 0, by omega, rfl, rfl⟩)
  intro m env h' hi
  rw [hI] at hi
  obtain ⟨rfl, i, him, hno, rfl⟩ := hi
  by_cases hlt : i < l.length
  · obtain ⟨x, hx⟩ : ∃ x, l[i]'hlt = x := ⟨_, rfl⟩
    have he : (l.map fun x => [AVal.int .i64 x])[i]? = some [.int .i64 x] := by rw [List.getElem?_map, List.getElem?_eq_getElem hlt, hx]; rfl
    have hix : indexAddrR Tryd.prog 74 v (.int .i64 (i : Nat)) = .ok (elp v 1 i) := hs.idx un74 sz3 (by simpa using hlt)
    have hld : loadR (cfgR ro) h' 3 (elp v 1 i) = .ok (.int .i64 x) := hs.load1 he rfl ag3
    have w1 : IntKind.i64.wrap ((i : Int) + 1) = ((i + 1 : Nat) : Int) := by rw [w64 (by omega) (by omega)]; omega
    have hst : orI (l.drop i) = if x ≠ 0 then x else orI (l.drop (i + 1)) := by rw [List.drop_eq_getElem_cons hlt, hx]; rfl
    by_cases c : x = 0
    · rw [if_neg (fun h => h c)] at hst
      simp -implicitDefEqProofs [hlt, hix, hld, c, w1]
      exact .mk (m := m - 1) (by omega) (by rw [hI]; exact ⟨rfl, i + 1, by omega, hno.trans hst, by simp⟩)
    · rw [if_pos c] at hst
      rw [hno, hst] at hq
      simp -implicitDefEqProofs [hlt, hix, hld, c, w1]
      exact hq
  · have : l.drop i = [] := List.drop_eq_nil_of_le (by omega)
    rw [hno, this] at hq
    simp only [orI] at hq
    simp -implicitDefEqProofs [hlt]
    exact hq
/-- which of two keys is the lesser one -/
def cmpK (x y : KeyT) : Int := orI [cmpN x.1 y.1, cmpN x.2.1 y.2.1, cmpN x.2.2 y.2.2]
theorem cmpN_lt {a b : Nat} (h : a < b) : cmpN a b = -1 := by unfold cmpN; rw [if_pos h]
theorem cmpN_gt {a b : Nat} (h : b < a) : cmpN a b = 1 := by unfold cmpN; rw [if_neg (by omega), if_pos h]
theorem cmpN_eq {a b : Nat} (h : a = b) : cmpN a b = 0 := by unfold cmpN; rw [if_neg (by omega), if_neg (by omega)]
theorem cmpK_cases (x y : KeyT) : (cmpK x y = -1 ∧ klt x y ∧ ¬ klt y x) ∨ (cmpK x y = 1 ∧ klt y x ∧ ¬ klt x y) ∨ (cmpK x y = 0 ∧ ¬ klt x y ∧ ¬ klt y x) := by
  unfold cmpK klt
  rcases Nat.lt_trichotomy x.1 y.1 with h | h | h
  · left; rw [cmpN_lt h]; exact ⟨rfl, by omega, by omega⟩
  · rw [cmpN_eq h]
    rcases Nat.lt_trichotomy x.2.1 y.2.1 with h2 | h2 | h2
    · left; rw [cmpN_lt h2]; exact ⟨rfl, by omega, by omega⟩
    · rw [cmpN_eq h2]
      rcases Nat.lt_trichotomy x.2.2 y.2.2 with h3 | h3 | h3
      · left; rw [cmpN_lt h3]; exact ⟨rfl, by omega, by omega⟩
      · right; right; rw [cmpN_eq h3]; exact ⟨rfl, by omega, by omega⟩
      · right; left; rw [cmpN_gt h3]; exact ⟨rfl, by omega, by omega⟩
    · right; left; rw [cmpN_gt h2]; exact ⟨rfl, by omega, by omega⟩
  · right; left; rw [cmpN_gt h]; exact ⟨rfl, by omega, by omega⟩
theorem cmpK_lt (x y : KeyT) : cmpK x y < 0 ↔ klt x y := by
  rcases cmpK_cases x y with ⟨a, b, c⟩ | ⟨a, b, c⟩ | ⟨a, b, c⟩ <;> rw [a]
  · exact ⟨fun _ => b, fun _ => by decide⟩
  · exact ⟨fun h => absurd h (by decide), fun h => (c h).elim⟩
  · exact ⟨fun h => absurd h (by decide), fun h => (b h).elim⟩
theorem cmpK_gt (x y : KeyT) : 0 < cmpK x y ↔ klt y x := by
  rcases cmpK_cases x y with ⟨a, b, c⟩ | ⟨a, b, c⟩ | ⟨a, b, c⟩ <;> rw [a]
  · exact ⟨fun h => absurd h (by decide), fun h => (c h).elim⟩
  · exact ⟨fun _ => b, fun _ => by decide⟩
  · exact ⟨fun h => absurd h (by decide), fun h => (c h).elim⟩
theorem keyCmp_ev {h : AHeap} {c r n c' r' n' : Nat} {Q : AVal → AHeap → Prop} (hq : ∀ h', Old h h' → Q (.int .i64 (cmpK (c, r, n) (c', r', n'))) h') : Ev (cfgR ro) 59 [keyA c r n, keyA c' r' n'] h Q := by
  refine Ev.wp rfl rfl Tryd.func59 rfl ?_
  simp -implicitDefEqProofs [Tryd.f59, keyA]
  refine cmp_u64_ev ?_
  simp -implicitDefEqProofs [same_self]
  refine cmp_u16_ev ?_
  simp -implicitDefEqProofs [same_self]
  refine cmp32_ev ?_
  have o1 : Old h (h.push (.row 1 false [.int .i64 (cmpN c c'), .int .i64 (cmpN r r'), .int .i64 (cmpN n n')])) := (Old.refl h).push _
  have hsl : Sl (cfgR ro) (h.push (.row 1 false [.int .i64 (cmpN c c'), .int .i64 (cmpN r r'), .int .i64 (cmpN n n')])) 1 (.sl h.next 0 3) ([cmpN c c', cmpN r r', cmpN n n'].map fun x => [.int .i64 x]) :=
    Mine.sl (h0 := h) ⟨by simp, .inr ⟨h.next, false, rfl, Nat.le_refl _, by simp, by rw [get_push_next]; rfl⟩⟩
  simp -implicitDefEqProofs [same_self, buildSliceR, reps]
  refine or_ev hsl (by simp) ?_
  have hq := hq _ o1
  unfold cmpK at hq
  simp -implicitDefEqProofs [same_self]
  exact hq
theorem keyLess_ev {h : AHeap} {c r n c' r' n' : Nat} {Q : AVal → AHeap → Prop} (hq : Q (.bool (decide (klt (c, r, n) (c', r', n')))) h) : Ev (cfgR ro) 65 [keyA c r n, keyA c' r' n'] h Q := by
  refine Ev.wp rfl rfl Tryd.func65 rfl ?_
  have fin : ∀ x : Bool, (x = true ↔ klt (c, r, n) (c', r', n')) → Q (.bool x) h := fun x hx => by
    have : decide (klt (c, r, n) (c', r', n')) = x := by
      cases x with
      | true => exact decide_eq_true (hx.1 rfl)
      | false => exact decide_eq_false (fun hh => by have := hx.2 hh; cases this)
    rw [this] at hq; exact hq
  unfold klt at fin
  simp only at fin
  by_cases c1 : c = c'
  · by_cases c2 : r < r'
    · have d2 : decide ((r : Int) < (r' : Int)) = true := decide_eq_true (by omega)
      simp -implicitDefEqProofs [Tryd.f65, keyA, c1, c2, d2]
      exact fin true ⟨fun _ => by omega, fun _ => rfl⟩
    · have d2 : decide ((r : Int) < (r' : Int)) = false := decide_eq_false (by omega)
      by_cases c3 : r = r'
      · by_cases c4 : n < n'
        · have d4 : decide ((n : Int) < (n' : Int)) = true := decide_eq_true (by omega)
          simp -implicitDefEqProofs [Tryd.f65, keyA, c1, c2, d2, c3, c4, d4]
          exact fin true ⟨fun _ => by omega, fun _ => rfl⟩
        · have d4 : decide ((n : Int) < (n' : Int)) = false := decide_eq_false (by omega)
          simp -implicitDefEqProofs [Tryd.f65, keyA, c1, c2, d2, c3, c4, d4]
          exact fin false ⟨fun e => (nomatch e), fun hh => by omega⟩
      · have d3 : ¬ ((r : Int) = (r' : Int)) := by omega
        simp -implicitDefEqProofs [Tryd.f65, keyA, c1, c2, d2, c3, d3]
        exact fin false ⟨fun e => (nomatch e), fun hh => by omega⟩
  · have d1 : ¬ ((c : Int) = (c' : Int)) := by omega
    by_cases c2 : c < c'
    · have d2 : decide ((c : Int) < (c' : Int)) = true := decide_eq_true (by omega)
      simp -implicitDefEqProofs [Tryd.f65, keyA, c1, d1, c2, d2]
      exact fin true ⟨fun _ => by omega, fun _ => rfl⟩
    · have d2 : decide ((c : Int) < (c' : Int)) = false := decide_eq_false (by omega)
      simp -implicitDefEqProofs [Tryd.f65, keyA, c1, d1, c2, d2]
      exact fin false ⟨fun e => (nomatch e), fun hh => by omega⟩
end
end Go.Proofs.YthblmlkkmebciaaDoor
set_option linter.all false
set_option maxRecDepth 100000
set_option maxHeartbeats 4000000
namespace Go.Proofs.YthblmlkkmebciaaDoor
open Go Go.RowKit Go.Proofs
def TV.cells (t : TV) : List AVal := t.a.cells ++ [.int .u16 t.an.1, .int .u32 t.an.2]
theorem TV.cells_eq (t : TV) : t.cells = [.int .u64 t.a.clock, .int .u16 t.a.r, .int .u32 t.a.n, .int .u16 t.a.er, .int .u32 t.a.en, .int .u8 t.a.b.toNat, .bool t.a.shown, .int .u16 t.an.1, .int .u32 t.an.2] := rfl
theorem takeR_sub {vs e : List AVal} {f n d k : Nat} (h : takeR vs f n = .ok e) (hk : d + k ≤ n) : takeR vs (f + d) k = .ok ((e.drop d).take k) := by
  unfold takeR at h ⊢
  split at h
  · injection h with h
    subst h
    rw [if_pos (by omega), List.drop_take, List.take_take, List.drop_drop, Nat.min_eq_left (by omega)]
  · cases h
section
variable {c : Cfg} {h : AHeap} {sz : Nat} {v : AVal} {es : List (List AVal)}
theorem Sl.loadA (s : Sl c h sz v es) {i d t k : Nat} {e : List AVal} (he : es[i]? = some e) (hk : d + k ≤ sz) (hg : isAggR c.P t = .ok true) (hs : sizeR c.P t = .ok k) : loadR c h t (elpo v sz i d) = .ok (.agg ((e.drop d).take k)) := by
  obtain ⟨vs, f, h1, _, h2⟩ := s.rowR he
  unfold loadR partR
  have h3 : YthblmlkkmebciaaDoor.rowR c h (elpo v sz i d) = .ok (vs, f + d) := by
    cases v <;> simp only [elp, elpo] at h1 ⊢ <;> unfold YthblmlkkmebciaaDoor.rowR at h1 ⊢ <;> first | (cases h1; done) | skip
    all_goals (simp only at h1 ⊢; split at h1)
    all_goals first | (injection h1 with h1; injection h1 with h4 h5; subst h4 h5; rfl) | (cases h1; done)
  rw [h3, Res.ok_bind, hg, Res.ok_bind]
  simp [hs, takeR_sub h2 hk]
end
section
variable {ro : Nat → Option (List AVal)}
structure E9 (h : AHeap) (v : AVal) (i : Nat) (t : TV) : Prop where
  x : indexAddrR Tryd.prog 53 v (.int .i64 (i : Nat)) = .ok (elp v 9 i)
  o : ∀ d, addOff (elp v 9 i) d = .ok (elpo v 9 i d)
  p : ∀ d e, addOff (elpo v 9 i d) e = .ok (elpo v 9 i (d + e))
  a : loadR (cfgR ro) h 71 (elpo v 9 i 0) = .ok (.agg [.int .u64 t.a.clock, .int .u16 t.a.r, .int .u32 t.a.n, .int .u16 t.a.er, .int .u32 t.a.en, .int .u8 t.a.b.toNat, .bool t.a.shown])
  k : loadR (cfgR ro) h 57 (elpo v 9 i 0) = .ok (.agg [.int .u64 t.a.clock, .int .u16 t.a.r, .int .u32 t.a.n])
  n : loadR (cfgR ro) h 56 (elpo v 9 i 7) = .ok (.agg [.int .u16 t.an.1, .int .u32 t.an.2])
theorem E9.of {h : AHeap} {v : AVal} {T : List TV} (hs : Sl (cfgR ro) h 9 v (T.map TV.cells)) {i : Nat} {t : TV} (ht : T[i]? = some t) : E9 (ro := ro) h v i t := by
  have hi : i < (T.map TV.cells).length := by have := (List.getElem?_eq_some_iff.1 ht).1; simpa using this
  have he : (T.map TV.cells)[i]? = some t.cells := by rw [List.getElem?_map, ht]; rfl
  exact ⟨hs.idx un53 sz124 hi, fun d => elp_off hs hi, fun d e => elpo_off hs hi, hs.loadA he (by decide) ag71 sz71, hs.loadA he (by decide) ag57 sz57, hs.loadA he (by decide) ag56 sz56⟩
theorem lenT {h : AHeap} {v : AVal} {T : List TV} (hs : Sl (cfgR ro) h 9 v (T.map TV.cells)) : lenR (cfgR ro) h 53 v = .ok (.int .i64 (T.length : Nat)) := by
  have := hs.lenR (t := 53) un53; simpa using this
theorem id17_ev {h : AHeap} {a : AtV} {Q : AVal → AHeap → Prop} (hq : Q (idA a.r a.n) h) : Ev (cfgR ro) 29 [.agg [.int .u64 a.clock, .int .u16 a.r, .int .u32 a.n, .int .u16 a.er, .int .u32 a.en, .int .u8 a.b.toNat, .bool a.shown]] h Q := by
  refine Ev.wp rfl rfl Tryd.func29 rfl ?_
  simp only [idA] at hq
  simp -implicitDefEqProofs [Tryd.f29]
  exact hq
def fixT (T : List TV) (x : IdT) : Option Nat := T.findIdx? fun t => decide (t.id = x)
theorem fixT_some {T : List TV} {x : IdT} {i : Nat} {t : TV} (ht : T[i]? = some t) (h1 : t.id = x) (h2 : ∀ j u, j < i → T[j]? = some u → u.id ≠ x) : fixT T x = some i := by
  unfold fixT
  rw [List.findIdx?_eq_some_iff_getElem]
  obtain ⟨l, e⟩ := List.getElem?_eq_some_iff.1 ht
  refine ⟨l, by rw [e]; exact decide_eq_true h1, fun j hj => ?_⟩
  have := h2 j T[j] hj (List.getElem?_eq_getElem (by omega))
  simpa using this
theorem fixT_none {T : List TV} {x : IdT} : fixT T x = none ↔ ∀ t ∈ T, t.id ≠ x := by
  unfold fixT
  rw [List.findIdx?_eq_none_iff]
  constructor
  · intro h t ht; simpa using h t ht
  · intro h t ht; simpa using h t ht
theorem fixT_get {T : List TV} {x : IdT} {i : Nat} (h : fixT T x = some i) : ∃ t, T[i]? = some t ∧ t.id = x := by
  unfold fixT at h
  rw [List.findIdx?_eq_some_iff_getElem] at h
  obtain ⟨l, h1, _⟩ := h
  exact ⟨_, List.getElem?_eq_getElem l, by simpa using h1⟩
theorem find17_ev {h : AHeap} {v : AVal} {T : List TV} {x : IdT} (hs : Sl (cfgR ro) h 9 v (T.map TV.cells)) (hl : T.length < 2 ^ 60) {Q : AVal → AHeap → Prop} (hq : Q (.int .i64 (ixI (fixT T x))) h) : Ev (cfgR ro) 21 [v, idA x.1 x.2] h Q := by
  refine Ev.wp rfl rfl Tryd.func21 rfl ?_
  have hL := lenT hs
  simp -implicitDefEqProofs [Tryd.f21, idA]
  obtain ⟨I, hI⟩ : ∃ I : Nat → List AVal → AHeap → Prop, I = fun m env h' => h' = h ∧ ∃ i : Nat, i + m = T.length ∧ (∀ (j : Nat) (u : TV), j < i → T[j]? = some u → u.id ≠ x) ∧
    env = (v :: .dead :: .dead :: .cell [.int .u16 x.1, .int .u32 x.2] :: .dead :: .int .i64 (i : Nat) :: .dead :: .dead :: .dead :: .dead :: .dead :: .dead :: .dead :: .dead :: .dead :: .dead :: .dead :: .dead :: .dead :: .dead :: .dead :: []) := ⟨_, rfl⟩
  refine loop_of I ?_ T.length (by rw [hI]; exact ⟨rfl, 0, by omega, fun j b hj => by omega, rfl⟩)
  intro m env h' hi
  rw [hI] at hi
  obtain ⟨rfl, i, him, hno, rfl⟩ := hi
  by_cases hlt : i < T.length
  · obtain ⟨t, ht⟩ : ∃ t, T[i]? = some t := ⟨_, List.getElem?_eq_getElem hlt⟩
    have E := E9.of hs ht
    have Ea := E.a
    have w1 : IntKind.i64.wrap ((i : Int) + 1) = ((i + 1 : Nat) : Int) := by rw [w64 (by omega) (by omega)]; omega
    have ei := eqI56 (ro := ro) h' t.a.r t.a.n x.1 x.2
    simp -implicitDefEqProofs [hL, hlt, E.x, E.o, Ea, same_self]
    refine id17_ev (a := t.a) ?_
    by_cases c : t.id = x
    · have : t.a.r = x.1 ∧ t.a.n = x.2 := by rw [← c]; exact ⟨rfl, rfl⟩
      rw [decide_eq_true this] at ei
      rw [fixT_some ht c hno] at hq
      simp only [ixI] at hq
      simp -implicitDefEqProofs [hL, hlt, E.x, E.o, Ea, same_self, idA, ei, eqL56]
      exact hq
    · have : ¬ (t.a.r = x.1 ∧ t.a.n = x.2) := fun ⟨h1, h2⟩ => c (by unfold TV.id AtV.id; rw [h1, h2])
      rw [decide_eq_false this] at ei
      simp -implicitDefEqProofs [hL, hlt, E.x, E.o, Ea, same_self, idA, ei, eqL56, w1]
      exact .mk (m := m - 1) (by omega) (by rw [hI]; exact ⟨rfl, i + 1, by omega, fun j b hj hb => by
        by_cases e : j = i
        · subst e; rw [ht] at hb; cases hb; exact c
        · exact hno j b (by omega) hb, by simp⟩)
  · have hall : fixT T x = none := fixT_none.2 (fun t ht => by
      obtain ⟨j, hj⟩ := List.mem_iff_getElem?.1 ht
      exact hno j t (by have := (List.getElem?_eq_some_iff.1 hj).1; omega) hj)
    rw [hall] at hq
    simp only [ixI] at hq
    simp -implicitDefEqProofs [hL, hlt]
    exact hq
/-- may one be anchored there? -/
def ancT (T : List TV) (x : IdT) (k : KeyT) : Prop := x = (0, 0) ∨ ∃ t ∈ T, t.id = x ∧ klt t.key k
theorem anchored17_ev {h : AHeap} {v : AVal} {T : List TV} {x : IdT} {k : KeyT} (hs : Sl (cfgR ro) h 9 v (T.map TV.cells)) (hl : T.length < 2 ^ 60) (hu : ∀ t ∈ T, ∀ u ∈ T, t.id = u.id → t = u) {Q : AVal → AHeap → Prop} (hq : ∀ b, (b = true ↔ ancT T x k) → Q (.bool b) h) : Ev (cfgR ro) 24 [v, idA x.1 x.2, keyA k.1 k.2.1 k.2.2] h Q := by
  refine Ev.wp rfl rfl Tryd.func24 rfl ?_
  have rest : x ≠ (0, 0) → ∀ K : AVal → AHeap → Prop, (fixT T x = none → K (.int .i64 (-1)) h) → (∀ i t, T[i]? = some t → t.id = x → K (.int .i64 (i : Nat)) h) → Ev (cfgR ro) 21 [v, idA x.1 x.2] h K := by
    intro hx K k1 k2
    refine find17_ev hs hl ?_
    cases hf : fixT T x with
    | none => exact k1 hf
    | some i => obtain ⟨t, h1, h2⟩ := fixT_get hf; exact k2 i t h1 h2
  by_cases c : x = (0, 0)
  · have d1 : x.1 = 0 := by rw [c]
    have d2 : x.2 = 0 := by rw [c]
    simp -implicitDefEqProofs [Tryd.f24, idA, keyA, d1, d2]
    exact hq true ⟨fun _ => .inl c, fun _ => rfl⟩
  · have fin : ∀ K : Prop, (¬ x.1 = 0 → K) → (x.1 = 0 → ¬ x.2 = 0 → K) → K := fun K k1 k2 => by
      by_cases d1 : x.1 = 0
      · exact k2 d1 (fun d2 => c (Prod.ext d1 d2))
      · exact k1 d1
    refine fin _ (fun d1 => ?_) (fun d1 d2 => ?_)
    · simp -implicitDefEqProofs [Tryd.f24, idA, keyA, d1]
      refine rest c _ (fun hnone => ?_) (fun i t ht hid => ?_)
      · simp -implicitDefEqProofs [idA, keyA]
        refine hq false ⟨fun e => (nomatch e), fun hh => ?_⟩
        rcases hh with e | ⟨t, ht, e, _⟩
        · exact (c e).elim
        · exact (fixT_none.1 hnone t ht e).elim
      · have E := E9.of hs ht
        have Ek := E.k
        have dz : decide ((0 : Int) ≤ (i : Int)) = true := decide_eq_true (by omega)
        simp -implicitDefEqProofs [idA, keyA, dz, E.x, E.o, E.p, Ek, same_self]
        refine keyLess_ev (c := t.a.clock) (r := t.a.r) (n := t.a.n) (c' := k.1) (r' := k.2.1) (n' := k.2.2) ?_
        simp -implicitDefEqProofs [idA, keyA, dz, E.x, E.o, E.p, Ek, same_self]
        refine hq _ ?_
        rw [decide_eq_true_iff]
        have htm := List.mem_of_getElem? ht
        constructor
        · intro hk; exact .inr ⟨t, htm, hid, hk⟩
        · rintro (e | ⟨u, hu', e, hk⟩)
          · exact (c e).elim
          · have := hu u hu' t htm (by rw [e, hid])
            subst this; exact hk
    · have hx0 : x = (0, x.2) := by rw [← d1]
      have rest := rest c
      simp only [idA, d1] at rest
      simp -implicitDefEqProofs [Tryd.f24, idA, keyA, d1, d2]
      refine rest _ (fun hnone => ?_) (fun i t ht hid => ?_)
      · simp -implicitDefEqProofs [idA, keyA]
        refine hq false ⟨fun e => (nomatch e), fun hh => ?_⟩
        rcases hh with e | ⟨t, ht, e, _⟩
        · exact (c e).elim
        · exact (fixT_none.1 hnone t ht e).elim
      · have E := E9.of hs ht
        have Ek := E.k
        have dz : decide ((0 : Int) ≤ (i : Int)) = true := decide_eq_true (by omega)
        simp -implicitDefEqProofs [idA, keyA, dz, E.x, E.o, E.p, Ek, same_self]
        refine keyLess_ev (c := t.a.clock) (r := t.a.r) (n := t.a.n) (c' := k.1) (r' := k.2.1) (n' := k.2.2) ?_
        simp -implicitDefEqProofs [idA, keyA, dz, E.x, E.o, E.p, Ek, same_self]
        refine hq _ ?_
        rw [decide_eq_true_iff]
        have htm := List.mem_of_getElem? ht
        constructor
        · intro hk; exact .inr ⟨t, htm, hid, hk⟩
        · rintro (e | ⟨u, hu', e, hk⟩)
          · exact (c e).elim
          · have := hu u hu' t htm (by rw [e, hid])
            subst this; exact hk
end
end Go.Proofs.YthblmlkkmebciaaDoor
set_option linter.all false
set_option maxRecDepth 100000
set_option maxHeartbeats 4000000
namespace Go.Proofs.YthblmlkkmebciaaDoor
open Go Go.RowKit Go.Proofs
section
variable {ro : Nat → Option (List AVal)}
def candT (x : IdT) (first : Bool) (below : KeyT) (t : TV) : Prop := t.an = x ∧ (first = true ∨ klt t.key below)
instance (x : IdT) (first : Bool) (below : KeyT) (t : TV) : Decidable (candT x first below t) := by unfold candT; infer_instance
theorem next_ev {h : AHeap} {v : AVal} {T : List TV} {x : IdT} {first : Bool} {below : KeyT} (hs : Sl (cfgR ro) h 9 v (T.map TV.cells)) (hl : T.length < 2 ^ 60) {Q : AVal → AHeap → Prop}
    (hq1 : ∀ i u, T[i]? = some u → candT x first below u → (∀ w ∈ T, candT x first below w → ¬ klt u.key w.key) → Q (.int .i64 (i : Nat)) h) (hq2 : (∀ w ∈ T, ¬ candT x first below w) → Q (.int .i64 (-1)) h) :
    Ev (cfgR ro) 67 [v, idA x.1 x.2, .bool first, keyA below.1 below.2.1 below.2.2] h Q := by
  refine Ev.wp rfl rfl Tryd.func67 rfl ?_
  have hL := lenT hs
  simp -implicitDefEqProofs [Tryd.f67, idA, keyA]
  obtain ⟨I, hI⟩ : ∃ I : Nat → List AVal → AHeap → Prop, I = fun m env h' => h' = h ∧ ∃ (i : Nat) (bo : Option Nat), i + m = T.length ∧ (bo = none → ∀ j u, j < i → T[j]? = some u → ¬ candT x first below u) ∧
    (∀ b, bo = some b → b < i ∧ ∃ u, T[b]? = some u ∧ candT x first below u ∧ ∀ j w, j < i → T[j]? = some w → candT x first below w → ¬ klt u.key w.key) ∧
    env = (v :: .dead :: .bool first :: .dead :: .dead :: .cell [.int .u16 x.1, .int .u32 x.2] :: .dead :: .cell [.int .u64 below.1, .int .u16 below.2.1, .int .u32 below.2.2] :: .dead :: .int .i64 (ixI bo) :: .int .i64 (i : Nat) :: .dead :: .dead :: .dead :: .dead :: .dead :: .dead :: .dead :: .dead :: .dead :: .dead :: .dead :: .dead :: .dead :: .dead :: .dead :: .dead :: .dead :: .dead :: .dead :: .dead :: .dead :: .dead :: .dead :: .dead :: .dead :: .dead :: .dead :: .dead :: .dead :: .dead :: .dead :: .dead :: .dead :: .dead :: .dead :: .dead :: .dead :: .dead :: .dead :: .dead :: .dead :: .dead :: .dead :: .dead :: .dead :: .dead :: .dead :: []) := ⟨_, rfl⟩
  refine loop_of I ?_ T.length (by rw [hI]; exact ⟨rfl, 0, none, by omega, fun _ j u hj => by omega, fun b e => (by cases e), rfl⟩)
  intro m env h' hi
  rw [hI] at hi
  obtain ⟨rfl, i, bo, him, hno, hbo, rfl⟩ := hi
  by_cases hlt : i < T.length
  · obtain ⟨t, ht⟩ : ∃ t, T[i]? = some t := ⟨_, List.getElem?_eq_getElem hlt⟩
    have E := E9.of hs ht
    have Ek := E.k
    have En := E.n
    have w1 : IntKind.i64.wrap ((i : Int) + 1) = ((i + 1 : Nat) : Int) := by rw [w64 (by omega) (by omega)]; omega
    have ei := eqI56 (ro := ro) h' t.an.1 t.an.2 x.1 x.2
    -- not one of them
    have skip : ¬ candT x first below t → headK I m (v :: .dead :: .bool first :: .dead :: .dead :: .cell [.int .u16 x.1, .int .u32 x.2] :: .dead :: .cell [.int .u64 below.1, .int .u16 below.2.1, .int .u32 below.2.2] :: .dead :: .int .i64 (ixI bo) :: .int .i64 (i + 1 : Nat) :: .dead :: .dead :: .dead :: .dead :: .dead :: .dead :: .dead :: .dead :: .dead :: .dead :: .dead :: .dead :: .dead :: .dead :: .dead :: .dead :: .dead :: .dead :: .dead :: .dead :: .dead :: .dead :: .dead :: .dead :: .dead :: .dead :: .dead :: .dead :: .dead :: .dead :: .dead :: .dead :: .dead :: .dead :: .dead :: .dead :: .dead :: .dead :: .dead :: .dead :: .dead :: .dead :: .dead :: .dead :: .dead :: .dead :: .dead :: []) h' := fun hc =>
      .mk (m := m - 1) (by omega) (by rw [hI]; exact ⟨rfl, i + 1, bo, by omega, fun e j u hj hu => by
        by_cases e2 : j = i
        · subst e2; rw [ht] at hu; cases hu; exact hc
        · exact hno e j u (by omega) hu, fun b e => by
        obtain ⟨k1, u, k2, k3, k4⟩ := hbo b e
        exact ⟨by omega, u, k2, k3, fun j w hj hw hcw => by
          by_cases e2 : j = i
          · subst e2; rw [ht] at hw; cases hw; exact (hc hcw).elim
          · exact k4 j w (by omega) hw hcw⟩, rfl⟩)
    -- one of them
    have take_ : candT x first below t → (bo = none ∨ ∃ b u, bo = some b ∧ T[b]? = some u ∧ klt u.key t.key) → headK I m (v :: .dead :: .bool first :: .dead :: .dead :: .cell [.int .u16 x.1, .int .u32 x.2] :: .dead :: .cell [.int .u64 below.1, .int .u16 below.2.1, .int .u32 below.2.2] :: .dead :: .int .i64 (i : Nat) :: .int .i64 (i + 1 : Nat) :: .dead :: .dead :: .dead :: .dead :: .dead :: .dead :: .dead :: .dead :: .dead :: .dead :: .dead :: .dead :: .dead :: .dead :: .dead :: .dead :: .dead :: .dead :: .dead :: .dead :: .dead :: .dead :: .dead :: .dead :: .dead :: .dead :: .dead :: .dead :: .dead :: .dead :: .dead :: .dead :: .dead :: .dead :: .dead :: .dead :: .dead :: .dead :: .dead :: .dead :: .dead :: .dead :: .dead :: .dead :: .dead :: .dead :: .dead :: []) h' := fun hc hb =>
      .mk (m := m - 1) (by omega) (by rw [hI]; exact ⟨rfl, i + 1, some i, by omega, fun e => (by cases e), fun b e => by
        cases e
        refine ⟨by omega, t, ht, hc, fun j w hj hw hcw => ?_⟩
        by_cases e2 : j = i
        · subst e2; rw [ht] at hw; cases hw; exact klt_irrefl _
        · rcases hb with e3 | ⟨b, u, e3, e4, e5⟩
          · exact (hno e3 j w (by omega) hw hcw).elim
          · obtain ⟨_, u', k2, _, k4⟩ := hbo b e3
            rw [e4] at k2; cases k2
            intro hk
            exact k4 j w (by omega) hw hcw (klt_trans e5 hk), rfl⟩)
    have stay : candT x first below t → (∃ b u, bo = some b ∧ T[b]? = some u ∧ ¬ klt u.key t.key) → headK I m (v :: .dead :: .bool first :: .dead :: .dead :: .cell [.int .u16 x.1, .int .u32 x.2] :: .dead :: .cell [.int .u64 below.1, .int .u16 below.2.1, .int .u32 below.2.2] :: .dead :: .int .i64 (ixI bo) :: .int .i64 (i + 1 : Nat) :: .dead :: .dead :: .dead :: .dead :: .dead :: .dead :: .dead :: .dead :: .dead :: .dead :: .dead :: .dead :: .dead :: .dead :: .dead :: .dead :: .dead :: .dead :: .dead :: .dead :: .dead :: .dead :: .dead :: .dead :: .dead :: .dead :: .dead :: .dead :: .dead :: .dead :: .dead :: .dead :: .dead :: .dead :: .dead :: .dead :: .dead :: .dead :: .dead :: .dead :: .dead :: .dead :: .dead :: .dead :: .dead :: .dead :: .dead :: []) h' := fun hc ⟨b0, u0, e3, e4, e5⟩ =>
      .mk (m := m - 1) (by omega) (by rw [hI]; exact ⟨rfl, i + 1, bo, by omega, fun e => (by rw [e] at e3; cases e3), fun b e => by
        obtain ⟨k1, u, k2, k3, k4⟩ := hbo b e
        rw [e] at e3; cases e3
        rw [e4] at k2; cases k2
        exact ⟨by omega, u0, e4, k3, fun j w hj hw hcw => by
          by_cases e2 : j = i
          · subst e2; rw [ht] at hw; cases hw; exact e5
          · exact k4 j w (by omega) hw hcw⟩, rfl⟩)
    by_cases c1 : t.an = x
    · have : t.an.1 = x.1 ∧ t.an.2 = x.2 := by rw [c1]; exact ⟨rfl, rfl⟩
      rw [decide_eq_true this] at ei
      cases first with
      | true =>
        have hc : candT x true below t := ⟨c1, .inl rfl⟩
        cases hbb : bo with
        | none =>
          simp -implicitDefEqProofs [hL, hlt, E.x, E.o, E.p, En, Ek, ei, eqL56, same_self, w1, ixI]
          exact take_ hc (.inl hbb)
        | some b =>
          obtain ⟨k1, u, k2, k3, k4⟩ := hbo b hbb
          have Eb := E9.of hs k2
          have Ebk := Eb.k
          have db : decide ((b : Int) < 0) = false := decide_eq_false (by omega)
          simp -implicitDefEqProofs [hL, hlt, E.x, E.o, E.p, En, Ek, ei, eqL56, same_self, ixI, db, Eb.x, Eb.o, Eb.p, Ebk]
          refine keyLess_ev (c := u.a.clock) (r := u.a.r) (n := u.a.n) (c' := t.a.clock) (r' := t.a.r) (n' := t.a.n) ?_
          by_cases c4 : klt u.key t.key
          · rw [decide_eq_true (show klt (u.a.clock, u.a.r, u.a.n) (t.a.clock, t.a.r, t.a.n) from c4)]
            simp -implicitDefEqProofs [hL, hlt, E.x, E.o, E.p, En, Ek, ei, eqL56, same_self, ixI, db, Eb.x, Eb.o, Eb.p, Ebk, w1]
            exact take_ hc (.inr ⟨b, u, hbb, k2, c4⟩)
          · rw [decide_eq_false (show ¬ klt (u.a.clock, u.a.r, u.a.n) (t.a.clock, t.a.r, t.a.n) from c4)]
            simp -implicitDefEqProofs [hL, hlt, E.x, E.o, E.p, En, Ek, ei, eqL56, same_self, ixI, db, Eb.x, Eb.o, Eb.p, Ebk, w1]
            have := stay hc ⟨b, u, hbb, k2, c4⟩
            rw [hbb] at this
            exact this
      | false =>
        simp -implicitDefEqProofs [hL, hlt, E.x, E.o, E.p, En, ei, eqL56, same_self]
        by_cases c2 : klt t.key below
        · have hc : candT x false below t := ⟨c1, .inr c2⟩
          simp -implicitDefEqProofs [hL, hlt, E.x, E.o, E.p, En, Ek, ei, eqL56, same_self]
          refine keyLess_ev (c := t.a.clock) (r := t.a.r) (n := t.a.n) (c' := below.1) (r' := below.2.1) (n' := below.2.2) ?_
          rw [decide_eq_true (show klt (t.a.clock, t.a.r, t.a.n) (below.1, below.2.1, below.2.2) from c2)]
          cases hbb : bo with
          | none =>
            simp -implicitDefEqProofs [hL, hlt, E.x, E.o, E.p, En, Ek, ei, eqL56, same_self, w1, ixI]
            exact take_ hc (.inl hbb)
          | some b =>
            obtain ⟨k1, u, k2, k3, k4⟩ := hbo b hbb
            have Eb := E9.of hs k2
            have Ebk := Eb.k
            have db : decide ((b : Int) < 0) = false := decide_eq_false (by omega)
            simp -implicitDefEqProofs [hL, hlt, E.x, E.o, E.p, En, Ek, ei, eqL56, same_self, ixI, db, Eb.x, Eb.o, Eb.p, Ebk]
            refine keyLess_ev (c := u.a.clock) (r := u.a.r) (n := u.a.n) (c' := t.a.clock) (r' := t.a.r) (n' := t.a.n) ?_
            by_cases c4 : klt u.key t.key
            · rw [decide_eq_true (show klt (u.a.clock, u.a.r, u.a.n) (t.a.clock, t.a.r, t.a.n) from c4)]
              simp -implicitDefEqProofs [hL, hlt, E.x, E.o, E.p, En, Ek, ei, eqL56, same_self, ixI, db, Eb.x, Eb.o, Eb.p, Ebk, w1]
              exact take_ hc (.inr ⟨b, u, hbb, k2, c4⟩)
            · rw [decide_eq_false (show ¬ klt (u.a.clock, u.a.r, u.a.n) (t.a.clock, t.a.r, t.a.n) from c4)]
              simp -implicitDefEqProofs [hL, hlt, E.x, E.o, E.p, En, Ek, ei, eqL56, same_self, ixI, db, Eb.x, Eb.o, Eb.p, Ebk, w1]
              have := stay hc ⟨b, u, hbb, k2, c4⟩
              rw [hbb] at this
              exact this
        · have hc : ¬ candT x false below t := fun hh => by
            rcases hh.2 with e | e
            · cases e
            · exact c2 e
          simp -implicitDefEqProofs [hL, hlt, E.x, E.o, E.p, En, Ek, ei, eqL56, same_self]
          refine keyLess_ev (c := t.a.clock) (r := t.a.r) (n := t.a.n) (c' := below.1) (r' := below.2.1) (n' := below.2.2) ?_
          rw [decide_eq_false (show ¬ klt (t.a.clock, t.a.r, t.a.n) (below.1, below.2.1, below.2.2) from c2)]
          simp -implicitDefEqProofs [hL, hlt, E.x, E.o, E.p, En, Ek, ei, eqL56, same_self, w1]
          exact skip hc
    · have : ¬ (t.an.1 = x.1 ∧ t.an.2 = x.2) := fun ⟨h1, h2⟩ => c1 (Prod.ext h1 h2)
      rw [decide_eq_false this] at ei
      simp -implicitDefEqProofs [hL, hlt, E.x, E.o, En, ei, eqL56, same_self, w1]
      exact skip (fun hh => c1 hh.1)
  · simp -implicitDefEqProofs [hL, hlt]
    cases hbb : bo with
    | none =>
      simp only [ixI]
      exact hq2 (fun w hw => by
        obtain ⟨j, hj⟩ := List.mem_iff_getElem?.1 hw
        exact hno hbb j w (by have := (List.getElem?_eq_some_iff.1 hj).1; omega) hj)
    | some b =>
      simp only [ixI]
      obtain ⟨_, u, k2, k3, k4⟩ := hbo b hbb
      exact hq1 b u k2 k3 (fun w hw hcw => by
        obtain ⟨j, hj⟩ := List.mem_iff_getElem?.1 hw
        exact k4 j w (by have := (List.getElem?_eq_some_iff.1 hj).1; omega) hj hcw)
end
end Go.Proofs.YthblmlkkmebciaaDoor
set_option linter.all false
set_option maxRecDepth 100000
set_option maxHeartbeats 4000000
namespace Go.Proofs.YthblmlkkmebciaaDoor
open Go Go.RowKit Go.Proofs
/-- what the atom at a place is anchored at -/
def ancAt (x : IdT) (bs : List AtV) (i : Nat) : IdT := match (bs.take i).getLast? with
  | none => x
  | some b => b.id
theorem tvs_take : ∀ (bs : List AtV) (x : IdT) (i : Nat) (b : AtV), bs[i]? = some b → tvs x (bs.take (i + 1)) = tvs x (bs.take i) ++ [⟨b, ancAt x bs i⟩]
  | [], x, i, b, h => by simp at h
  | c :: bs, x, 0, b, h => by simp at h; subst h; simp [tvs, ancAt]
  | c :: bs, x, i + 1, b, h => by
    have ih := tvs_take bs c.id i b (by simpa using h)
    have e : ancAt x (c :: bs) (i + 1) = ancAt c.id bs i := by
      unfold ancAt
      rw [List.take_succ_cons]
      cases hb : bs.take i with
      | nil => rfl
      | cons d l => rw [List.getLast?_cons_cons]; cases h2 : (d :: l).getLast? <;> simp at h2 ⊢
    rw [List.take_succ_cons, List.take_succ_cons, e]
    show _ :: tvs c.id (bs.take (i + 1)) = _ :: tvs c.id (bs.take i) ++ _
    rw [ih]; rfl
theorem ancAt_succ {x : IdT} {bs : List AtV} {i : Nat} {b : AtV} (h : bs[i]? = some b) : ancAt x bs (i + 1) = b.id := by
  unfold ancAt
  obtain ⟨l, e⟩ := List.getElem?_eq_some_iff.1 h
  rw [List.take_succ_eq_append_getElem l, e, List.getLast?_append]; rfl
/-- an append touches nothing but its own row -/
theorem app_frame {sz b n : Nat} {h h' : AHeap} {v v' : AVal} {new : List AVal} (e : appCore sz b h v n new = .ok (v', h')) (hv : notSlc v) : h.next ≤ h'.next ∧ (∀ o, o < h.next → ¬ vobj v o → h'.get o = h.get o) ∧ ∀ o, vobj v' o → vobj v o ∨ h.next ≤ o := by
  unfold appCore at e
  cases v <;> simp only at e <;> try (cases e; done)
  · split at e
    · cases e; exact ⟨Nat.le_refl _, fun _ _ _ => rfl, fun o ho => ho.elim⟩
    · split at e
      · cases e
      · cases e
        refine ⟨by simp, fun o ho _ => by rw [AHeap.get_push, if_neg (by omega)], fun o ho => ?_⟩
        have : o = h.next := ho
        exact .inr (by omega)
  · rename_i q off len
    split at e
    · rename_i esz fz vs hg
      split at e
      · split at e
        · cases hov : overR vs (off + len * sz) new with
          | err m => rw [hov] at e; cases e
          | ok ws =>
            rw [hov] at e
            cases e
            refine ⟨Nat.le_refl _, fun o ho hn => get_set_ne (fun e2 => hn e2.symm), fun o ho => .inl ho⟩
        · split at e
          · cases e
          · cases htk : takeR vs off (len * sz) with
            | err m => rw [htk] at e; cases e
            | ok ws =>
              rw [htk] at e
              cases e
              refine ⟨by simp, fun o ho hn => ?_, fun o ho => ?_⟩
              · rw [AHeap.get_push, if_neg (by simp; omega), AHeap.get_del, if_neg (fun e2 : o = q => hn e2)]
              · have : o = (h.del q).next := ho
                simp at this
                exact .inr (by omega)
      · cases e
    · cases e
  · exact (hv _ _ _ _ rfl).elim
  · split at e
    · cases e; exact ⟨Nat.le_refl _, fun _ _ _ => rfl, fun o ho => .inl ho⟩
    · cases e
theorem Mine.keepO {h0 h h' : AHeap} {sz : Nat} {es : List (List AVal)} {v : AVal} (m : Mine h0 h sz es v) (k : ∀ o, vobj v o → h'.get o = h.get o) (hn : h.next ≤ h'.next) : Mine h0 h' sz es v := by
  obtain ⟨m1, m2⟩ := m
  refine ⟨m1, m2.imp_right ?_⟩
  rintro ⟨q, fz, rfl, g1, g2, g3⟩
  exact ⟨q, fz, rfl, g1, Nat.lt_of_lt_of_le g2 hn, by rw [k q rfl]; exact g3⟩
theorem Mine.obj {h0 h : AHeap} {sz : Nat} {es : List (List AVal)} {v : AVal} (m : Mine h0 h sz es v) : ∀ o, vobj v o → h0.next ≤ o ∧ o < h.next := by
  obtain ⟨_, ⟨_, rfl⟩ | ⟨q, fz, rfl, g1, g2, _⟩⟩ := m
  · exact fun o ho => ho.elim
  · intro o ho
    have : o = q := ho
    subst this; exact ⟨g1, g2⟩
section
variable {ro : Nat → Option (List AVal)}
theorem put17_ev {h : AHeap} {v : AVal} {T : List TV} {y : IdT} {x : RunV} (hs : Sl (cfgR ro) h 9 v (T.map TV.cells)) (hl : T.length < 2 ^ 30) (hx : RunOk x) {Q : AVal → AHeap → Prop}
    (hq : ∀ v' h', Old h h' → Mine h h' 9 ((T ++ tvs y (atomsOf x)).map TV.cells) v' → Q v' h') : Ev (cfgR ro) 27 [v, idA y.1 y.2, .agg x.cells] h Q := by
  refine Ev.wp rfl rfl Tryd.func27 rfl ?_
  have hal : (T.map TV.cells).length = T.length := List.length_map _
  have q1 := hs.len
  have q2 := hs.read
  obtain ⟨w, h1, e1, m1, o1⟩ := (Mine.nil h h 9).append (bytes := 40) (new := T.map TV.cells) (by decide) (fun e he => by obtain ⟨a, _, rfl⟩ := List.mem_map.1 he; rfl) (by rw [hal]; simp; omega) (Old.refl h)
  rw [List.nil_append] at m1
  rw [hal] at q1 q2 e1
  have hxl := hx.len
  simp -implicitDefEqProofs [Tryd.f27, idA, RunV.cells, q1, q2, e1]
  refine atoms15_ev hx (fun v2 h2 o2 hm2 => ?_)
  have o12 := o1.trans o2
  have hL2 : ∀ h', Mine h1 h' 7 ((atomsOf x).map AtV.cells) v2 → lenR (cfgR ro) h' 32 v2 = .ok (.int .i64 (x.text.length : Nat)) := fun h' m => by have := (m.sl (c := cfgR ro)).lenR (t := 32) un32; simpa [atomsOf_len] using this
  simp -implicitDefEqProofs
  obtain ⟨I, hI⟩ : ∃ I : Nat → List AVal → AHeap → Prop, I = fun m env h' => ∃ (i : Nat) (w : AVal), i + m = x.text.length ∧ Old h h' ∧ Mine h1 h' 7 ((atomsOf x).map AtV.cells) v2 ∧ (∀ o, vobj v2 o → ¬ vobj w o) ∧ Mine h h' 9 ((T ++ tvs y ((atomsOf x).take i)).map TV.cells) w ∧
    env = (.dead :: .dead :: .dead :: .dead :: .cell [.int .u16 (ancAt y (atomsOf x) i).1, .int .u32 (ancAt y (atomsOf x) i).2] :: .dead :: .dead :: w :: v2 :: .int .i64 (i : Nat) :: .dead :: .dead :: .dead :: .dead :: .dead :: .dead :: .dead :: .dead :: .dead :: .dead :: .dead :: .dead :: .dead :: .dead :: .dead :: .dead :: .dead :: .dead :: .dead :: .dead :: .dead :: .dead :: .dead :: .dead :: .dead :: .dead :: []) := ⟨_, rfl⟩
  refine loop_of I ?_ x.text.length (by rw [hI]; exact ⟨0, w, by omega, o12, hm2, fun o ho hw => by have := hm2.obj o ho; have := m1.obj o hw; omega, by simpa [tvs] using m1.keep o2, rfl⟩)
  intro m env h' hi
  rw [hI] at hi
  obtain ⟨i, w, him, oo, mm2, hap, hm, rfl⟩ := hi
  by_cases hlt : i < x.text.length
  · obtain ⟨b, hb⟩ : ∃ b, (atomsOf x)[i]? = some b := ⟨_, List.getElem?_eq_getElem (by rw [atomsOf_len]; exact hlt)⟩
    have E := El.of (mm2.sl (c := cfgR ro)) hb
    have El_ := E.l
    have w1 : IntKind.i64.wrap ((i : Int) + 1) = ((i + 1 : Nat) : Int) := by rw [w64 (by omega) (by omega)]; omega
    have htk := tvs_take _ y i b hb
    have hac := ancAt_succ (x := y) hb
    obtain ⟨z, hz⟩ : ∃ z, z = ancAt y (atomsOf x) i := ⟨_, rfl⟩
    rw [← hz] at htk ⊢
    have hlen : ((T ++ tvs y ((atomsOf x).take i)).map TV.cells).length ≤ T.length + 1024 := by
      have e : (tvs y ((atomsOf x).take i)).length = ((atomsOf x).take i).length := by have := congrArg List.length (tvs_atoms ((atomsOf x).take i) y); simpa using this
      rw [List.length_map, List.length_append, e, List.length_take, atomsOf_len]; omega
    have op : Old h' (h'.push (.row 9 false (TV.cells ⟨b, z⟩))) := (Old.refl h').push _
    obtain ⟨w3, h3, k1, k2, k3⟩ := Mine.append1 (bytes := 40) (e := TV.cells ⟨b, z⟩) (hm.keep op) (by decide) rfl (by omega) (oo.trans op)
    obtain ⟨f1, f2, f3⟩ := app_frame k1 (hm.keep op).notSlc
    have hnp : h'.next < (h'.push (.row 9 false (TV.cells ⟨b, z⟩))).next := by simp
    have mm3 : Mine h1 h3 7 ((atomsOf x).map AtV.cells) v2 := (mm2.keep op).keepO (fun o ho => f2 o (by have := (mm2.obj o ho).2; omega) (hap o ho)) f1
    have hap3 : ∀ o, vobj v2 o → ¬ vobj w3 o := fun o ho hw => by
      rcases f3 o hw with h4 | h4
      · exact hap o ho h4
      · have := (mm2.obj o ho).2; omega
    have E2 := El.of (mm3.sl (c := cfgR ro)) hb
    have E2l := E2.l
    have k1' := k1
    rw [TV.cells_eq] at k1'
    simp only at k1'
    simp -implicitDefEqProofs [hL2 h' mm2, hlt, E.x, El_, same_self, buildSliceR, reps, k1', E2.x, E2l]
    refine id17_ev (a := b) ?_
    simp -implicitDefEqProofs [idA, w1]
    refine .mk (m := m - 1) (by omega) (by
      rw [hI]
      refine ⟨i + 1, w3, by omega, k3, mm3, hap3, ?_, by rw [hac]; simp [AtV.id]⟩
      rw [htk, ← List.append_assoc, List.map_append]
      exact k2)
  · rw [List.take_of_length_le (by rw [atomsOf_len]; omega)] at hm
    simp -implicitDefEqProofs [hL2 h' mm2, hlt]
    exact hq w h' oo hm
theorem order_ev (T : List TV) (hl : T.length < 2 ^ 30) : ∀ (n : Nat) (L : List AtV) (x : IdT) (ks : List TV), L.length ≤ n → L.length < 2 ^ 30 → Kids T x ks → OrdK T ks L → ∀ {h : AHeap} {v : AVal} (hs : Sl (cfgR ro) h 9 v (T.map TV.cells)) {Q : AVal → AHeap → Prop}
    (hq : ∀ w h', Old h h' → Mine h h' 7 (L.map AtV.cells) w → Q w h'), Ev (cfgR ro) 26 [v, idA x.1 x.2] h Q := by
  intro n
  induction n with
  | zero =>
    intro L x ks hn hL2 hk ho h v hs Q hq
    have hL0 : L = [] := List.length_eq_zero_iff.1 (by omega)
    subst hL0
    have hks : ks = [] := by cases ho; rfl
    refine Ev.wp rfl rfl Tryd.func26 rfl ?_
    simp -implicitDefEqProofs [Tryd.f26, idA]
    refine next_ev (x := x) (first := true) (below := (0, 0, 0)) hs (by omega) (fun i u hu hc _ => ?_) (fun _ => ?_)
    · have := (hk.mem u).2 ⟨List.mem_of_getElem? hu, hc.1⟩
      rw [hks] at this; cases this
    · simp -implicitDefEqProofs
      obtain ⟨I, hI⟩ : ∃ I : Nat → List AVal → AHeap → Prop, I = fun m env h' => h' = h ∧ env = (v :: .dead :: .dead :: .cell [.int .u16 x.1, .int .u32 x.2] :: .dead :: .nils :: .int .i64 (-1) :: .dead :: .dead :: .dead :: .dead :: .dead :: .dead :: .dead :: .dead :: .dead :: .dead :: .dead :: .dead :: .dead :: .dead :: .dead :: .dead :: .dead :: .dead :: .dead :: .dead :: .dead :: .dead :: .dead :: .dead :: .dead :: .dead :: .dead :: .dead :: .dead :: .dead :: .dead :: .dead :: .dead :: .dead :: []) := ⟨_, rfl⟩
      refine loop_of I ?_ 0 (by rw [hI]; exact ⟨rfl, rfl⟩)
      intro m env h' hi
      rw [hI] at hi
      obtain ⟨rfl, rfl⟩ := hi
      simp -implicitDefEqProofs
      exact hq .nils h' (Old.refl h') (Mine.nil _ _ _)
  | succ n ih =>
    intro L x ks hn hL2 hk ho h v hs Q hq
    refine Ev.wp rfl rfl Tryd.func26 rfl ?_
    obtain ⟨I, hI⟩ : ∃ I : Nat → List AVal → AHeap → Prop, I = fun m env h' => ∃ (L0 L3 : List AtV) (pre cs : List TV) (w : AVal) (iv : Int), m = cs.length ∧ L = L0 ++ L3 ∧ ks = pre ++ cs ∧ OrdK T cs L3 ∧ Old h h' ∧ Mine h h' 7 (L0.map AtV.cells) w ∧
      ((cs = [] ∧ iv = -1) ∨ ∃ c cs' i, cs = c :: cs' ∧ T[i]? = some c ∧ iv = ((i : Nat) : Int)) ∧
      env = (v :: .dead :: .dead :: .cell [.int .u16 x.1, .int .u32 x.2] :: .dead :: w :: .int .i64 iv :: .dead :: .dead :: .dead :: .dead :: .dead :: .dead :: .dead :: .dead :: .dead :: .dead :: .dead :: .dead :: .dead :: .dead :: .dead :: .dead :: .dead :: .dead :: .dead :: .dead :: .dead :: .dead :: .dead :: .dead :: .dead :: .dead :: .dead :: .dead :: .dead :: .dead :: .dead :: .dead :: .dead :: .dead :: []) := ⟨_, rfl⟩
    -- the next of those that are left
    have nxt : ∀ (h' : AHeap) (pre cs : List TV) (first : Bool) (below : KeyT) (K : AVal → AHeap → Prop), ks = pre ++ cs → Old h h' → (∀ t, (t ∈ ks ∧ (first = true ∨ klt t.key below)) ↔ t ∈ cs) → (∀ iv, ((cs = [] ∧ iv = -1) ∨ ∃ c cs' i, cs = c :: cs' ∧ T[i]? = some c ∧ iv = ((i : Nat) : Int)) → K (.int .i64 iv) h') →
        Ev (cfgR ro) 67 [v, idA x.1 x.2, .bool first, keyA below.1 below.2.1 below.2.2] h' K := by
      intro h' pre cs first below K e1 oo hcs hK
      refine next_ev (hs.old oo) (by omega) (fun i u hu hc hmax => ?_) (fun hnone => ?_)
      · have hum : u ∈ cs := (hcs u).1 ⟨(hk.mem u).2 ⟨List.mem_of_getElem? hu, hc.1⟩, hc.2⟩
        cases cs with
        | nil => cases hum
        | cons d cs' =>
          refine hK _ (.inr ⟨d, cs', i, rfl, ?_, rfl⟩)
          rcases List.mem_cons.1 hum with rfl | hum'
          · exact hu
          · exfalso
            have hd := (hcs d).2 (by simp)
            have hdT := (hk.mem d).1 hd.1
            refine hmax d hdT.1 ⟨hdT.2, hd.2⟩ ?_
            have hord := hk.ord
            rw [e1, List.pairwise_append, List.pairwise_cons] at hord
            exact hord.2.1.1 u hum'
      · refine hK _ (.inl ⟨?_, rfl⟩)
        cases cs with
        | nil => rfl
        | cons d cs' =>
          exfalso
          have hd := (hcs d).2 (by simp)
          have hdT := (hk.mem d).1 hd.1
          exact hnone d hdT.1 ⟨hdT.2, hd.2⟩
    simp -implicitDefEqProofs [Tryd.f26, idA]
    refine nxt h [] ks true (0, 0, 0) _ rfl (Old.refl h) (fun t => ⟨fun hh => hh.1, fun hh => ⟨hh, .inl rfl⟩⟩) (fun iv hiv => ?_)
    simp -implicitDefEqProofs
    refine loop_of I ?_ ks.length (by rw [hI]; exact ⟨[], L, [], ks, .nils, iv, rfl, rfl, rfl, ho, Old.refl h, Mine.nil _ _ _, hiv, rfl⟩)
    intro m env h' hi
    rw [hI] at hi
    obtain ⟨L0, L3, pre, cs, w, iv, rfl, eL, ek, ho3, oo, hm, hiv, rfl⟩ := hi
    rcases hiv with ⟨rfl, rfl⟩ | ⟨c, cs', i, rfl, hi2, rfl⟩
    · have : L3 = [] := by cases ho3; rfl
      subst this
      rw [List.append_nil] at eL
      subst eL
      simp -implicitDefEqProofs
      exact hq w h' oo hm
    · cases ho3 with
      | @cons _ _ kc L1 L4 hkc ho1 ho4 =>
        have dz : decide ((0 : Int) ≤ (i : Int)) = true := decide_eq_true (by omega)
        have hLl : L.length = L0.length + (1 + (L1.length + L4.length)) := by rw [eL]; simp; omega
        have hsT := hs.old oo
        have E := E9.of hsT hi2
        have Ea := E.a
        have op : Old h' (h'.push (.row 7 false c.a.cells)) := (Old.refl h').push _
        obtain ⟨w3, h3, k1, k2, k3⟩ := Mine.append1 (bytes := 32) (e := c.a.cells) (hm.keep op) (by decide) rfl (by rw [List.length_map]; omega) (oo.trans op)
        have k1' := k1
        simp only [AtV.cells] at k1'
        simp -implicitDefEqProofs [dz, E.x, E.o, E.p, Ea, buildSliceR, reps, k1', same_self]
        have E3 := E9.of (hs.old k3) hi2
        have E3a := E3.a
        simp -implicitDefEqProofs [dz, E3.x, E3.o, E3.p, E3a, same_self]
        refine id17_ev (a := c.a) ?_
        simp -implicitDefEqProofs [dz, E3.x, E3.o, E3.p, E3a, same_self, idA]
        refine ih L1 c.id kc (by omega) (by omega) hkc ho1 (hs.old k3) (fun w4 h4 o4 m4 => ?_)
        have q1 := (m4.sl (c := cfgR ro)).len
        have q2 := (m4.sl (c := cfgR ro)).read
        obtain ⟨w5, h5, j1, j2, j3⟩ := (k2.keep o4).append (bytes := 32) (new := L1.map AtV.cells) (by decide) (fun e he => by obtain ⟨a, _, rfl⟩ := List.mem_map.1 he; rfl) (by rw [List.length_append, List.length_map, List.length_map]; simp; omega) (k3.trans o4)
        have hl1 : (L1.map AtV.cells).length = L1.length := List.length_map _
        rw [hl1] at q1 q2 j1
        simp -implicitDefEqProofs [dz, same_self, q1, q2, j1]
        have E5 := E9.of (hs.old j3) hi2
        have E5k := E5.k
        try simp -implicitDefEqProofs [dz, E5.x, E5.o, E5.p, E5k, same_self]
        refine nxt h5 (pre ++ [c]) cs' false c.key _ (by rw [ek]; simp) j3 (fun t => ?_) (fun iv2 hiv2 => ?_)
        · have hord := hk.ord
          rw [ek, List.pairwise_append, List.pairwise_cons] at hord
          constructor
          · rintro ⟨h1, h2⟩
            have h2 := h2.resolve_left (by simp)
            rw [ek] at h1
            rcases List.mem_append.1 h1 with h1 | h1
            · exact (klt_asymm (hord.2.2 t h1 c (by simp)) h2).elim
            · rcases List.mem_cons.1 h1 with rfl | h1
              · exact (klt_irrefl _ h2).elim
              · exact h1
          · intro h1
            exact ⟨by rw [ek]; simp [h1], .inr (hord.2.1.1 t h1)⟩
        · simp -implicitDefEqProofs [dz, E5.x, E5.o, E5.p, E5k, same_self]
          refine .mk (m := cs'.length) (by simp) (by
            rw [hI]
            refine ⟨L0 ++ c.a :: L1, L4, pre ++ [c], cs', w5, iv2, rfl, by rw [eL]; simp, by rw [ek]; simp, ho4, j3, ?_, hiv2, rfl⟩
            have : (L0 ++ c.a :: L1).map AtV.cells = L0.map AtV.cells ++ [c.a.cells] ++ L1.map AtV.cells := by simp
            rw [this]; exact j2)
end
end Go.Proofs.YthblmlkkmebciaaDoor
set_option linter.all false
set_option maxRecDepth 100000
set_option maxHeartbeats 4000000
namespace Go.Proofs.YthblmlkkmebciaaDoor
open Go Go.RowKit Go.Proofs
theorem flat_nd : ∀ {L : List (Nat × RunV)}, Rok L → ((flat (L.map (·.2))).map AtV.id).Nodup
  | [], _ => List.nodup_nil
  | p :: L, R => by
    have ha := R.apart
    rw [List.pairwise_cons] at ha
    have ih := flat_nd (L := L) ⟨fun q hq => R.ok q (by simp [hq]), ha.2⟩
    rw [List.map_cons, flat_cons, List.map_append, List.nodup_append]
    refine ⟨(atF_ids _ _ _ _ _ _ _).1, ih, fun x hx y hy e => ?_⟩
    obtain ⟨a, h1, rfl⟩ := List.mem_map.1 hx
    obtain ⟨b, h2, rfl⟩ := List.mem_map.1 hy
    obtain ⟨l, hl, h3⟩ := List.mem_flatten.1 h2
    obtain ⟨z, hz, rfl⟩ := List.mem_map.1 hl
    obtain ⟨q, hq, rfl⟩ := List.mem_map.1 hz
    have m1 := mem_atomsOf h1
    have m2 := mem_atomsOf h3
    unfold AtV.id at e
    simp only [Prod.mk.injEq] at e
    rw [e.1, e.2] at m1
    exact apart_has (ha.1 q hq) m1 m2
theorem StA.nd {h : AHeap} {s : Nat} {O : Nat → Prop} {A : List AtV} (S : StA h s O A) : (A.map AtV.id).Nodup := by
  obtain ⟨m, t, ix, a1, a2, a3, a4, a5, a6, a7⟩ := S
  rw [← a5]; exact flat_nd a2
theorem StA.pos {h : AHeap} {s : Nat} {O : Nat → Prop} {A : List AtV} (S : StA h s O A) : ∀ a ∈ A, 1 ≤ a.n := by
  obtain ⟨m, t, ix, a1, a2, a3, a4, a5, a6, a7⟩ := S
  intro a ha
  rw [← a5] at ha
  obtain ⟨l, hl, h3⟩ := List.mem_flatten.1 ha
  obtain ⟨z, hz, rfl⟩ := List.mem_map.1 hl
  obtain ⟨q, hq, rfl⟩ := List.mem_map.1 hz
  have := (mem_atomsOf h3).2.1
  have := (a2.ok q hq).n1
  omega
theorem atIx_at' {A : List AtV} (hn : (A.map AtV.id).Nodup) {i : Nat} {a : AtV} (h : A[i]? = some a) : atIx A a.r a.n = some i := by
  refine atIx_some h ⟨rfl, rfl⟩ (fun j b hj hb hh => ?_)
  obtain ⟨l1, e1⟩ := List.getElem?_eq_some_iff.1 h
  obtain ⟨l2, e2⟩ := List.getElem?_eq_some_iff.1 hb
  have := (List.nodup_iff_pairwise_ne.1 hn)
  rw [List.pairwise_iff_getElem] at this
  have := this j i (by simpa using l2) (by simpa using l1) hj
  simp only [List.getElem_map, e1, e2] at this
  exact this (by unfold AtV.id; rw [hh.1, hh.2])
theorem posA_iff {A : List AtV} {x : IdT} {p : Nat} (h : posA A x.1 x.2 = some p) : posT A x p := by
  unfold posA at h
  by_cases c : x.1 = 0 ∧ x.2 = 0
  · rw [if_pos c] at h
    exact .inl ⟨Prod.ext c.1 c.2, (Option.some.inj h).symm⟩
  · rw [if_neg c] at h
    cases hx : atIx A x.1 x.2 with
    | none => rw [hx] at h; cases h
    | some i =>
      rw [hx] at h
      have hp : i + 1 = p := Option.some.inj h
      have hl := atIx_lt hx
      refine .inr ⟨i, A[i], List.getElem?_eq_getElem hl, ?_, hp.symm⟩
      unfold atIx at hx
      rw [List.findIdx?_eq_some_iff_getElem] at hx
      obtain ⟨_, h2, _⟩ := hx
      have h2 := of_decide_eq_true h2
      exact Prod.ext h2.1 h2.2
theorem atoms_key {z : RunV} {a : AtV} (h : a ∈ atomsOf z) {k : KeyT} (hk : klt k (z.clock, z.r, z.n)) : klt k a.key := by
  obtain ⟨i, hi⟩ := List.mem_iff_getElem?.1 h
  rw [atomsOf_get] at hi
  cases hb : z.text[i]? with
  | none => rw [hb] at hi; cases hi
  | some b =>
    rw [hb] at hi
    cases hi
    unfold klt AtV.key at *
    simp only at *
    omega
section
variable {ro : Nat → Option (List AVal)}
theorem shasG_ev {h : AHeap} {s : Nat} {O : Nat → Prop} {A : List AtV} {ar an : Nat} (S : StA h s O A) (ha : an < 2 ^ 32) {Q : AVal → AHeap → Prop} (hq : Q (.bool (atIx A ar an).isSome) h) : Ev (cfgR ro) 31 [.ptr s 0, idA ar an] h Q := by
  obtain ⟨m, t, ix, a1, a2, a3, a4, a5, a6, a7⟩ := S
  refine has_ev a1 a2 ha (fun b hb => ?_)
  have : (atIx A ar an).isSome = b := by
    cases b with
    | true =>
      obtain ⟨p, hp, hh⟩ := hb.1 rfl
      cases e : atIx A ar an with
      | some i => rfl
      | none =>
        rw [← a5] at e
        exact (atIx_none.1 e p.2 (List.mem_map.2 ⟨p, hp, rfl⟩) hh).elim
    | false =>
      have : atIx A ar an = none := by
        rw [← a5]
        refine atIx_none.2 (fun y hy hh => ?_)
        obtain ⟨p, hp, rfl⟩ := List.mem_map.1 hy
        have := hb.2 ⟨p, hp, hh⟩; cases this
      rw [this]; rfl
  rw [← this]; exact hq
theorem where_ev (hro : ro 0 = some [.int .u16 0, .int .u32 0]) {h : AHeap} {s : Nat} {O : Nat → Prop} {A : List AtV} {x : IdT} {k : KeyT} (S : StA h s O A) (hx : x.2 < 2 ^ 32) {Q : AVal → AHeap → Prop}
    (hq1 : x ≠ (0, 0) → atIx A x.1 x.2 = none → Q (.tuple [idA 0 0, .int .i64 40]) h)
    (hq2 : ∀ p0 H R (y : IdT) h', Old h h' → posA A x.1 x.2 = some p0 → A.drop p0 = H ++ R → (∀ z ∈ H, klt k z.key) → (∀ z l, R = z :: l → ¬ klt k z.key) → posA A y.1 y.2 = some (p0 + H.length) → y.2 < 2 ^ 32 → Q (.tuple [idA y.1 y.2, .int .i64 0]) h') :
    Ev (cfgR ro) 19 [.ptr s 0, idA x.1 x.2, keyA k.1 k.2.1 k.2.2] h Q := by
  refine Ev.wp rfl rfl Tryd.func19 rfl ?_
  simp only [idA] at hq1 hq2
  simp -implicitDefEqProofs [Tryd.f19, idA, keyA, same_self]
  refine idRoot_ev hro ?_
  by_cases c : x.1 = 0 ∧ x.2 = 0
  · have hpos : posA A x.1 x.2 = some 0 := by unfold posA; rw [if_pos c]
    rw [decide_eq_true c]
    simp -implicitDefEqProofs [idA, keyA, same_self]
    have hnd := S.nd
    have hps := S.pos
    have hlen := S.len
    have hnum := S.num
    refine scope_loop2 (by simp [findLabel]) (fun m env h' => Old h h' ∧ ∃ (H R : List AtV) (y : IdT), m = R.length ∧ A.drop 0 = H ++ R ∧ (∀ z ∈ H, klt k z.key) ∧ posA A y.1 y.2 = some (0 + H.length) ∧ y.2 < 2 ^ 32 ∧
      env = (.ptr s 0 :: .dead :: .dead :: .dead :: .dead :: .cell [.int .u64 k.1, .int .u16 k.2.1, .int .u32 k.2.2] :: .cell [.int .u16 0, .int .u32 0] :: .dead :: .cell [.int .u16 y.1, .int .u32 y.2] :: .dead :: .dead :: .dead :: .dead :: .dead :: .dead :: .dead :: .dead :: .dead :: .dead :: .dead :: .dead :: .dead :: .dead :: .dead :: .dead :: .dead :: .dead :: .dead :: .dead :: .dead :: .dead :: .dead :: .dead :: .dead :: .dead :: .dead :: .dead :: .dead :: .dead :: [])) ?_ (A.drop 0).length ⟨Old.refl h, [], A.drop 0, x, rfl, rfl, fun z hz => (by cases hz), hpos, hx, rfl⟩
    rintro m env h' ih ⟨oo, H, R, y, rfl, e1, e2, e3, e4, rfl⟩
    have S' := S.keep oo
    have hdr : A.drop (0 + H.length) = R := by rw [← List.drop_drop, e1]; simp
    simp -implicitDefEqProofs [idA, keyA, same_self]
    refine sbehind_ev hro S' (ar := y.1) (an := y.2) e4 (fun kk z rest q1 q2 q3 q4 => ?_) (fun q1 => ?_)
    · have hkk : kk = 0 + H.length := by rw [e3] at q1; exact (Option.some.inj q1).symm
      rw [hkk, hdr] at q2
      have zp := q3.pos
      have zn := q3.n2
      simp -implicitDefEqProofs [idA, keyA, same_self, RunV.cells]
      refine keyCmp_ev (c := z.clock) (r := z.r) (n := z.n) (c' := k.1) (r' := k.2.1) (n' := k.2.2) (fun h2 o2 => ?_)
      have hgt := cmpK_gt (z.clock, z.r, z.n) k
      obtain ⟨cv, hcv⟩ : ∃ cv, cv = cmpK (z.clock, z.r, z.n) (k.1, k.2.1, k.2.2) := ⟨_, rfl⟩
      rw [← hcv] at hgt ⊢
      by_cases ck : 0 < cv
      · have hlt := hgt.1 ck
        have dk : decide (0 < cv) = true := decide_eq_true ck
        simp -implicitDefEqProofs [idA, keyA, same_self, RunV.cells, dk, ck]
        refine rLast_ev (x := z) zp (by omega) ?_
        obtain ⟨ln, hln⟩ : ∃ ln, ln = z.n + (z.text.length - 1) := ⟨_, rfl⟩
        rw [← hln]
        simp -implicitDefEqProofs [idA, keyA, same_self, RunV.cells]
        refine ih rest.length ?_ _ _ ⟨oo.trans o2, H ++ atomsOf z, rest, (z.r, ln), rfl, by rw [e1, q2]; simp, fun w hw => ?_, ?_, by simp only []; omega, rfl⟩
        · rw [q2, List.length_append, atomsOf_len]; omega
        · rcases List.mem_append.1 hw with hw | hw
          · exact e2 w hw
          · exact atoms_key hw hlt
        · have hlast : ∃ b, A[0 + H.length + (z.text.length - 1)]? = some (z.atom (z.text.length - 1) b) := by
            have hb : z.text[z.text.length - 1]? = some (z.text[z.text.length - 1]'(by omega)) := List.getElem?_eq_getElem _
            refine ⟨z.text[z.text.length - 1]'(by omega), ?_⟩
            rw [← List.getElem?_drop, hdr, q2, List.getElem?_append_left (by rw [atomsOf_len]; omega), atomsOf_get, hb]; rfl
          obtain ⟨b, hb⟩ := hlast
          have := atIx_at' hnd hb
          have hne : ¬ (z.r = 0 ∧ ln = 0) := by have := q3.n1; omega
          unfold posA
          rw [if_neg hne]
          have e9 : (z.atom (z.text.length - 1) b).n = ln := by rw [hln]; rfl
          rw [e9] at this
          have e8 : (z.atom (z.text.length - 1) b).r = z.r := rfl
          rw [e8] at this
          rw [this, List.length_append, atomsOf_len]
          simp only [Option.map_some]; congr 1; omega
      · have dk : decide (0 < cv) = false := decide_eq_false ck
        simp -implicitDefEqProofs [idA, keyA, same_self, RunV.cells, dk, ck]
        refine hq2 0 H R y h2 (oo.trans o2) hpos e1 e2 (fun w l e => ?_) e3 e4
        rw [q2] at e
        have hb : z.text[0]? = some (z.text[0]'(by omega)) := List.getElem?_eq_getElem _
        have h0 : (atomsOf z ++ rest)[0]? = some (z.atom 0 (z.text[0]'(by omega))) := by
          rw [List.getElem?_append_left (by rw [atomsOf_len]; omega), atomsOf_get, hb]; rfl
        rw [e] at h0
        have h0 : w = z.atom 0 (z.text[0]'(by omega)) := by simpa using h0
        rw [h0]
        exact fun hh => ck (hgt.2 hh)
    · have hR : R = [] := by
        have := q1 _ e3
        have h2 := congrArg List.length hdr
        rw [List.length_drop] at h2
        exact List.length_eq_zero_iff.1 (by omega)
      simp -implicitDefEqProofs [idA, keyA, same_self, zeroRun]
      exact hq2 0 H R y h' oo hpos e1 e2 (fun w l e => by rw [hR] at e; cases e) e3 e4
  · rw [decide_eq_false c]
    simp -implicitDefEqProofs [idA, keyA, same_self]
    refine shasG_ev S hx ?_
    cases hix : atIx A x.1 x.2 with
    | none =>
      simp -implicitDefEqProofs [idA, keyA, same_self]
      exact hq1 (fun e => c ⟨by rw [e], by rw [e]⟩) hix
    | some i =>
      have hpos : posA A x.1 x.2 = some (i + 1) := by unfold posA; rw [if_neg c, hix]; rfl
      simp -implicitDefEqProofs [idA, keyA, same_self]
      have hnd := S.nd
      have hps := S.pos
      have hlen := S.len
      have hnum := S.num
      refine scope_loop2 (by simp [findLabel]) (fun m env h' => Old h h' ∧ ∃ (H R : List AtV) (y : IdT), m = R.length ∧ A.drop (i + 1) = H ++ R ∧ (∀ z ∈ H, klt k z.key) ∧ posA A y.1 y.2 = some ((i + 1) + H.length) ∧ y.2 < 2 ^ 32 ∧
        env = (.ptr s 0 :: .dead :: .dead :: .dead :: .dead :: .cell [.int .u64 k.1, .int .u16 k.2.1, .int .u32 k.2.2] :: .cell [.int .u16 0, .int .u32 0] :: .dead :: .cell [.int .u16 y.1, .int .u32 y.2] :: .dead :: .dead :: .dead :: .dead :: .dead :: .dead :: .dead :: .dead :: .dead :: .dead :: .dead :: .dead :: .dead :: .dead :: .dead :: .dead :: .dead :: .dead :: .dead :: .dead :: .dead :: .dead :: .dead :: .dead :: .dead :: .dead :: .dead :: .dead :: .dead :: .dead :: [])) ?_ (A.drop (i + 1)).length ⟨Old.refl h, [], A.drop (i + 1), x, rfl, rfl, fun z hz => (by cases hz), hpos, hx, rfl⟩
      rintro m env h' ih ⟨oo, H, R, y, rfl, e1, e2, e3, e4, rfl⟩
      have S' := S.keep oo
      have hdr : A.drop ((i + 1) + H.length) = R := by rw [← List.drop_drop, e1]; simp
      simp -implicitDefEqProofs [idA, keyA, same_self]
      refine sbehind_ev hro S' (ar := y.1) (an := y.2) e4 (fun kk z rest q1 q2 q3 q4 => ?_) (fun q1 => ?_)
      · have hkk : kk = (i + 1) + H.length := by rw [e3] at q1; exact (Option.some.inj q1).symm
        rw [hkk, hdr] at q2
        have zp := q3.pos
        have zn := q3.n2
        simp -implicitDefEqProofs [idA, keyA, same_self, RunV.cells]
        refine keyCmp_ev (c := z.clock) (r := z.r) (n := z.n) (c' := k.1) (r' := k.2.1) (n' := k.2.2) (fun h2 o2 => ?_)
        have hgt := cmpK_gt (z.clock, z.r, z.n) k
        obtain ⟨cv, hcv⟩ : ∃ cv, cv = cmpK (z.clock, z.r, z.n) (k.1, k.2.1, k.2.2) := ⟨_, rfl⟩
        rw [← hcv] at hgt ⊢
        by_cases ck : 0 < cv
        · have hlt := hgt.1 ck
          have dk : decide (0 < cv) = true := decide_eq_true ck
          simp -implicitDefEqProofs [idA, keyA, same_self, RunV.cells, dk, ck]
          refine rLast_ev (x := z) zp (by omega) ?_
          obtain ⟨ln, hln⟩ : ∃ ln, ln = z.n + (z.text.length - 1) := ⟨_, rfl⟩
          rw [← hln]
          simp -implicitDefEqProofs [idA, keyA, same_self, RunV.cells]
          refine ih rest.length ?_ _ _ ⟨oo.trans o2, H ++ atomsOf z, rest, (z.r, ln), rfl, by rw [e1, q2]; simp, fun w hw => ?_, ?_, by simp only []; omega, rfl⟩
          · rw [q2, List.length_append, atomsOf_len]; omega
          · rcases List.mem_append.1 hw with hw | hw
            · exact e2 w hw
            · exact atoms_key hw hlt
          · have hlast : ∃ b, A[(i + 1) + H.length + (z.text.length - 1)]? = some (z.atom (z.text.length - 1) b) := by
              have hb : z.text[z.text.length - 1]? = some (z.text[z.text.length - 1]'(by omega)) := List.getElem?_eq_getElem _
              refine ⟨z.text[z.text.length - 1]'(by omega), ?_⟩
              rw [← List.getElem?_drop, hdr, q2, List.getElem?_append_left (by rw [atomsOf_len]; omega), atomsOf_get, hb]; rfl
            obtain ⟨b, hb⟩ := hlast
            have := atIx_at' hnd hb
            have hne : ¬ (z.r = 0 ∧ ln = 0) := by have := q3.n1; omega
            unfold posA
            rw [if_neg hne]
            have e9 : (z.atom (z.text.length - 1) b).n = ln := by rw [hln]; rfl
            rw [e9] at this
            have e8 : (z.atom (z.text.length - 1) b).r = z.r := rfl
            rw [e8] at this
            rw [this, List.length_append, atomsOf_len]
            simp only [Option.map_some]; congr 1; omega
        · have dk : decide (0 < cv) = false := decide_eq_false ck
          simp -implicitDefEqProofs [idA, keyA, same_self, RunV.cells, dk, ck]
          refine hq2 (i + 1) H R y h2 (oo.trans o2) hpos e1 e2 (fun w l e => ?_) e3 e4
          rw [q2] at e
          have hb : z.text[0]? = some (z.text[0]'(by omega)) := List.getElem?_eq_getElem _
          have h0 : (atomsOf z ++ rest)[0]? = some (z.atom 0 (z.text[0]'(by omega))) := by
            rw [List.getElem?_append_left (by rw [atomsOf_len]; omega), atomsOf_get, hb]; rfl
          rw [e] at h0
          have h0 : w = z.atom 0 (z.text[0]'(by omega)) := by simpa using h0
          rw [h0]
          exact fun hh => ck (hgt.2 hh)
      · have hR : R = [] := by
          have := q1 _ e3
          have h2 := congrArg List.length hdr
          rw [List.length_drop] at h2
          exact List.length_eq_zero_iff.1 (by omega)
        simp -implicitDefEqProofs [idA, keyA, same_self, zeroRun]
        exact hq2 (i + 1) H R y h' oo hpos e1 e2 (fun w l e => by rw [hR] at e; cases e) e3 e4
end
end Go.Proofs.YthblmlkkmebciaaDoor
set_option linter.all false
set_option maxRecDepth 100000
set_option maxHeartbeats 4000000
namespace Go.Proofs.YthblmlkkmebciaaDoor
open Go Go.RowKit Go.Proofs
def RunV.key (x : RunV) : KeyT := (x.clock, x.r, x.n)
section
variable {ro : Nat → Option (List AVal)}
theorem gput_ok_ev (hro : ro 0 = some [.int .u16 0, .int .u32 0]) {h : AHeap} {s p0 : Nat} {O : Nat → Prop} {A : List AtV} {x : IdT} {r : RunV} (S : StA h s O A) (hx : x.2 < 2 ^ 32) (hr : RunOk r) (hp : plain r.text = true) (hpos : posA A x.1 x.2 = some p0) (hhit : hitA A r = false) (hlen : A.length + r.text.length ≤ 65536) {Q : AVal → AHeap → Prop}
    (hq : ∀ H R h' O', A.drop p0 = H ++ R → (∀ z ∈ H, klt r.key z.key) → (∀ z l, R = z :: l → ¬ klt r.key z.key) → StA h' s O' (A.take p0 ++ (H ++ (atomsOf r ++ R))) → Stp h O h' O' → Q (.int .i64 0) h') :
    Ev (cfgR ro) 23 [.ptr s 0, idA x.1 x.2, .agg r.cells] h Q := by
  refine Ev.wp rfl rfl Tryd.func23 rfl ?_
  have hrl := hr.len
  have hrn := hr.n2
  have hre := hr.e2
  have hrp := hr.pos
  simp -implicitDefEqProofs [Tryd.f23, idA, RunV.cells, same_self]
  refine rRight_ev (x := r) (by omega) (by omega) (by omega) (fun h0 b o0 hb => ?_)
  have hbt : b = true := hb.2 ⟨hr, hp⟩
  subst hbt
  have S0 := S.keep o0
  simp -implicitDefEqProofs [same_self]
  refine where_ev hro (x := x) (k := (r.clock, r.r, r.n)) S0 hx (fun h1 h2 => ?_) (fun p H R y h1 o1 e1 e2 e3 e4 e5 e6 => ?_)
  · unfold posA at hpos
    rw [if_neg (fun c => h1 (Prod.ext c.1 c.2)), h2] at hpos; cases hpos
  · have hpp : p = p0 := by rw [e1] at hpos; exact Option.some.inj hpos
    subst hpp
    have S1 := S0.keep o1
    simp -implicitDefEqProofs [same_self, idA]
    refine sput_ev hro (x := r) (ar := y.1) (an := y.2) S1 e6 (by omega) (by omega) (by omega) (fun h2 O2 S2 P2 => ?_)
    have hpl : p ≤ A.length := by
      rcases posA_iff (x := x) hpos with ⟨_, e⟩ | ⟨i, a, e, _, e'⟩
      · omega
      · have := (List.getElem?_eq_some_iff.1 e).1; omega
    have hput : putA A y.1 y.2 r = (A.take p ++ (H ++ (atomsOf r ++ R)), 0) := by
      unfold putA
      rw [if_neg (fun c => c ⟨hr, hp⟩), e5]
      simp only [hhit, Bool.false_eq_true, if_false]
      rw [if_neg (by omega)]
      have t1 : A.take (p + H.length) = A.take p ++ H := by
        have : A = A.take p ++ (H ++ R) := by rw [← e2, List.take_append_drop]
        have hl : (A.take p).length = p := by rw [List.length_take]; omega
        conv => lhs; rw [this]
        rw [show p + H.length = (A.take p).length + H.length by rw [hl], List.take_length_add_append, List.take_left]
      have t2 : A.drop (p + H.length) = R := by rw [← List.drop_drop, e2]; simp
      rw [t1, t2]; simp
    rw [hput] at S2 ⊢
    simp -implicitDefEqProofs
    exact hq H R h2 O2 e2 e3 e4 S2 ((Stp.ofOld O (o0.trans o1)).trans P2)
theorem gput_bad_ev (hro : ro 0 = some [.int .u16 0, .int .u32 0]) {h : AHeap} {s : Nat} {O : Nat → Prop} {A : List AtV} {x : IdT} {r : RunV} (S : StA h s O A) (hx : x.2 < 2 ^ 32) (hrt : r.text.length < 2 ^ 60) (hrn : r.n < 2 ^ 32) (hre : r.en < 2 ^ 32) (hno : x ≠ (0, 0)) (hnone : atIx A x.1 x.2 = none) {Q : AVal → AHeap → Prop}
    (hq : ∀ h', Old h h' → Q (.int .i64 (if RunOk r ∧ plain r.text = true then 40 else 11)) h') :
    Ev (cfgR ro) 23 [.ptr s 0, idA x.1 x.2, .agg r.cells] h Q := by
  refine Ev.wp rfl rfl Tryd.func23 rfl ?_
  simp -implicitDefEqProofs [Tryd.f23, idA, RunV.cells, same_self]
  refine rRight_ev (x := r) hrt hrn hre (fun h0 b o0 hb => ?_)
  have S0 := S.keep o0
  cases b with
  | false =>
    have hq := hq h0 o0
    rw [if_neg (fun c => by have := hb.2 c; cases this)] at hq
    simp -implicitDefEqProofs [same_self]
    exact hq
  | true =>
    have hq := hq h0 o0
    rw [if_pos (hb.1 rfl)] at hq
    simp -implicitDefEqProofs [same_self]
    refine where_ev hro (x := x) (k := (r.clock, r.r, r.n)) S0 hx (fun h1 h2 => ?_) (fun p H R y h1 o1 e1 e2 e3 e4 e5 e6 => ?_)
    · simp -implicitDefEqProofs [same_self, idA]
      exact hq
    · exfalso
      unfold posA at e1
      rw [if_neg (fun c => hno (Prod.ext c.1 c.2)), hnone] at e1; cases e1
theorem ganch_ev (hro : ro 0 = some [.int .u16 0, .int .u32 0]) {h : AHeap} {s : Nat} {O : Nat → Prop} {A : List AtV} {x : IdT} {k : KeyT} (S : StA h s O A) (hx : x.2 < 2 ^ 32) {Q : AVal → AHeap → Prop}
    (hq : ∀ b h', Old h h' → (b = true ↔ (x = (0, 0) ∨ ∃ a ∈ A, a.id = x ∧ klt a.key k)) → Q (.bool b) h') :
    Ev (cfgR ro) 58 [.ptr s 0, idA x.1 x.2, keyA k.1 k.2.1 k.2.2] h Q := by
  refine Ev.wp rfl rfl Tryd.func58 rfl ?_
  have hnd := S.nd
  simp -implicitDefEqProofs [Tryd.f58, idA, keyA, same_self]
  refine sget_ev S hx (fun i a e1 e2 => ?_) (fun hnone => ?_)
  · have hne : x ≠ (0, 0) := fun e => by
      have hp := S.pos a (List.mem_of_getElem? e2)
      unfold atIx at e1
      rw [List.findIdx?_eq_some_iff_getElem] at e1
      obtain ⟨l, h2, _⟩ := e1
      obtain ⟨l2, e3⟩ := List.getElem?_eq_some_iff.1 e2
      rw [e3] at h2
      have h2 := of_decide_eq_true h2
      rw [e] at h2
      simp only at h2
      omega
    have hid : a.id = x := by
      unfold atIx at e1
      rw [List.findIdx?_eq_some_iff_getElem] at e1
      obtain ⟨l, h2, _⟩ := e1
      obtain ⟨l2, e3⟩ := List.getElem?_eq_some_iff.1 e2
      rw [e3] at h2
      have h2 := of_decide_eq_true h2
      exact Prod.ext h2.1 h2.2
    simp -implicitDefEqProofs [idA, keyA, same_self, AtV.cells]
    refine idRoot_ev hro ?_
    rw [decide_eq_false (fun c : x.1 = 0 ∧ x.2 = 0 => hne (Prod.ext c.1 c.2))]
    simp -implicitDefEqProofs [idA, keyA, same_self, AtV.cells]
    refine keyCmp_ev (c := a.clock) (r := a.r) (n := a.n) (c' := k.1) (r' := k.2.1) (n' := k.2.2) (fun h2 o2 => ?_)
    have hlt := cmpK_lt (a.clock, a.r, a.n) k
    obtain ⟨cv, hcv⟩ : ∃ cv, cv = cmpK (a.clock, a.r, a.n) (k.1, k.2.1, k.2.2) := ⟨_, rfl⟩
    rw [← hcv] at hlt ⊢
    simp -implicitDefEqProofs [idA, keyA, same_self, AtV.cells]
    refine hq _ h2 o2 ?_
    rw [decide_eq_true_iff, hlt]
    constructor
    · intro hk; exact .inr ⟨a, List.mem_of_getElem? e2, hid, hk⟩
    · rintro (e | ⟨b, hb, e, hk⟩)
      · exact (hne e).elim
      · have : b = a := by
          obtain ⟨j, hj⟩ := List.mem_iff_getElem?.1 hb
          have h3 := atIx_at' hnd hj
          have h4 := atIx_at' hnd e2
          have e5 : b.r = a.r ∧ b.n = a.n := by
            have := e.trans hid.symm
            unfold AtV.id at this
            simp only [Prod.mk.injEq] at this; exact this
          rw [e5.1, e5.2, h4] at h3
          cases h3
          rw [e2] at hj; exact (Option.some.inj hj).symm
        rw [this] at hk; exact hk
  · simp -implicitDefEqProofs [idA, keyA, same_self, zeroAtom]
    refine idRoot_ev hro ?_
    by_cases c : x.1 = 0 ∧ x.2 = 0
    · rw [decide_eq_true c]
      simp -implicitDefEqProofs [idA, keyA, same_self, zeroAtom]
      exact hq true h (Old.refl h) ⟨fun _ => .inl (Prod.ext c.1 c.2), fun _ => rfl⟩
    · rw [decide_eq_false c]
      simp -implicitDefEqProofs [idA, keyA, same_self, zeroAtom]
      refine hq false h (Old.refl h) ⟨fun e => (nomatch e), fun hh => ?_⟩
      rcases hh with e | ⟨a, ha, e, _⟩
      · exact (c ⟨by rw [e], by rw [e]⟩).elim
      · obtain ⟨j, hj⟩ := List.mem_iff_getElem?.1 ha
        have := atIx_at' hnd hj
        have e5 : a.r = x.1 ∧ a.n = x.2 := by rw [← e]; exact ⟨rfl, rfl⟩
        rw [e5.1, e5.2, hnone] at this; cases this
end
end Go.Proofs.YthblmlkkmebciaaDoor
set_option linter.all false
set_option maxRecDepth 100000
set_option maxHeartbeats 4000000
namespace Go.Proofs.YthblmlkkmebciaaDoor
open Go Go.RowKit Go.Proofs
/-- a run, anchored -/
structure O17 where
  an : IdT
  x : RunV
def O17.cells (o : O17) : List AVal := [.int .u16 o.an.1, .int .u32 o.an.2, .int .u64 o.x.clock, .int .u16 o.x.r, .int .u32 o.x.n, .int .u16 o.x.er, .int .u32 o.x.en, .str o.x.text, .bool o.x.shown]
structure R17 (o : O17) : Prop where
  an : o.an.2 < 2 ^ 32
  x : RunR o.x
/-- one that can be put -/
structure okS (T : List TV) (o : O17) : Prop where
  ok : RunOk o.x
  pl : plain o.x.text = true
  anc : ancT T o.an o.x.key
  free : ∀ a ∈ atomsOf o.x, ∀ t ∈ T, t.id ≠ a.id
def grT (T : List TV) (o : O17) : List TV := T ++ tvs o.an (atomsOf o.x)
inductive Steps : List O17 → List TV → Prop
  | nil : Steps [] []
  | snoc {ds : List O17} {T : List TV} {o : O17} : Steps ds T → okS T o → Steps (ds ++ [o]) (grT T o)
/-- what a run makes of a grown row -/
theorem Grown.put {T : List TV} {A : List AtV} (G : Grown T A) {o : O17} (h : okS T o) {p : Nat} (hp : posA A o.an.1 o.an.2 = some p) {H R : List AtV} (e : A.drop p = H ++ R) (h1 : ∀ z ∈ H, klt o.x.key z.key) (h2 : ∀ z l, R = z :: l → ¬ klt o.x.key z.key) : Grown (grT T o) (A.take p ++ (H ++ (atomsOf o.x ++ R))) := by
  rcases hx : o.x with ⟨c, r, n, er, en, tx, sh⟩
  have hok := h.ok
  rw [hx] at hok
  cases tx with
  | nil => have := hok.pos; simp at this
  | cons b s =>
    have hat : atomsOf o.x = ⟨c, r, n, er, en, b, sh⟩ :: atF c r sh (n + 1) er (en + 1) s := by rw [hx]; rfl
    have hkey : o.x.key = (⟨c, r, n, er, en, b, sh⟩ : AtV).key := by rw [hx]; rfl
    have hids := atF_ids c r sh (b :: s) n er en
    have hn1 := hok.n1
    simp only at hn1
    have hfr := h.free
    rw [hat] at hfr
    have hup : o.an = (0, 0) ∨ ∃ u ∈ T, u.id = o.an ∧ klt u.key (⟨c, r, n, er, en, b, sh⟩ : AtV).key := by
      rw [← hkey]; exact h.anc
    obtain ⟨H', R', g1, g2, g3, g4⟩ := G.run (x := o.an) (b := ⟨c, r, n, er, en, b, sh⟩) (bs := atF c r sh (n + 1) er (en + 1) s) (posA_iff hp) hup (atF_row c r sh s n er en b) hfr hids.1 (fun y hy e => by
      have := hids.2 y hy
      unfold AtV.id at e
      simp only [Prod.mk.injEq] at e
      omega)
    rw [hkey] at h1 h2
    obtain ⟨rfl, rfl⟩ := part_uniq (g1.symm.trans e) g3 g4 h1 h2
    unfold grT
    rw [hat]
    have e9 : atomsOf ⟨c, r, n, er, en, b :: s, sh⟩ = ⟨c, r, n, er, en, b, sh⟩ :: atF c r sh (n + 1) er (en + 1) s := rfl
    rw [e9]
    simpa using g2
section
variable {ro : Nat → Option (List AVal)}
theorem ref17_ev {h : AHeap} {x : RunV} {Q : AVal → AHeap → Prop} (hq : Q (.agg x.cells) h) : Ev (cfgR ro) 28 [.agg x.cells] h Q := by
  refine Ev.wp rfl rfl Tryd.func28 rfl ?_
  simp only [RunV.cells] at hq
  simp -implicitDefEqProofs [Tryd.f28, RunV.cells, same_self]
  exact hq
theorem put17law_ev (hro : ro 0 = some [.int .u16 0, .int .u32 0]) {h : AHeap} {s c n : Nat} {x : IdT} {tx : Str} {Q : AVal → AHeap → Prop} (hq : ∀ K : AVal → AHeap → Prop, (∀ e h', Q (.int .i64 e) h' → K (.int .i64 e) h') → Ev (cfgR ro) 23 [.ptr s 0, idA x.1 x.2, .agg (RunV.cells ⟨c, 0, n, 0, n, tx, true⟩)] h K) : Ev (cfgR ro) 57 [.ptr s 0, idA x.1 x.2, .int .u64 c, .int .u32 n, .str tx] h Q := by
  refine Ev.wp rfl rfl Tryd.func57 rfl ?_
  simp only [idA, RunV.cells] at hq
  simp -implicitDefEqProofs [Tryd.f57, idA, same_self]
  refine hq _ (fun e h' he => ?_)
  simp -implicitDefEqProofs
  exact he
theorem free17_ev {h : AHeap} {v : AVal} {T : List TV} {x : RunV} (hs : Sl (cfgR ro) h 9 v (T.map TV.cells)) (hl : T.length < 2 ^ 60) (hxl : x.text.length < 2 ^ 60) (hn : x.n < 2 ^ 32) (he : x.en < 2 ^ 32) {Q : AVal → AHeap → Prop}
    (hq : ∀ b h', Old h h' → (b = true ↔ RunOk x ∧ plain x.text = true ∧ ∀ a ∈ atomsOf x, ∀ t ∈ T, t.id ≠ a.id) → Q (.bool b) h') : Ev (cfgR ro) 25 [v, .agg x.cells] h Q := by
  refine Ev.wp rfl rfl Tryd.func25 rfl ?_
  simp -implicitDefEqProofs [Tryd.f25, RunV.cells]
  refine ref17_ev (x := x) ?_
  simp -implicitDefEqProofs [RunV.cells]
  refine right15_ev (x := x) hxl hn he (fun b hb => ?_)
  cases b with
  | false =>
    simp -implicitDefEqProofs
    exact hq false h (Old.refl h) ⟨fun e => (nomatch e), fun hh => by have := hb.2 ⟨hh.1, hh.2.1⟩; cases this⟩
  | true =>
    obtain ⟨hx, hp⟩ := hb.1 rfl
    have hxl2 := hx.len
    simp -implicitDefEqProofs
    refine ref17_ev (x := x) ?_
    simp -implicitDefEqProofs [RunV.cells]
    refine atoms15_ev (x := x) hx (fun v2 h1 o1 m2 => ?_)
    have ht := m2.sl (c := cfgR ro)
    have hL2 : lenR (cfgR ro) h1 32 v2 = .ok (.int .i64 (x.text.length : Nat)) := by have := ht.lenR (t := 32) un32; simpa [atomsOf_len] using this
    simp -implicitDefEqProofs [hL2]
    obtain ⟨I, hI⟩ : ∃ I : Nat → List AVal → AHeap → Prop, I = fun m env h' => h' = h1 ∧ ∃ i : Nat, i + m = x.text.length ∧ (∀ j a, j < i → (atomsOf x)[j]? = some a → ∀ t ∈ T, t.id ≠ a.id) ∧
      env = (v :: .dead :: .dead :: .dead :: .dead :: .dead :: .dead :: .dead :: .dead :: .dead :: .dead :: .dead :: .dead :: v2 :: .int .i64 (x.text.length : Nat) :: .int .i64 (i : Nat) :: .dead :: .dead :: .dead :: .dead :: .dead :: .dead :: .dead :: .dead :: .dead :: []) := ⟨_, rfl⟩
    refine loop_of I ?_ x.text.length (by rw [hI]; exact ⟨rfl, 0, by omega, fun j a hj => by omega, rfl⟩)
    intro m env h' hi
    rw [hI] at hi
    obtain ⟨rfl, i, him, hno, rfl⟩ := hi
    by_cases hlt : i < x.text.length
    · obtain ⟨a, ha⟩ : ∃ a, (atomsOf x)[i]? = some a := ⟨_, List.getElem?_eq_getElem (by rw [atomsOf_len]; exact hlt)⟩
      have E := El.of ht ha
      have El_ := E.l
      have w1 : IntKind.i64.wrap ((i : Int) + 1) = ((i + 1 : Nat) : Int) := by rw [w64 (by omega) (by omega)]; omega
      simp -implicitDefEqProofs [hL2, hlt, E.x, El_]
      refine id17_ev (a := a) ?_
      simp -implicitDefEqProofs [idA]
      refine find17_ev (x := (a.r, a.n)) (hs.old o1) hl ?_
      cases hf : fixT T (a.r, a.n) with
      | none =>
        simp -implicitDefEqProofs [ixI, w1]
        exact .mk (m := m - 1) (by omega) (by rw [hI]; exact ⟨rfl, i + 1, by omega, fun j b hj hb => by
          by_cases e : j = i
          · subst e; rw [ha] at hb; cases hb; exact fixT_none.1 hf
          · exact hno j b (by omega) hb, by simp⟩)
      | some z =>
        obtain ⟨t, h3, h4⟩ := fixT_get hf
        have dz : decide ((0 : Int) ≤ (z : Int)) = true := decide_eq_true (by omega)
        simp -implicitDefEqProofs [ixI, dz]
        exact hq false h' o1 ⟨fun e => (nomatch e), fun hh => (hh.2.2 a (List.mem_of_getElem? ha) t (List.mem_of_getElem? h3) h4).elim⟩
    · simp -implicitDefEqProofs [hlt]
      refine hq true h' o1 ⟨fun _ => ⟨hx, hp, fun a ha => ?_⟩, fun _ => rfl⟩
      obtain ⟨j, hj⟩ := List.mem_iff_getElem?.1 ha
      have hjl := (List.getElem?_eq_some_iff.1 hj).1
      rw [atomsOf_len] at hjl
      exact hno j a (by omega) hj
def size17 (l : List O17) : Nat := (l.map fun o => min o.x.text.length 3000).sum
theorem small17_ev {h : AHeap} {v : AVal} {l : List O17} (hs : Sl (cfgR ro) h 9 v (l.map O17.cells)) (hl : l.length < 2 ^ 63) (hr : ∀ o ∈ l, R17 o) {Q : AVal → AHeap → Prop} (hq1 : size17 l ≤ 300 → l.length ≤ 80 → Q (.bool true) h) (hq2 : Q (.bool false) h) : Ev (cfgR ro) 17 [v] h Q := by
  refine Ev.wp rfl rfl Tryd.func17 rfl ?_
  have hL : lenR (cfgR ro) h 49 v = .ok (.int .i64 (l.length : Nat)) := by have := hs.lenR (t := 49) un49; simpa using this
  simp -implicitDefEqProofs [Tryd.f17, hL]
  obtain ⟨I, hI⟩ : ∃ I : Nat → List AVal → AHeap → Prop, I = fun m env h' => h' = h ∧ ∃ i : Nat, i + m = l.length ∧ size17 (l.take i) ≤ 300 ∧
    env = (v :: .dead :: .dead :: .int .i64 (size17 (l.take i) : Nat) :: .dead :: .dead :: v :: .int .i64 (l.length : Nat) :: .int .i64 (i : Nat) :: .dead :: .dead :: .dead :: .dead :: .dead :: .dead :: .dead :: .dead :: .dead :: .dead :: .dead :: .dead :: .dead :: .dead :: .dead :: .dead :: []) := ⟨_, rfl⟩
  refine loop_of I ?_ l.length (by rw [hI]; exact ⟨rfl, 0, by omega, by simp [size17], rfl⟩)
  intro m env h' hi
  rw [hI] at hi
  obtain ⟨rfl, i, him, hsz, rfl⟩ := hi
  by_cases hlt : i < l.length
  · obtain ⟨o, ho⟩ : ∃ o, l[i]? = some o := ⟨_, List.getElem?_eq_getElem hlt⟩
    have he : (l.map O17.cells)[i]? = some o.cells := by rw [List.getElem?_map, ho]; rfl
    have hx : indexAddrR Tryd.prog 49 v (.int .i64 (i : Nat)) = .ok (elp v 9 i) := hs.idx un49 sz51 (by simpa using hlt)
    have hld : loadR (cfgR ro) h' 51 (elp v 9 i) = .ok (.agg o.cells) := hs.load he ag51 sz51
    have w1 : IntKind.i64.wrap ((i : Int) + 1) = ((i + 1 : Nat) : Int) := by rw [w64 (by omega) (by omega)]; omega
    have hsc : size17 (l.take (i + 1)) = size17 (l.take i) + min o.x.text.length 3000 := by
      obtain ⟨l1, e1⟩ := List.getElem?_eq_some_iff.1 ho
      rw [List.take_succ_eq_append_getElem l1, e1]; simp [size17]
    obtain ⟨n, hn⟩ : ∃ n, n = size17 (l.take i) := ⟨_, rfl⟩
    rw [← hn] at hsz hsc ⊢
    simp only [O17.cells] at hld
    have hmin : foldR min2R (.int .i64 (o.x.text.length : Nat)) [.int .i64 3000] = .ok (.int .i64 (min o.x.text.length 3000 : Nat)) := by
      have : min2R (.int .i64 (o.x.text.length : Nat)) (.int .i64 3000) = .ok (.int .i64 (min o.x.text.length 3000 : Nat)) := by
        simp [min2R]; omega
      simp [foldR, this]
    obtain ⟨mn, hmn⟩ : ∃ mn, mn = min o.x.text.length 3000 := ⟨_, rfl⟩
    rw [← hmn] at hmin hsc
    have w2 : IntKind.i64.wrap ((n : Int) + (mn : Int)) = ((n + mn : Nat) : Int) := by rw [w64 (by omega) (by omega)]; omega
    obtain ⟨n2, hn2⟩ : ∃ n2, n2 = n + mn := ⟨_, rfl⟩
    rw [← hn2] at w2 hsc
    by_cases c : 300 < n2
    · have d1 : decide ((300 : Int) < (n2 : Int)) = true := decide_eq_true (by omega)
      simp -implicitDefEqProofs [hlt, hx, hld, hmin, w2, c, d1]
      exact hq2
    · have d1 : decide ((300 : Int) < (n2 : Int)) = false := decide_eq_false (by omega)
      simp -implicitDefEqProofs [hlt, hx, hld, hmin, w1, w2, c, d1]
      exact .mk (m := m - 1) (by omega) (by rw [hI]; exact ⟨rfl, i + 1, by omega, by omega, by rw [hsc]; simp⟩)
  · have : l.take i = l := List.take_of_length_le (by omega)
    rw [this] at hsz ⊢
    simp -implicitDefEqProofs [hlt, hL]
    by_cases c : l.length ≤ 80
    · rw [decide_eq_true (by omega : (l.length : Int) ≤ 80)]
      exact hq1 hsz c
    · rw [decide_eq_false (by omega : ¬ (l.length : Int) ≤ 80)]
      exact hq2
end
end Go.Proofs.YthblmlkkmebciaaDoor
set_option linter.all false
set_option maxRecDepth 100000
set_option maxHeartbeats 4000000
namespace Go.Proofs.YthblmlkkmebciaaDoor
open Go Go.RowKit Go.Proofs
/-- a row of one's own, apart from a store -/
structure Wx (h0 h : AHeap) (O : Nat → Prop) (sz : Nat) (es : List (List AVal)) (v : AVal) : Prop where
  m : Mine h0 h sz es v
  no : ∀ o, vobj v o → ¬ O o
theorem Wx.stp {h0 h h' : AHeap} {O O' : Nat → Prop} {sz : Nat} {es : List (List AVal)} {v : AVal} (W : Wx h0 h O sz es v) (P : Stp h O h' O') : Wx h0 h' O' sz es v := by
  have ob := W.m.obj
  refine ⟨W.m.keepO (fun o ho => P.keep o (ob o ho).2 (W.no o ho)) P.nx, fun o ho hO => ?_⟩
  rcases P.own o hO with h1 | h1
  · exact W.no o ho h1
  · have := (ob o ho).2; omega
theorem Wx.old {h0 h h' : AHeap} {O : Nat → Prop} {sz : Nat} {es : List (List AVal)} {v : AVal} (W : Wx h0 h O sz es v) (o : Old h h') : Wx h0 h' O sz es v := ⟨W.m.keep o, W.no⟩
theorem StA.keepO {h h' : AHeap} {s : Nat} {O : Nat → Prop} {A : List AtV} (S : StA h s O A) (k : ∀ o, O o → h'.get o = h.get o) (hn : h.next ≤ h'.next) : StA h' s O A := by
  obtain ⟨m, t, ix, a1, a2, a3, a4, a5, a6, rfl⟩ := S
  have kk : ∀ q, IObj m h q → h'.get q = h.get q := fun q hq => k q (.inr (.inr hq))
  have kt : ∀ q, q ∈ t.ids → h'.get q = h.get q := fun q hq => k q (.inr (.inl hq))
  obtain ⟨⟨s0, hr⟩, b2, b3, b4, b5, b6⟩ := a1.rp
  refine ⟨m, t, ix, ⟨⟨⟨s0, by rw [k s (.inl rfl)]; exact hr⟩, At.congr kt b2, b3, b4, Nat.lt_of_lt_of_le b5 hn, fun o ho => Nat.lt_of_lt_of_le (b6 o ho) hn⟩, a1.ix.keep kk hn, a1.sub, fun o ho => a1.sep o ((IObj.keep a1 kk o).1 ho)⟩, a2, a3, a4, a5, a6, funext fun q => propext ?_⟩
  unfold SOwn
  rw [IObj.keep a1 kk]
section
variable {ro : Nat → Option (List AVal)}
theorem anchor17_ev (hro : ro 0 = some [.int .u16 0, .int .u32 0]) {h : AHeap} {Q : AVal → AHeap → Prop} (hq : ∀ h', Old h h' → Q (.bool true) h') : Ev (cfgR ro) 16 [] h Q := by
  refine Ev.wp rfl rfl Tryd.func16 rfl ?_
  have S0 := StA.new h
  obtain ⟨H0, hH0⟩ : ∃ H0, H0 = h.push (.row 0 false [.nilp, .int .u64 0, .nilm]) := ⟨_, rfl⟩
  obtain ⟨s, hss⟩ : ∃ s, s = h.next := ⟨_, rfl⟩
  have o0 : Old h H0 := by rw [hH0]; exact (Old.refl h).push _
  rw [← hH0, ← hss] at S0
  have ok1 : ∀ (c n : Nat) (b : UInt8), n = 1 ∨ n = 2 ∨ n = 3 → RunOk (⟨c, 0, n, 0, n, [b], true⟩ : RunV) := fun c n b hn => ⟨by simp, by simp, by simp only []; omega, by simp only [List.length_cons, List.length_nil]; omega, by simp only []; omega, by simp only [List.length_cons, List.length_nil]; omega⟩
  simp -implicitDefEqProofs [Tryd.f16]
  rw [← hH0, ← hss]
  refine put17law_ev hro (x := (0, 0)) (c := 1) (n := 1) (fun K hK => ?_)
  refine gput_ok_ev hro (x := (0, 0)) (r := ⟨1, 0, 1, 0, 1, [97], true⟩) S0 (by decide) (ok1 1 1 97 (by decide)) (by decide) (p0 := 0) rfl rfl (by decide) (fun H R h1 O1 e1 e2 e3 S1 P1 => hK _ _ ?_)
  have hHR : H = [] ∧ R = [] := by simpa using e1.symm
  rw [hHR.1, hHR.2] at S1
  have S1 : StA h1 s O1 [⟨1, 0, 1, 0, 1, 97, true⟩] := S1
  simp -implicitDefEqProofs
  refine put17law_ev hro (x := (0, 1)) (c := 2) (n := 2) (fun K hK => ?_)
  refine gput_ok_ev hro (x := (0, 1)) (r := ⟨2, 0, 2, 0, 2, [98], true⟩) S1 (by decide) (ok1 2 2 98 (by decide)) (by decide) (p0 := 1) (by decide) (by decide) (by decide) (fun H R h2 O2 e1 e2 e3 S2 P2 => hK _ _ ?_)
  have hHR : H = [] ∧ R = [] := by simpa using e1.symm
  rw [hHR.1, hHR.2] at S2
  have S2 : StA h2 s O2 [⟨1, 0, 1, 0, 1, 97, true⟩, ⟨2, 0, 2, 0, 2, 98, true⟩] := S2
  simp -implicitDefEqProofs
  refine put17law_ev hro (x := (0, 1)) (c := 3) (n := 3) (fun K hK => ?_)
  refine gput_ok_ev hro (x := (0, 1)) (r := ⟨3, 0, 3, 0, 3, [99], true⟩) S2 (by decide) (ok1 3 3 99 (by decide)) (by decide) (p0 := 1) (by decide) (by decide) (by decide) (fun H R h3 O3 e1 e2 e3 S3 P3 => hK _ _ ?_)
  obtain ⟨rfl, rfl⟩ := part_uniq (k := (3, 0, 3)) (H' := []) (R' := [⟨2, 0, 2, 0, 2, 98, true⟩]) e1.symm e2 e3 (fun y hy => by cases hy) (fun y l e => by cases e; decide)
  have S3 : StA h3 s O3 [⟨1, 0, 1, 0, 1, 97, true⟩, ⟨3, 0, 3, 0, 3, 99, true⟩, ⟨2, 0, 2, 0, 2, 98, true⟩] := S3
  simp -implicitDefEqProofs
  refine stext_ev S3 (fun h4 o4 => ?_)
  have t4 : shownA [⟨1, 0, 1, 0, 1, 97, true⟩, ⟨3, 0, 3, 0, 3, 99, true⟩, ⟨2, 0, 2, 0, 2, 98, true⟩] = [97, 99, 98] := by decide
  rw [t4]
  simp -implicitDefEqProofs [same_self]
  have PP := (P1.trans P2).trans (P3.trans (Stp.ofOld O3 o4))
  exact hq h4 (PP.toOld o0 (fun o ho => by rw [ho]; omega)).1
theorem grown_ev (hro : ro 0 = some [.int .u16 0, .int .u32 0]) {h : AHeap} {v : AVal} {l : List O17} (hs : Sl (cfgR ro) h 9 v (l.map O17.cells)) (hsz : size17 l ≤ 300) (h80 : l.length ≤ 80) (hr : ∀ o ∈ l, R17 o) {Q : AVal → AHeap → Prop}
    (hq : ∀ h' s O A T ds w d, Old h h' → StA h' s O A → (∀ o, O o → h.next ≤ o) → Grown T A → Steps ds T → A.length = T.length → T.length ≤ 300 → ds.length ≤ 80 → (∀ o ∈ ds, R17 o) → Wx h h' O 9 (T.map TV.cells) w → Wx h h' O 9 (ds.map O17.cells) d → Q (.tuple [.ptr s 0, w, d, .bool true]) h') :
    Ev (cfgR ro) 18 [v] h Q := by
  refine Ev.wp rfl rfl Tryd.func18 rfl ?_
  have S0 := StA.new h
  obtain ⟨H0, hH0⟩ : ∃ H0, H0 = h.push (.row 0 false [.nilp, .int .u64 0, .nilm]) := ⟨_, rfl⟩
  obtain ⟨s, hss⟩ : ∃ s, s = h.next := ⟨_, rfl⟩
  have o0 : Old h H0 := by rw [hH0]; exact (Old.refl h).push _
  rw [← hH0, ← hss] at S0
  have hL := (hs.old o0).lenR (t := 49) un49
  rw [List.length_map] at hL
  have memsz : ∀ o ∈ l, o.x.text.length < 3000 := by
    intro o ho
    have : ∀ l : List O17, o ∈ l → min o.x.text.length 3000 ≤ size17 l := by
      intro l
      induction l with
      | nil => intro h; cases h
      | cons p l ih =>
        intro h
        simp only [size17, List.map_cons, List.sum_cons] at ih ⊢
        rcases List.mem_cons.1 h with rfl | h
        · omega
        · have := ih h; omega
    have := this l ho; omega
  simp -implicitDefEqProofs [Tryd.f18]
  rw [← hH0, ← hss]
  simp -implicitDefEqProofs [hL]
  obtain ⟨I, hI⟩ : ∃ I : Nat → List AVal → AHeap → Prop, I = fun m env h' => ∃ (i : Nat) (O : Nat → Prop) (A : List AtV) (T : List TV) (ds : List O17) (w d : AVal), i + m = l.length ∧ Old h h' ∧ StA h' s O A ∧ (∀ o, O o → h.next ≤ o) ∧ Grown T A ∧ Steps ds T ∧ A.length = T.length ∧ T.length ≤ size17 (l.take i) ∧ ds.length ≤ i ∧ (∀ o ∈ ds, R17 o) ∧ Wx h h' O 9 (T.map TV.cells) w ∧ Wx h h' O 9 (ds.map O17.cells) d ∧ (∀ o, vobj w o → ¬ vobj d o) ∧
    env = (.dead :: .dead :: .dead :: .dead :: .dead :: .dead :: .ptr s 0 :: w :: d :: .dead :: .dead :: .dead :: .dead :: .dead :: v :: .int .i64 (l.length : Nat) :: .int .i64 (i : Nat) :: .dead :: .dead :: .dead :: .dead :: .dead :: .dead :: .dead :: .dead :: .dead :: .dead :: .dead :: .dead :: .dead :: .dead :: .dead :: .dead :: .dead :: .dead :: .dead :: .dead :: .dead :: .dead :: .dead :: .dead :: .dead :: .dead :: .dead :: .dead :: .dead :: .dead :: .dead :: .dead :: .dead :: .dead :: .dead :: .dead :: .dead :: .dead :: .dead :: .dead :: .dead :: .dead :: .dead :: .dead :: .dead :: .dead :: .dead :: .dead :: .dead :: .dead :: .dead :: .dead :: []) := ⟨_, rfl⟩
  refine loop_of I ?_ l.length (by rw [hI]; exact ⟨0, _, [], [], [], .nils, .nils, by omega, o0, S0, fun o ho => by rw [ho]; omega, Grown.nil, .nil, rfl, by simp, by simp, fun o ho => (by cases ho), ⟨Mine.nil _ _ _, fun o ho => ho.elim⟩, ⟨Mine.nil _ _ _, fun o ho => ho.elim⟩, fun o ho => ho.elim, rfl⟩)
  intro m env h' hi
  rw [hI] at hi
  obtain ⟨i, O, A, T, ds, w, d, him, oo, S, hO, G, St_, eAT, hTs, hds, hdr, Ww, Wd, hwd, rfl⟩ := hi
  by_cases hlt : i < l.length
  · obtain ⟨o, ho⟩ : ∃ o, l[i]? = some o := ⟨_, List.getElem?_eq_getElem hlt⟩
    have hom : o ∈ l := List.mem_of_getElem? ho
    have he : (l.map O17.cells)[i]? = some o.cells := by rw [List.getElem?_map, ho]; rfl
    have hsl := hs.old oo
    have hx : indexAddrR Tryd.prog 49 v (.int .i64 (i : Nat)) = .ok (elp v 9 i) := hsl.idx un49 sz51 (by simpa using hlt)
    have hld : loadR (cfgR ro) h' 51 (elp v 9 i) = .ok (.agg o.cells) := hsl.load he ag51 sz51
    have w1 : IntKind.i64.wrap ((i : Int) + 1) = ((i + 1 : Nat) : Int) := by rw [w64 (by omega) (by omega)]; omega
    have htx := memsz o hom
    have hor := hr o hom
    have hsc : size17 (l.take (i + 1)) = size17 (l.take i) + min o.x.text.length 3000 := by
      obtain ⟨l1, e1⟩ := List.getElem?_eq_some_iff.1 ho
      rw [List.take_succ_eq_append_getElem l1, e1]; simp [size17]
    have hle300 : size17 (l.take (i + 1)) ≤ 300 := by
      have : size17 l = size17 (l.take (i + 1)) + size17 (l.drop (i + 1)) := by
        have e9 : size17 (l.take (i + 1) ++ l.drop (i + 1)) = size17 (l.take (i + 1)) + size17 (l.drop (i + 1)) := by unfold size17; rw [List.map_append, List.sum_append]
        rw [List.take_append_drop] at e9; exact e9
      omega
    simp only [O17.cells] at hld
    have eqB : ∀ (h : AHeap) (a b : Bool), eqFlat Tryd.prog h .bool (.bool a) (.bool b) = .ok (a == b) := fun _ _ _ => rfl
    -- the step is none
    have skip : ∀ h2, Old h' h2 → headK I m (.dead :: .dead :: .dead :: .dead :: .dead :: .dead :: .ptr s 0 :: w :: d :: .dead :: .dead :: .dead :: .dead :: .dead :: v :: .int .i64 (l.length : Nat) :: .int .i64 (i + 1 : Nat) :: .dead :: .dead :: .dead :: .dead :: .dead :: .dead :: .dead :: .dead :: .dead :: .dead :: .dead :: .dead :: .dead :: .dead :: .dead :: .dead :: .dead :: .dead :: .dead :: .dead :: .dead :: .dead :: .dead :: .dead :: .dead :: .dead :: .dead :: .dead :: .dead :: .dead :: .dead :: .dead :: .dead :: .dead :: .dead :: .dead :: .dead :: .dead :: .dead :: .dead :: .dead :: .dead :: .dead :: .dead :: .dead :: .dead :: .dead :: .dead :: .dead :: .dead :: .dead :: .dead :: []) h2 := fun h2 o2 =>
      .mk (m := m - 1) (by omega) (by rw [hI]; exact ⟨i + 1, O, A, T, ds, w, d, by omega, oo.trans o2, S.keep o2, hO, G, St_, eAT, by omega, by omega, hdr, Ww.old o2, Wd.old o2, hwd, rfl⟩)
    simp -implicitDefEqProofs [hlt, hx, hld]
    refine anchored17_ev (x := o.an) (k := o.x.key) Ww.m.sl (by omega) G.tree.names (fun b hb => ?_)
    simp -implicitDefEqProofs [same_self]
    refine ganch_ev hro (x := o.an) (k := o.x.key) S hor.an (fun b2 h2 o2 hb2 => ?_)
    have hbb : b2 = b := by
      have : b2 = true ↔ b = true := by
        rw [hb, hb2]
        unfold ancT
        constructor
        · rintro (e | ⟨a, ha, e, hk⟩)
          · exact .inl e
          · obtain ⟨t, ht, rfl⟩ := (G.mem a).1 ha
            exact .inr ⟨t, ht, e, hk⟩
        · rintro (e | ⟨t, ht, e, hk⟩)
          · exact .inl e
          · exact .inr ⟨t.a, (G.mem _).2 ⟨t, ht, rfl⟩, e, hk⟩
      cases b <;> cases b2 <;> simp at this ⊢
    subst hbb
    have S2 := S.keep o2
    have Ww2 := Ww.old o2
    have Wd2 := Wd.old o2
    cases b2 with
    | false =>
      simp -implicitDefEqProofs [same_self, eqB, w1]
      exact skip h2 o2
    | true =>
      simp -implicitDefEqProofs [same_self, eqB]
      refine free17_ev (x := o.x) Ww2.m.sl (by omega) (by omega) hor.x.n hor.x.en (fun b3 h3 o3 hb3 => ?_)
      cases b3 with
      | false =>
        simp -implicitDefEqProofs [same_self, eqB, w1]
        exact skip h3 (o2.trans o3)
      | true =>
        obtain ⟨f1, f2, f3⟩ := hb3.1 rfl
        have hok : okS T o := ⟨f1, f2, hb.1 rfl, f3⟩
        have S3 := S2.keep o3
        have Ww3 := Ww2.old o3
        have Wd3 := Wd2.old o3
        have hhit : hitA A o.x = false := by
          unfold hitA
          rw [List.any_eq_false]
          intro a ha
          have : atIx A a.r a.n = none := atIx_no (fun j b hj hh => by
            obtain ⟨t, ht, e⟩ := (G.mem b).1 (List.mem_of_getElem? hj)
            exact f3 a ha t ht (by unfold TV.id AtV.id; rw [e, hh.1, hh.2]))
          rw [this]; simp
        obtain ⟨p0, hpos⟩ : ∃ p0, posA A o.an.1 o.an.2 = some p0 := by
          rcases hb.1 rfl with e | ⟨t, ht, e, _⟩
          · exact ⟨0, by unfold posA; rw [e]; rfl⟩
          · obtain ⟨j, hj⟩ := List.mem_iff_getElem?.1 ((G.mem t.a).2 ⟨t, ht, rfl⟩)
            have := atIx_at' G.nd hj
            have e5 : t.a.r = o.an.1 ∧ t.a.n = o.an.2 := by rw [← e]; exact ⟨rfl, rfl⟩
            unfold posA
            split
            · exact ⟨0, rfl⟩
            · rw [← e5.1, ← e5.2, this]; exact ⟨_, rfl⟩
        simp -implicitDefEqProofs [same_self, eqB]
        refine gput_ok_ev hro (x := o.an) (r := o.x) S3 hor.an f1 f2 hpos hhit (by omega) (fun H R h4 O4 e1 e2 e3 S4 P4 => ?_)
        have G4 := G.put hok hpos e1 e2 e3
        obtain ⟨oo4, hO4⟩ := P4.toOld ((oo.trans o2).trans o3) hO
        have Ww4 := Ww3.stp P4
        have Wd4 := Wd3.stp P4
        simp -implicitDefEqProofs [same_self, eqB]
        refine ref17_ev (x := o.x) ?_
        simp -implicitDefEqProofs [same_self, eqB, RunV.cells]
        refine put17_ev (y := o.an) (x := o.x) Ww4.m.sl (by omega) f1 (fun w5 h5 o5 m5 => ?_)
        have S5 := S4.keep o5
        have Wd5 := Wd4.old o5
        have m5o := m5.obj
        have hap5 : ∀ o, vobj w5 o → ¬ vobj d o := fun q hq hd => by have := (m5o q hq).1; have := (Wd4.m.obj q hd).2; omega
        have hno5 : ∀ q, vobj w5 q → ¬ O4 q := fun q hq ho => by have := (m5o q hq).1; have := S4.lt q ho; omega
        have op : Old h5 (h5.push (.row 9 false o.cells)) := (Old.refl h5).push _
        obtain ⟨d6, h6, k1, k2, k3⟩ := Mine.append1 (bytes := 56) (e := o.cells) (Wd5.m.keep op) (by decide) rfl (by rw [List.length_map]; omega) ((oo4.trans o5).trans op)
        obtain ⟨g1, g2, g3⟩ := app_frame k1 (Wd5.m.keep op).notSlc
        have hpn : (h5.push (.row 9 false o.cells)).next = h5.next + 1 := rfl
        have k1' := k1
        simp only [O17.cells] at k1'
        simp -implicitDefEqProofs [same_self, eqB, buildSliceR, reps, k1', w1]
        refine .mk (m := m - 1) (by omega) (by
          rw [hI]
          refine ⟨i + 1, O4, _, grT T o, ds ++ [o], w5, d6, by omega, k3, ?_, hO4, G4, .snoc St_ hok, ?_, ?_, by simp; omega, fun q hq => ?_, ?_, ⟨by rw [List.map_append]; exact k2, fun q hq ho => ?_⟩, fun q hq hd => ?_, rfl⟩
          · refine (S5.keep op).keepO (fun q hq => g2 q (by have := S5.lt q hq; omega) (fun hv => Wd5.no q hv hq)) g1
          · have e7 : (tvs o.an (atomsOf o.x)).length = (atomsOf o.x).length := by have := congrArg List.length (tvs_atoms (atomsOf o.x) o.an); simpa using this
            have e8 := congrArg List.length e1
            rw [List.length_drop, List.length_append] at e8
            have hpl : p0 ≤ A.length := by
              rcases posA_iff (x := o.an) hpos with ⟨_, e⟩ | ⟨i, a, e, _, e'⟩
              · omega
              · have := (List.getElem?_eq_some_iff.1 e).1; omega
            unfold grT
            simp only [List.length_append, List.length_take, e7, atomsOf_len]; omega
          · have e7 : (tvs o.an (atomsOf o.x)).length = (atomsOf o.x).length := by have := congrArg List.length (tvs_atoms (atomsOf o.x) o.an); simpa using this
            unfold grT
            rw [List.length_append, e7, atomsOf_len]; omega
          · rcases List.mem_append.1 hq with hq | hq
            · exact hdr q hq
            · rw [List.mem_singleton] at hq; rw [hq]; exact hor
          · have mm : Mine h4 h6 9 ((grT T o).map TV.cells) w5 := (m5.keep op).keepO (fun q hq => g2 q (by have := (m5o q hq).2; omega) (hap5 q hq)) g1
            obtain ⟨z1, z2⟩ := mm
            exact ⟨⟨z1, z2.imp_right (fun ⟨q, fz, y1, y2, y3, y4⟩ => ⟨q, fz, y1, Nat.le_trans oo4.1 y2, y3, y4⟩)⟩, hno5⟩
          · rcases g3 q hq with h7 | h7
            · exact Wd5.no q h7 ho
            · have := S5.lt q ho; omega
          · rcases g3 q hd with h7 | h7
            · exact hap5 q hq h7
            · have := (m5o q hq).2; omega)
  · have hii : i = l.length := by omega
    have : l.take i = l := List.take_of_length_le (by omega)
    rw [this] at hTs
    simp -implicitDefEqProofs [hlt]
    exact hq h' s O A T ds w d oo S hO G St_ eAT (by omega) (by omega) hdr Ww Wd
end
end Go.Proofs.YthblmlkkmebciaaDoor
set_option linter.all false
set_option maxRecDepth 100000
set_option maxHeartbeats 4000000
namespace Go.Proofs.YthblmlkkmebciaaDoor
open Go Go.RowKit Go.Proofs
section
variable {ro : Nat → Option (List AVal)}
theorem eqB17 (h : AHeap) (a b : Bool) : eqFlat Tryd.prog h .bool (.bool a) (.bool b) = .ok (a == b) := rfl
theorem is17_ev {h : AHeap} {s : Nat} {O : Nat → Prop} {A : List AtV} {v : AVal} (S : StA h s O A) (hs : Sl (cfgR ro) h 7 v (A.map AtV.cells)) {Q : AVal → AHeap → Prop} (hq : ∀ h', Old h h' → Q (.bool true) h') : Ev (cfgR ro) 30 [.ptr s 0, v] h Q := by
  refine Ev.wp rfl rfl Tryd.func30 rfl ?_
  have hlen := S.len
  have hL : ∀ h', Old h h' → lenR (cfgR ro) h' 32 v = .ok (.int .i64 (A.length : Nat)) := fun h' o => by have := (hs.old o).lenR (t := 32) un32; simpa using this
  simp -implicitDefEqProofs [Tryd.f30]
  refine satoms_ev S (fun w h1 o1 mw => ?_)
  have hLw : lenR (cfgR ro) h1 109 w = .ok (.int .i64 (A.length : Nat)) := by have := (mw.sl (c := cfgR ro)).lenR (t := 109) un109; simpa using this
  simp -implicitDefEqProofs [hLw, hL h1 o1]
  obtain ⟨I, hI⟩ : ∃ I : Nat → List AVal → AHeap → Prop, I = fun m env h' => h' = h1 ∧ ∃ i : Nat, i + m = A.length ∧
    env = (.dead :: v :: .dead :: .dead :: .dead :: .dead :: .dead :: .dead :: .dead :: .dead :: .dead :: .dead :: .dead :: .dead :: .dead :: w :: .int .i64 (A.length : Nat) :: .int .i64 (i : Nat) :: .dead :: .dead :: .dead :: .dead :: .dead :: .dead :: .dead :: .dead :: .dead :: .dead :: .dead :: .dead :: .dead :: .dead :: .dead :: .dead :: .dead :: .dead :: .dead :: .dead :: .dead :: .dead :: .dead :: .dead :: .dead :: .dead :: .dead :: .dead :: .dead :: .dead :: .dead :: .dead :: .dead :: .dead :: .dead :: .dead :: .dead :: .dead :: .dead :: .dead :: .dead :: .dead :: .dead :: []) := ⟨_, rfl⟩
  refine loop_of I ?_ A.length (by rw [hI]; exact ⟨rfl, 0, by omega, rfl⟩)
  intro n env h' hi
  rw [hI] at hi
  obtain ⟨rfl, i, him, rfl⟩ := hi
  by_cases hlt : i < A.length
  · obtain ⟨a, ha⟩ : ∃ a, A[i]? = some a := ⟨_, List.getElem?_eq_getElem hlt⟩
    have hs1 := hs.old o1
    have he : (A.map AtV.cells)[i]? = some a.cells := by rw [List.getElem?_map, ha]; rfl
    have E := El.of hs1 ha
    have Ek : loadR (cfgR ro) h' 57 (elpo v 7 i 0) = .ok (.agg [.int .u64 a.clock, .int .u16 a.r, .int .u32 a.n]) := hs1.loadA he (by decide) ag57 sz57
    have Ei : loadR (cfgR ro) h' 56 (elpo v 7 i 3) = .ok (.agg [.int .u16 a.er, .int .u32 a.en]) := hs1.loadA he (by decide) ag56 sz56
    have hsw := mw.sl (c := cfgR ro)
    have hx : indexAddrR Tryd.prog 109 w (.int .i64 (i : Nat)) = .ok (elp w 7 i) := hsw.idx un109 sz82 (by simpa using hlt)
    have hld : loadR (cfgR ro) h' 82 (elp w 7 i) = .ok (.agg a.cells) := hsw.load he ag82 sz82
    have w1 : IntKind.i64.wrap ((i : Int) + 1) = ((i + 1 : Nat) : Int) := by rw [w64 (by omega) (by omega)]; omega
    have ek := eqK57 (ro := ro) h' a.clock a.r a.n a.clock a.r a.n
    have ei := eqI56 (ro := ro) h' a.er a.en a.er a.en
    rw [decide_eq_true ⟨rfl, rfl, rfl⟩] at ek
    rw [decide_eq_true ⟨rfl, rfl⟩] at ei
    simp only [AtV.cells] at hld
    simp -implicitDefEqProofs [hlt, hx, hld, E.x, E.o, E.p, Ek, Ei, E.l5, E.l6, ek, ei, eqL57, eqL56, eqB17, same_self, w1]
    exact .mk (m := n - 1) (by omega) (by rw [hI]; exact ⟨rfl, i + 1, by omega, by simp⟩)
  · simp -implicitDefEqProofs [hlt]
    exact hq h' o1
theorem GraftOrders_ev (hro : ro 0 = some [.int .u16 0, .int .u32 0]) {h : AHeap} {v : AVal} {l : List O17} (hs : Sl (cfgR ro) h 9 v (l.map O17.cells)) (hl : l.length < 2 ^ 63) (hr : ∀ o ∈ l, R17 o) : Ev (cfgR ro) 6 [v] h (fun x _ => x = .bool true) := by
  refine Ev.wp rfl rfl Tryd.func6 rfl ?_
  simp -implicitDefEqProofs [Tryd.f6]
  refine anchor17_ev hro (fun h1 o1 => ?_)
  simp -implicitDefEqProofs
  refine small17_ev (hs.old o1) hl hr (fun hsz h80 => ?_) (by simp -implicitDefEqProofs)
  simp -implicitDefEqProofs
  refine grown_ev hro (hs.old o1) hsz h80 hr (fun h2 s O A T ds w d o2 S hO G St_ eAT hT hd hdr Ww Wd => ?_)
  obtain ⟨ks, hk, ho⟩ := G.ord
  simp -implicitDefEqProofs
  refine order_ev T (by omega) A.length A (0, 0) ks (Nat.le_refl _) (by omega) hk ho Ww.m.sl (fun w3 h3 o3 m3 => ?_)
  simp -implicitDefEqProofs
  refine is17_ev (S.keep o3) m3.sl (fun h4 o4 => ?_)
  simp -implicitDefEqProofs
end
end Go.Proofs.YthblmlkkmebciaaDoor
