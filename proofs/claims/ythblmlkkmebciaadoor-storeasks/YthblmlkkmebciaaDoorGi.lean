/-
  A part of the proof of StoreAsks, over the seat YthblmlkkmebciaaDoor: for every input the law returns true, and the input reads as it did.
-/
import Derived.Test.YthblmlkkmebciaaDoorGh
import Derived.Test.YthblmlkkmebciaaDoorRows
import Derived.Test.YthblmlkkmebciaaDoorCards
import Derived.Test.YthblmlkkmebciaaDoorTie
import Derived.ProofKit
import Derived.Handed
import Derived.LaidLaws
import Derived.MakeChecks
import Derived.SevenTiedAt
set_option linter.all false
set_option linter.all false
set_option maxRecDepth 100000
set_option maxHeartbeats 4000000
namespace Go.Proofs.YthblmlkkmebciaaDoor
open Go Go.RowKit Go.Proofs
theorem atIx_lt {A : List AtV} {r n i : Nat} (h : atIx A r n = some i) : i < A.length := by
  unfold atIx at h
  rw [List.findIdx?_eq_some_iff_getElem] at h
  exact h.1
section
variable {ro : Nat → Option (List AVal)}
theorem Put16_ev {h : AHeap} {v : AVal} {A : List AtV} {ar an : Nat} {x : RunV} (hs : Sl (cfgR ro) h 7 v (A.map AtV.cells)) (hv : notSlc v) (hl : A.length < 2 ^ 30) (hxl : x.text.length < 2 ^ 60) (hn : x.n < 2 ^ 32) (he : x.en < 2 ^ 32) {Q : AVal → AHeap → Prop}
    (hq : ∀ v' h', Old h h' → (v' = v ∧ (putA A ar an x).1 = A) ∨ Mine h h' 7 ((putA A ar an x).1.map AtV.cells) v' → Q (.tuple [v', .int .i64 ((putA A ar an x).2 : Nat)]) h') : Ev (cfgR ro) 47 [v, idA ar an, .agg x.cells] h Q := by
  refine Ev.wp rfl rfl Tryd.func47 rfl ?_
  have hL : ∀ h', Old h h' → lenR (cfgR ro) h' 32 v = .ok (.int .i64 (A.length : Nat)) := fun h' o => by have := (hs.old o).lenR (t := 32) un32; simpa using this
  simp -implicitDefEqProofs [Tryd.f47, idA, RunV.cells]
  refine right15_ev (x := x) hxl hn he (fun b hb => ?_)
  cases b with
  | false =>
    have e : putA A ar an x = (A, 11) := by unfold putA; rw [if_pos (fun hh => by have := hb.2 hh; cases this)]
    rw [e] at hq
    simp -implicitDefEqProofs [same_self]
    exact hq v h (Old.refl h) (.inl ⟨rfl, rfl⟩)
  | true =>
    obtain ⟨hx, hpl⟩ := hb.1 rfl
    have e0 : putA A ar an x = (match posA A ar an with
      | none => (A, 40)
      | some k => if hitA A x = true then (A, 16) else if 65536 < A.length + x.text.length then (A, 21) else (A.take k ++ atomsOf x ++ A.drop k, 0)) := by unfold putA; rw [if_neg (fun h => h ⟨hx, hpl⟩)] <;> rfl
    rw [e0] at hq
    have hxl2 := hx.len
    simp -implicitDefEqProofs [same_self]
    by_cases c : ar = 0 ∧ an = 0
    · have hpos : posA A ar an = some 0 := by unfold posA; rw [if_pos c]
      obtain ⟨k, hk⟩ : ∃ k, k = 0 := ⟨_, rfl⟩
      rw [← hk] at hpos
      have hkl : k ≤ A.length := by omega
      have hki : (0 : Int) = (k : Int) := by omega
      have d1 := c.1
      have d2 := c.2
      simp only [hpos] at hq
      simp -implicitDefEqProofs [same_self, d1, d2]
      refine atoms15_ev hx (fun v2 h1 o1 hm2 => ?_)
      have ht := hm2.sl (c := cfgR ro)
      have hL2 : lenR (cfgR ro) h1 32 v2 = .ok (.int .i64 (x.text.length : Nat)) := by have := ht.lenR (t := 32) un32; simpa [atomsOf_len] using this
      simp -implicitDefEqProofs [same_self]
      obtain ⟨I, hI⟩ : ∃ I : Nat → List AVal → AHeap → Prop, I = fun m env h' => h' = h1 ∧ ∃ i : Nat, i + m = x.text.length ∧ (∀ j a, j < i → (atomsOf x)[j]? = some a → atIx A a.r a.n = none) ∧
        env = (v :: .dead :: .dead :: .dead :: .dead :: .dead :: .dead :: .dead :: .int .i64 (k : Nat) :: v2 :: .int .i64 (i : Nat) :: .dead :: .dead :: .dead :: .dead :: .dead :: .dead :: .dead :: .dead :: .dead :: .dead :: .dead :: .dead :: .dead :: .dead :: .dead :: .dead :: .dead :: .dead :: .dead :: .dead :: .dead :: .dead :: .dead :: .dead :: .dead :: .dead :: .dead :: .dead :: .dead :: .dead :: .dead :: .dead :: .dead :: .dead :: .dead :: .dead :: .dead :: .dead :: .dead :: .dead :: .dead :: .dead :: .dead :: .dead :: .dead :: .dead :: .dead :: .dead :: .dead :: .dead :: .dead :: .dead :: .dead :: .dead :: .dead :: .dead :: .dead :: .dead :: .dead :: .dead :: .dead :: .dead :: .dead :: .dead :: .dead :: []) := ⟨_, rfl⟩
      refine loop_of I ?_ x.text.length (by rw [hI]; exact ⟨rfl, 0, by omega, fun j a hj => by omega, by first | rfl | (rw [hk]; rfl)⟩)
      intro m env h' hi
      rw [hI] at hi
      obtain ⟨rfl, i, him, hno, rfl⟩ := hi
      by_cases hlt : i < x.text.length
      · obtain ⟨a, ha⟩ : ∃ a, (atomsOf x)[i]? = some a := ⟨_, List.getElem?_eq_getElem (by rw [atomsOf_len]; exact hlt)⟩
        have E := El.of ht ha
        have w1 : IntKind.i64.wrap ((i : Int) + 1) = ((i + 1 : Nat) : Int) := by rw [w64 (by omega) (by omega)]; omega
        simp -implicitDefEqProofs [hL2, hlt, E.x, E.o, E.p, E.l1, E.l2, same_self]
        refine At_ev (r := a.r) (n := a.n) (hs.old o1) (by omega) ?_
        cases hh : atIx A a.r a.n with
        | none =>
          simp -implicitDefEqProofs [same_self, ixI, w1, E.l1, E.l2]
          exact .mk (m := m - 1) (by omega) (by rw [hI]; exact ⟨rfl, i + 1, by omega, fun j b hj hb => by
            by_cases e : j = i
            · subst e; rw [ha] at hb; cases hb; exact hh
            · exact hno j b (by omega) hb, by simp⟩)
        | some z =>
          have hhit : hitA A x = true := by
            unfold hitA
            rw [List.any_eq_true]
            exact ⟨a, List.mem_of_getElem? ha, by rw [hh]; rfl⟩
          simp only [hhit, if_true] at hq
          have dz : decide ((0 : Int) ≤ (z : Int)) = true := decide_eq_true (by omega)
          simp -implicitDefEqProofs [same_self, ixI, dz, E.l1, E.l2]
          exact hq v h' o1 (.inl ⟨rfl, by first | rfl | trivial⟩)
      · have hhit : hitA A x = false := by
          unfold hitA
          rw [List.any_eq_false]
          intro a ha
          obtain ⟨j, hj⟩ := List.mem_iff_getElem?.1 ha
          have hjl := (List.getElem?_eq_some_iff.1 hj).1
          rw [atomsOf_len] at hjl
          rw [hno j a (by omega) hj]; simp
        simp only [hhit, Bool.false_eq_true, if_false] at hq
        obtain ⟨tot, htot⟩ : ∃ tot, tot = A.length + x.text.length := ⟨_, rfl⟩
        have w2 : IntKind.i64.wrap ((A.length : Int) + (x.text.length : Int)) = (tot : Int) := by rw [w64 (by omega) (by omega)]; omega
        rw [← htot] at hq
        by_cases cf : 65536 < tot
        · have d3 : decide ((65536 : Int) < (tot : Int)) = true := decide_eq_true (by omega)
          simp only [cf, if_true] at hq
          simp -implicitDefEqProofs [hL2, hL h' o1, hlt, same_self, w2, cf, d3]
          exact hq v h' o1 (.inl ⟨rfl, by first | rfl | trivial⟩)
        · have d3 : decide ((65536 : Int) < (tot : Int)) = false := decide_eq_false (by omega)
          simp only [cf, if_false] at hq
          have hs1 := hs.old o1
          have hal : (A.map AtV.cells).length = A.length := List.length_map _
          obtain ⟨p1, p2, p3⟩ := hs1.upto (at_ := k) (by decide) hv (by rw [hal]; exact hkl) .i64
          obtain ⟨u1, hu1⟩ : ∃ u1, u1 = cutV v 7 0 k := ⟨_, rfl⟩
          rw [← hu1] at p1 p2
          have q1 := p2.len
          have q2 := p2.read
          have hel : ∀ e ∈ A.map AtV.cells, e.length = 7 := fun e he => by obtain ⟨a, _, rfl⟩ := List.mem_map.1 he; rfl
          have hn1 : ((A.map AtV.cells).take k).length = k := by rw [List.length_take, hal]; omega
          obtain ⟨w1', h2, e1, m1, o2⟩ := (Mine.nil h' h' 7).append (bytes := 32) (new := (A.map AtV.cells).take k) (by decide) (fun e he => hel e (List.mem_of_mem_take he)) (by rw [hn1]; simp; omega) (Old.refl h')
          rw [List.nil_append] at m1
          rw [hn1] at q1 q2 e1
          have ht2 := ht.old o2
          have hxl3 : ((atomsOf x).map AtV.cells).length = x.text.length := by rw [List.length_map, atomsOf_len]
          have q3 := ht2.len
          have q4 := ht2.read
          obtain ⟨w2', h3, e2, m2, o3⟩ := m1.append (bytes := 32) (new := (atomsOf x).map AtV.cells) (by decide) (fun e he => by obtain ⟨a, _, rfl⟩ := List.mem_map.1 he; rfl) (by rw [hn1, hxl3]; omega) o2
          rw [hxl3] at q3 q4 e2
          have hs3 := hs1.old o3
          obtain ⟨p4, p5, p6⟩ := hs3.from_ (at_ := k) (by decide) hv (by rw [hal]; exact hkl) .i64
          obtain ⟨u2, hu2⟩ : ∃ u2, u2 = cutV v 7 k (A.map AtV.cells).length := ⟨_, rfl⟩
          rw [← hu2] at p4 p5
          have q5 := p5.len
          have q6 := p5.read
          have hn2 : ((A.map AtV.cells).drop k).length = A.length - k := by rw [List.length_drop, hal]
          obtain ⟨w3', h4, e3, m3, o4⟩ := m2.append (bytes := 32) (new := (A.map AtV.cells).drop k) (by decide) (fun e he => hel e (List.mem_of_mem_drop he)) (by rw [List.length_append, hn1, hxl3, hn2]; omega) o3
          rw [hn2] at q5 q6 e3
          have hm4 : Mine h h4 7 ((A.take k ++ atomsOf x ++ A.drop k).map AtV.cells) w3' := by
            rw [List.map_append, List.map_append, List.map_take, List.map_drop]
            obtain ⟨z1, z2⟩ := m3
            exact ⟨z1, z2.imp_right (fun ⟨q, fz, g1, g2, g3⟩ => ⟨q, fz, g1, Nat.le_trans o1.1 g2, g3⟩)⟩
          simp -implicitDefEqProofs [hL2, hL h' o1, hlt, same_self, w2, cf, d3, p1, q1, q2, e1, q3, q4, e2, p4, q5, q6, e3]
          exact hq w3' h4 (o1.trans o4) (.inr hm4)
    · cases hix : atIx A ar an with
      | none =>
        have hpos : posA A ar an = none := by unfold posA; rw [if_neg c, hix]; rfl
        simp only [hpos] at hq
        have w0 : IntKind.i64.wrap 0 = 0 := by decide
        by_cases d1 : ar = 0
        · have d2 : ¬ an = 0 := fun e => c ⟨d1, e⟩
          simp -implicitDefEqProofs [same_self, d1, d2]
          refine At_ev (r := 0) (n := an) hs (by omega) ?_
          rw [show atIx A 0 an = atIx A ar an by rw [d1], hix]
          simp -implicitDefEqProofs [same_self, ixI, w0]
          exact hq v h (Old.refl h) (.inl ⟨rfl, by first | rfl | trivial⟩)
        · simp -implicitDefEqProofs [same_self, d1]
          refine At_ev hs (by omega) ?_
          rw [hix]
          simp -implicitDefEqProofs [same_self, ixI, w0]
          exact hq v h (Old.refl h) (.inl ⟨rfl, by first | rfl | trivial⟩)
      | some i =>
        have hil := atIx_lt hix
        obtain ⟨k, hk⟩ : ∃ k, k = i + 1 := ⟨_, rfl⟩
        have hpos : posA A ar an = some k := by unfold posA; rw [if_neg c, hix, hk]; rfl
        simp only [hpos] at hq
        have hkl : k ≤ A.length := by omega
        have w0 : IntKind.i64.wrap ((i : Int) + 1) = (k : Int) := by rw [w64 (by omega) (by omega)]; omega
        have k0 : ¬ k = 0 := by omega
        have k0' : decide ((k : Int) = 0) = false := decide_eq_false (by omega)
        by_cases d1 : ar = 0
        · have d2 : ¬ an = 0 := fun e => c ⟨d1, e⟩
          simp -implicitDefEqProofs [same_self, d1, d2]
          refine At_ev (r := 0) (n := an) hs (by omega) ?_
          rw [show atIx A 0 an = atIx A ar an by rw [d1], hix]
          simp -implicitDefEqProofs [same_self, ixI, w0, k0, k0']
          refine atoms15_ev hx (fun v2 h1 o1 hm2 => ?_)
          have ht := hm2.sl (c := cfgR ro)
          have hL2 : lenR (cfgR ro) h1 32 v2 = .ok (.int .i64 (x.text.length : Nat)) := by have := ht.lenR (t := 32) un32; simpa [atomsOf_len] using this
          simp -implicitDefEqProofs [same_self]
          obtain ⟨I, hI⟩ : ∃ I : Nat → List AVal → AHeap → Prop, I = fun m env h' => h' = h1 ∧ ∃ i : Nat, i + m = x.text.length ∧ (∀ j a, j < i → (atomsOf x)[j]? = some a → atIx A a.r a.n = none) ∧
            env = (v :: .dead :: .dead :: .dead :: .dead :: .dead :: .dead :: .dead :: .int .i64 (k : Nat) :: v2 :: .int .i64 (i : Nat) :: .dead :: .dead :: .dead :: .dead :: .dead :: .dead :: .dead :: .dead :: .dead :: .dead :: .dead :: .dead :: .dead :: .dead :: .dead :: .dead :: .dead :: .dead :: .dead :: .dead :: .dead :: .dead :: .dead :: .dead :: .dead :: .dead :: .dead :: .dead :: .dead :: .dead :: .dead :: .dead :: .dead :: .dead :: .dead :: .dead :: .dead :: .dead :: .dead :: .dead :: .dead :: .dead :: .dead :: .dead :: .dead :: .dead :: .dead :: .dead :: .dead :: .dead :: .dead :: .dead :: .dead :: .dead :: .dead :: .dead :: .dead :: .dead :: .dead :: .dead :: .dead :: .dead :: .dead :: .dead :: .dead :: []) := ⟨_, rfl⟩
          refine loop_of I ?_ x.text.length (by rw [hI]; exact ⟨rfl, 0, by omega, fun j a hj => by omega, by first | rfl | (rw [hk]; rfl)⟩)
          intro m env h' hi
          rw [hI] at hi
          obtain ⟨rfl, i, him, hno, rfl⟩ := hi
          by_cases hlt : i < x.text.length
          · obtain ⟨a, ha⟩ : ∃ a, (atomsOf x)[i]? = some a := ⟨_, List.getElem?_eq_getElem (by rw [atomsOf_len]; exact hlt)⟩
            have E := El.of ht ha
            have w1 : IntKind.i64.wrap ((i : Int) + 1) = ((i + 1 : Nat) : Int) := by rw [w64 (by omega) (by omega)]; omega
            simp -implicitDefEqProofs [hL2, hlt, E.x, E.o, E.p, E.l1, E.l2, same_self]
            refine At_ev (r := a.r) (n := a.n) (hs.old o1) (by omega) ?_
            cases hh : atIx A a.r a.n with
            | none =>
              simp -implicitDefEqProofs [same_self, ixI, w1, E.l1, E.l2]
              exact .mk (m := m - 1) (by omega) (by rw [hI]; exact ⟨rfl, i + 1, by omega, fun j b hj hb => by
                by_cases e : j = i
                · subst e; rw [ha] at hb; cases hb; exact hh
                · exact hno j b (by omega) hb, by simp⟩)
            | some z =>
              have hhit : hitA A x = true := by
                unfold hitA
                rw [List.any_eq_true]
                exact ⟨a, List.mem_of_getElem? ha, by rw [hh]; rfl⟩
              simp only [hhit, if_true] at hq
              have dz : decide ((0 : Int) ≤ (z : Int)) = true := decide_eq_true (by omega)
              simp -implicitDefEqProofs [same_self, ixI, dz, E.l1, E.l2]
              exact hq v h' o1 (.inl ⟨rfl, by first | rfl | trivial⟩)
          · have hhit : hitA A x = false := by
              unfold hitA
              rw [List.any_eq_false]
              intro a ha
              obtain ⟨j, hj⟩ := List.mem_iff_getElem?.1 ha
              have hjl := (List.getElem?_eq_some_iff.1 hj).1
              rw [atomsOf_len] at hjl
              rw [hno j a (by omega) hj]; simp
            simp only [hhit, Bool.false_eq_true, if_false] at hq
            obtain ⟨tot, htot⟩ : ∃ tot, tot = A.length + x.text.length := ⟨_, rfl⟩
            have w2 : IntKind.i64.wrap ((A.length : Int) + (x.text.length : Int)) = (tot : Int) := by rw [w64 (by omega) (by omega)]; omega
            rw [← htot] at hq
            by_cases cf : 65536 < tot
            · have d3 : decide ((65536 : Int) < (tot : Int)) = true := decide_eq_true (by omega)
              simp only [cf, if_true] at hq
              simp -implicitDefEqProofs [hL2, hL h' o1, hlt, same_self, w2, cf, d3]
              exact hq v h' o1 (.inl ⟨rfl, by first | rfl | trivial⟩)
            · have d3 : decide ((65536 : Int) < (tot : Int)) = false := decide_eq_false (by omega)
              simp only [cf, if_false] at hq
              have hs1 := hs.old o1
              have hal : (A.map AtV.cells).length = A.length := List.length_map _
              obtain ⟨p1, p2, p3⟩ := hs1.upto (at_ := k) (by decide) hv (by rw [hal]; exact hkl) .i64
              obtain ⟨u1, hu1⟩ : ∃ u1, u1 = cutV v 7 0 k := ⟨_, rfl⟩
              rw [← hu1] at p1 p2
              have q1 := p2.len
              have q2 := p2.read
              have hel : ∀ e ∈ A.map AtV.cells, e.length = 7 := fun e he => by obtain ⟨a, _, rfl⟩ := List.mem_map.1 he; rfl
              have hn1 : ((A.map AtV.cells).take k).length = k := by rw [List.length_take, hal]; omega
              obtain ⟨w1', h2, e1, m1, o2⟩ := (Mine.nil h' h' 7).append (bytes := 32) (new := (A.map AtV.cells).take k) (by decide) (fun e he => hel e (List.mem_of_mem_take he)) (by rw [hn1]; simp; omega) (Old.refl h')
              rw [List.nil_append] at m1
              rw [hn1] at q1 q2 e1
              have ht2 := ht.old o2
              have hxl3 : ((atomsOf x).map AtV.cells).length = x.text.length := by rw [List.length_map, atomsOf_len]
              have q3 := ht2.len
              have q4 := ht2.read
              obtain ⟨w2', h3, e2, m2, o3⟩ := m1.append (bytes := 32) (new := (atomsOf x).map AtV.cells) (by decide) (fun e he => by obtain ⟨a, _, rfl⟩ := List.mem_map.1 he; rfl) (by rw [hn1, hxl3]; omega) o2
              rw [hxl3] at q3 q4 e2
              have hs3 := hs1.old o3
              obtain ⟨p4, p5, p6⟩ := hs3.from_ (at_ := k) (by decide) hv (by rw [hal]; exact hkl) .i64
              obtain ⟨u2, hu2⟩ : ∃ u2, u2 = cutV v 7 k (A.map AtV.cells).length := ⟨_, rfl⟩
              rw [← hu2] at p4 p5
              have q5 := p5.len
              have q6 := p5.read
              have hn2 : ((A.map AtV.cells).drop k).length = A.length - k := by rw [List.length_drop, hal]
              obtain ⟨w3', h4, e3, m3, o4⟩ := m2.append (bytes := 32) (new := (A.map AtV.cells).drop k) (by decide) (fun e he => hel e (List.mem_of_mem_drop he)) (by rw [List.length_append, hn1, hxl3, hn2]; omega) o3
              rw [hn2] at q5 q6 e3
              have hm4 : Mine h h4 7 ((A.take k ++ atomsOf x ++ A.drop k).map AtV.cells) w3' := by
                rw [List.map_append, List.map_append, List.map_take, List.map_drop]
                obtain ⟨z1, z2⟩ := m3
                exact ⟨z1, z2.imp_right (fun ⟨q, fz, g1, g2, g3⟩ => ⟨q, fz, g1, Nat.le_trans o1.1 g2, g3⟩)⟩
              simp -implicitDefEqProofs [hL2, hL h' o1, hlt, same_self, w2, cf, d3, p1, q1, q2, e1, q3, q4, e2, p4, q5, q6, e3]
              exact hq w3' h4 (o1.trans o4) (.inr hm4)
        · simp -implicitDefEqProofs [same_self, d1]
          refine At_ev hs (by omega) ?_
          rw [hix]
          simp -implicitDefEqProofs [same_self, ixI, w0, k0, k0']
          refine atoms15_ev hx (fun v2 h1 o1 hm2 => ?_)
          have ht := hm2.sl (c := cfgR ro)
          have hL2 : lenR (cfgR ro) h1 32 v2 = .ok (.int .i64 (x.text.length : Nat)) := by have := ht.lenR (t := 32) un32; simpa [atomsOf_len] using this
          simp -implicitDefEqProofs [same_self]
          obtain ⟨I, hI⟩ : ∃ I : Nat → List AVal → AHeap → Prop, I = fun m env h' => h' = h1 ∧ ∃ i : Nat, i + m = x.text.length ∧ (∀ j a, j < i → (atomsOf x)[j]? = some a → atIx A a.r a.n = none) ∧
            env = (v :: .dead :: .dead :: .dead :: .dead :: .dead :: .dead :: .dead :: .int .i64 (k : Nat) :: v2 :: .int .i64 (i : Nat) :: .dead :: .dead :: .dead :: .dead :: .dead :: .dead :: .dead :: .dead :: .dead :: .dead :: .dead :: .dead :: .dead :: .dead :: .dead :: .dead :: .dead :: .dead :: .dead :: .dead :: .dead :: .dead :: .dead :: .dead :: .dead :: .dead :: .dead :: .dead :: .dead :: .dead :: .dead :: .dead :: .dead :: .dead :: .dead :: .dead :: .dead :: .dead :: .dead :: .dead :: .dead :: .dead :: .dead :: .dead :: .dead :: .dead :: .dead :: .dead :: .dead :: .dead :: .dead :: .dead :: .dead :: .dead :: .dead :: .dead :: .dead :: .dead :: .dead :: .dead :: .dead :: .dead :: .dead :: .dead :: .dead :: []) := ⟨_, rfl⟩
          refine loop_of I ?_ x.text.length (by rw [hI]; exact ⟨rfl, 0, by omega, fun j a hj => by omega, by first | rfl | (rw [hk]; rfl)⟩)
          intro m env h' hi
          rw [hI] at hi
          obtain ⟨rfl, i, him, hno, rfl⟩ := hi
          by_cases hlt : i < x.text.length
          · obtain ⟨a, ha⟩ : ∃ a, (atomsOf x)[i]? = some a := ⟨_, List.getElem?_eq_getElem (by rw [atomsOf_len]; exact hlt)⟩
            have E := El.of ht ha
            have w1 : IntKind.i64.wrap ((i : Int) + 1) = ((i + 1 : Nat) : Int) := by rw [w64 (by omega) (by omega)]; omega
            simp -implicitDefEqProofs [hL2, hlt, E.x, E.o, E.p, E.l1, E.l2, same_self]
            refine At_ev (r := a.r) (n := a.n) (hs.old o1) (by omega) ?_
            cases hh : atIx A a.r a.n with
            | none =>
              simp -implicitDefEqProofs [same_self, ixI, w1, E.l1, E.l2]
              exact .mk (m := m - 1) (by omega) (by rw [hI]; exact ⟨rfl, i + 1, by omega, fun j b hj hb => by
                by_cases e : j = i
                · subst e; rw [ha] at hb; cases hb; exact hh
                · exact hno j b (by omega) hb, by simp⟩)
            | some z =>
              have hhit : hitA A x = true := by
                unfold hitA
                rw [List.any_eq_true]
                exact ⟨a, List.mem_of_getElem? ha, by rw [hh]; rfl⟩
              simp only [hhit, if_true] at hq
              have dz : decide ((0 : Int) ≤ (z : Int)) = true := decide_eq_true (by omega)
              simp -implicitDefEqProofs [same_self, ixI, dz, E.l1, E.l2]
              exact hq v h' o1 (.inl ⟨rfl, by first | rfl | trivial⟩)
          · have hhit : hitA A x = false := by
              unfold hitA
              rw [List.any_eq_false]
              intro a ha
              obtain ⟨j, hj⟩ := List.mem_iff_getElem?.1 ha
              have hjl := (List.getElem?_eq_some_iff.1 hj).1
              rw [atomsOf_len] at hjl
              rw [hno j a (by omega) hj]; simp
            simp only [hhit, Bool.false_eq_true, if_false] at hq
            obtain ⟨tot, htot⟩ : ∃ tot, tot = A.length + x.text.length := ⟨_, rfl⟩
            have w2 : IntKind.i64.wrap ((A.length : Int) + (x.text.length : Int)) = (tot : Int) := by rw [w64 (by omega) (by omega)]; omega
            rw [← htot] at hq
            by_cases cf : 65536 < tot
            · have d3 : decide ((65536 : Int) < (tot : Int)) = true := decide_eq_true (by omega)
              simp only [cf, if_true] at hq
              simp -implicitDefEqProofs [hL2, hL h' o1, hlt, same_self, w2, cf, d3]
              exact hq v h' o1 (.inl ⟨rfl, by first | rfl | trivial⟩)
            · have d3 : decide ((65536 : Int) < (tot : Int)) = false := decide_eq_false (by omega)
              simp only [cf, if_false] at hq
              have hs1 := hs.old o1
              have hal : (A.map AtV.cells).length = A.length := List.length_map _
              obtain ⟨p1, p2, p3⟩ := hs1.upto (at_ := k) (by decide) hv (by rw [hal]; exact hkl) .i64
              obtain ⟨u1, hu1⟩ : ∃ u1, u1 = cutV v 7 0 k := ⟨_, rfl⟩
              rw [← hu1] at p1 p2
              have q1 := p2.len
              have q2 := p2.read
              have hel : ∀ e ∈ A.map AtV.cells, e.length = 7 := fun e he => by obtain ⟨a, _, rfl⟩ := List.mem_map.1 he; rfl
              have hn1 : ((A.map AtV.cells).take k).length = k := by rw [List.length_take, hal]; omega
              obtain ⟨w1', h2, e1, m1, o2⟩ := (Mine.nil h' h' 7).append (bytes := 32) (new := (A.map AtV.cells).take k) (by decide) (fun e he => hel e (List.mem_of_mem_take he)) (by rw [hn1]; simp; omega) (Old.refl h')
              rw [List.nil_append] at m1
              rw [hn1] at q1 q2 e1
              have ht2 := ht.old o2
              have hxl3 : ((atomsOf x).map AtV.cells).length = x.text.length := by rw [List.length_map, atomsOf_len]
              have q3 := ht2.len
              have q4 := ht2.read
              obtain ⟨w2', h3, e2, m2, o3⟩ := m1.append (bytes := 32) (new := (atomsOf x).map AtV.cells) (by decide) (fun e he => by obtain ⟨a, _, rfl⟩ := List.mem_map.1 he; rfl) (by rw [hn1, hxl3]; omega) o2
              rw [hxl3] at q3 q4 e2
              have hs3 := hs1.old o3
              obtain ⟨p4, p5, p6⟩ := hs3.from_ (at_ := k) (by decide) hv (by rw [hal]; exact hkl) .i64
              obtain ⟨u2, hu2⟩ : ∃ u2, u2 = cutV v 7 k (A.map AtV.cells).length := ⟨_, rfl⟩
              rw [← hu2] at p4 p5
              have q5 := p5.len
              have q6 := p5.read
              have hn2 : ((A.map AtV.cells).drop k).length = A.length - k := by rw [List.length_drop, hal]
              obtain ⟨w3', h4, e3, m3, o4⟩ := m2.append (bytes := 32) (new := (A.map AtV.cells).drop k) (by decide) (fun e he => hel e (List.mem_of_mem_drop he)) (by rw [List.length_append, hn1, hxl3, hn2]; omega) o3
              rw [hn2] at q5 q6 e3
              have hm4 : Mine h h4 7 ((A.take k ++ atomsOf x ++ A.drop k).map AtV.cells) w3' := by
                rw [List.map_append, List.map_append, List.map_take, List.map_drop]
                obtain ⟨z1, z2⟩ := m3
                exact ⟨z1, z2.imp_right (fun ⟨q, fz, g1, g2, g3⟩ => ⟨q, fz, g1, Nat.le_trans o1.1 g2, g3⟩)⟩
              simp -implicitDefEqProofs [hL2, hL h' o1, hlt, same_self, w2, cf, d3, p1, q1, q2, e1, q3, q4, e2, p4, q5, q6, e3]
              exact hq w3' h4 (o1.trans o4) (.inr hm4)
end
end Go.Proofs.YthblmlkkmebciaaDoor
set_option linter.all false
set_option maxRecDepth 100000
set_option maxHeartbeats 4000000
namespace Go.Proofs.YthblmlkkmebciaaDoor
open Go Go.RowKit Go.Proofs
/-! walks, in whole numbers -/
def Wk.apply (w : Wk) (z : Int × Int) : Int × Int := (w.tr * z.1 - w.ti * z.2 + w.sr, w.tr * z.2 + w.ti * z.1 + w.si)
theorem Wk.apply_then (w v : Wk) (z : Int × Int) : v.apply (w.apply z) = (w.then_ v).apply z := by
  obtain ⟨a, b, c, d⟩ := w
  obtain ⟨e, f, g, k⟩ := v
  obtain ⟨x, y⟩ := z
  simp only [Wk.apply, Wk.then_, Prod.mk.injEq]
  refine ⟨?_, ?_⟩ <;> simp only [Int.mul_sub, Int.mul_add, Int.sub_mul, Int.add_mul, Int.mul_assoc] <;> omega
section
variable {ro : Nat → Option (List AVal)}
theorem times_ev {h : AHeap} {a b c d : Int} (h1 : (a * c).natAbs < 2 ^ 60) (h2 : (b * d).natAbs < 2 ^ 60) (h3 : (a * d).natAbs < 2 ^ 60) (h4 : (b * c).natAbs < 2 ^ 60) {Q : AVal → AHeap → Prop} (hq : Q (.agg [.int .i64 (a * c - b * d), .int .i64 (a * d + b * c)]) h) : Ev (cfgR ro) 114 [.agg [.int .i64 a, .int .i64 b], .agg [.int .i64 c, .int .i64 d]] h Q := by
  refine Ev.wp rfl rfl Tryd.func114 rfl ?_
  obtain ⟨p, hp⟩ : ∃ p, p = a * c := ⟨_, rfl⟩
  obtain ⟨q, hqq⟩ : ∃ q, q = b * d := ⟨_, rfl⟩
  obtain ⟨r, hr⟩ : ∃ r, r = a * d := ⟨_, rfl⟩
  obtain ⟨s, hs⟩ : ∃ s, s = b * c := ⟨_, rfl⟩
  rw [← hp, ← hqq, ← hr, ← hs] at hq
  rw [← hp] at h1
  rw [← hqq] at h2
  rw [← hr] at h3
  rw [← hs] at h4
  have w1 : IntKind.i64.wrap (a * c) = p := by rw [← hp]; exact w64 (by omega) (by omega)
  have w2 : IntKind.i64.wrap (b * d) = q := by rw [← hqq]; exact w64 (by omega) (by omega)
  have w3 : IntKind.i64.wrap (a * d) = r := by rw [← hr]; exact w64 (by omega) (by omega)
  have w4 : IntKind.i64.wrap (b * c) = s := by rw [← hs]; exact w64 (by omega) (by omega)
  have w5 : IntKind.i64.wrap (p - q) = p - q := w64 (by omega) (by omega)
  have w6 : IntKind.i64.wrap (r + s) = r + s := w64 (by omega) (by omega)
  simp -implicitDefEqProofs [Tryd.f114, w1, w2, w3, w4, w5, w6]
  exact hq
theorem minus_ev {h : AHeap} {a b c d : Int} (h1 : a.natAbs < 2 ^ 60) (h2 : b.natAbs < 2 ^ 60) (h3 : c.natAbs < 2 ^ 60) (h4 : d.natAbs < 2 ^ 60) {Q : AVal → AHeap → Prop} (hq : Q (.agg [.int .i64 (a - c), .int .i64 (b - d)]) h) : Ev (cfgR ro) 91 [.agg [.int .i64 a, .int .i64 b], .agg [.int .i64 c, .int .i64 d]] h Q := by
  refine Ev.wp rfl rfl Tryd.func91 rfl ?_
  have w5 : IntKind.i64.wrap (a - c) = a - c := w64 (by omega) (by omega)
  have w6 : IntKind.i64.wrap (b - d) = b - d := w64 (by omega) (by omega)
  simp -implicitDefEqProofs [Tryd.f91, w5, w6]
  exact hq
theorem turned_ev {h : AHeap} {n : Nat} (hn : n < 4) {Q : AVal → AHeap → Prop} (hq : Q (.agg [.int .i64 (tX n), .int .i64 (tY n)]) h) : Ev (cfgR ro) 115 [.int .i64 (n : Nat)] h Q := by
  refine Ev.wp rfl rfl Tryd.func115 rfl ?_
  simp -implicitDefEqProofs [Tryd.f115]
  obtain ⟨I, hI⟩ : ∃ I : Nat → List AVal → AHeap → Prop, I = fun m env h' => h' = h ∧ ∃ i : Nat, i + m = n ∧ env = (.int .i64 (n : Nat) :: .dead :: .cell [.int .i64 0, .int .i64 0] :: .cell [.int .i64 (tX i), .int .i64 (tY i)] :: .int .i64 (i : Nat) :: .dead :: .dead :: .dead :: .dead :: .dead :: .dead :: .dead :: .dead :: .dead :: .dead :: []) := ⟨_, rfl⟩
  refine loop_of I ?_ n (by rw [hI]; exact ⟨rfl, 0, by omega, rfl⟩)
  intro m env h' hi
  rw [hI] at hi
  obtain ⟨rfl, i, him, rfl⟩ := hi
  by_cases hlt : i < n
  · have w1 : IntKind.i64.wrap ((i : Int) + 1) = ((i + 1 : Nat) : Int) := by rw [w64 (by omega) (by omega)]; omega
    simp -implicitDefEqProofs [hlt]
    have hb : (tX i).natAbs ≤ 1 ∧ (tY i).natAbs ≤ 1 := by rcases lt4 (n := i) (by omega) with rfl | rfl | rfl | rfl <;> decide
    refine times_ev (by omega) (by omega) (by omega) (by omega) ?_
    have e1 : tX i * 0 - tY i * 1 = tX (i + 1) ∧ tX i * 1 + tY i * 0 = tY (i + 1) := by
      rcases lt4 (n := i) (by omega) with rfl | rfl | rfl | rfl
      · decide
      · decide
      · decide
      · omega
    rw [e1.1, e1.2]
    obtain ⟨a, ha⟩ : ∃ a, a = tX (i + 1) := ⟨_, rfl⟩
    obtain ⟨b, hb⟩ : ∃ b, b = tY (i + 1) := ⟨_, rfl⟩
    rw [← ha, ← hb]
    simp -implicitDefEqProofs [hlt, w1]
    exact .mk (m := m - 1) (by omega) (by rw [hI]; exact ⟨rfl, i + 1, by omega, by rw [ha, hb]; simp⟩)
  · have e : i = n := by omega
    subst e
    simp -implicitDefEqProofs [hlt]
    exact hq
theorem byte04_ev {h : AHeap} {b : UInt8} {Q : AVal → AHeap → Prop} (hq : Q (.agg [.int .i64 (Wk.byte b).tr, .int .i64 (Wk.byte b).ti, .int .i64 (Wk.byte b).sr, .int .i64 (Wk.byte b).si]) h) : Ev (cfgR ro) 90 [.int .u8 b.toNat] h Q := by
  refine Ev.wp rfl rfl Tryd.func90 rfl ?_
  have hb := b.toNat_lt
  simp only [Wk.byte] at hq
  obtain ⟨n, hn⟩ : ∃ n, n = b.toNat := ⟨_, rfl⟩
  rw [← hn] at hb hq ⊢
  have c1 : IntKind.i64.wrap (n : Int) = (n : Int) := w64 (by omega) (by omega)
  have e1 : (n : Int).tmod 4 = ((n % 4 : Nat) : Int) := by rw [Int.tmod_eq_emod_of_nonneg (by omega)]; omega
  have e2 : IntKind.i64.wrap ((n : Int) / 4) = ((n / 4 : Nat) : Int) := by rw [w64 (by omega) (by omega)]; omega
  have e3 : IntKind.i64.wrap ((n : Int) / 32) = ((n / 32 : Nat) : Int) := by rw [w64 (by omega) (by omega)]; omega
  have e4 : ((n / 4 : Nat) : Int).tmod 8 = ((n / 4 % 8 : Nat) : Int) := by rw [Int.tmod_eq_emod_of_nonneg (by omega)]; omega
  obtain ⟨p, hp⟩ : ∃ p, p = n % 4 := ⟨_, rfl⟩
  obtain ⟨q, hqq⟩ : ∃ q, q = n / 4 := ⟨_, rfl⟩
  obtain ⟨r, hr⟩ : ∃ r, r = n / 32 := ⟨_, rfl⟩
  rw [← hp] at e1 hq
  rw [← hqq] at e2 e4 hq
  rw [← hr] at e3 hq
  obtain ⟨s, hs⟩ : ∃ s, s = q % 8 := ⟨_, rfl⟩
  rw [← hs] at e4 hq
  have w1 : IntKind.i64.wrap ((s : Int) + 1) = ((s + 1 : Nat) : Int) := by rw [w64 (by omega) (by omega)]; omega
  have w2 : IntKind.i64.wrap ((r : Int) + 1) = ((r + 1 : Nat) : Int) := by rw [w64 (by omega) (by omega)]; omega
  obtain ⟨s1, hs1⟩ : ∃ s1, s1 = s + 1 := ⟨_, rfl⟩
  obtain ⟨r1, hr1⟩ : ∃ r1, r1 = r + 1 := ⟨_, rfl⟩
  rw [← hs1] at w1 hq
  rw [← hr1] at w2 hq
  simp -implicitDefEqProofs [Tryd.f90, c1, e1]
  refine turned_ev (by omega) ?_
  simp -implicitDefEqProofs [c1, e1, e2, e3, e4, w1, w2]
  exact hq
theorem apply_ev {h : AHeap} {w : Wk} {x y : Int} (hw : w.Ok 1) (hx : x.natAbs < 2 ^ 50) (hy : y.natAbs < 2 ^ 50) {Q : AVal → AHeap → Prop} (hq : Q (.agg [.int .i64 (w.apply (x, y)).1, .int .i64 (w.apply (x, y)).2]) h) : Ev (cfgR ro) 89 [.agg [.int .i64 w.tr, .int .i64 w.ti, .int .i64 w.sr, .int .i64 w.si], .agg [.int .i64 x, .int .i64 y]] h Q := by
  refine Ev.wp rfl rfl Tryd.func89 rfl ?_
  obtain ⟨u, s1, s2⟩ := hw
  obtain ⟨a, b, c, d⟩ := w
  simp only [Wk.apply] at hq u s1 s2
  have bd : ∀ z t : Int, (z = 0 ∨ z = 1 ∨ z = -1) → t.natAbs < 2 ^ 50 → (z * t).natAbs < 2 ^ 50 := by
    rintro z t (rfl | rfl | rfl) ht <;> omega
  have ua : a = 0 ∨ a = 1 ∨ a = -1 := by omega
  have ub : b = 0 ∨ b = 1 ∨ b = -1 := by omega
  have b1 := bd a x ua hx
  have b2 := bd b y ub hy
  have b3 := bd a y ua hy
  have b4 := bd b x ub hx
  simp -implicitDefEqProofs [Tryd.f89]
  refine times_ev (by omega) (by omega) (by omega) (by omega) ?_
  obtain ⟨p, hp⟩ : ∃ p, p = a * x - b * y := ⟨_, rfl⟩
  obtain ⟨q, hqq⟩ : ∃ q, q = a * y + b * x := ⟨_, rfl⟩
  rw [← hp, ← hqq] at hq ⊢
  have w1 : IntKind.i64.wrap (p + c) = p + c := w64 (by omega) (by omega)
  have w2 : IntKind.i64.wrap (q + d) = q + d := w64 (by omega) (by omega)
  simp -implicitDefEqProofs [w1, w2]
  exact hq
theorem text04_ev {h : AHeap} {s : Str} (hs : s.length < 2 ^ 39) {Q : AVal → AHeap → Prop} (hq : Q (.agg [.int .i64 (Wk.text s).tr, .int .i64 (Wk.text s).ti, .int .i64 (Wk.text s).sr, .int .i64 (Wk.text s).si]) h) : Ev (cfgR ro) 54 [.str s] h Q := by
  refine Ev.wp rfl rfl Tryd.func54 rfl ?_
  have hstep : ∀ i, (hi : i < s.length) → Wk.text (s.take (i + 1)) = (Wk.text (s.take i)).then_ (Wk.byte s[i]) := fun i hi => by
    rw [List.take_succ_eq_append_getElem hi, Wk.text, List.foldl_append]; rfl
  have hbd : ∀ (w : Wk) (n : Nat) (x y : Int), w.Ok n → n < 2 ^ 39 → x.natAbs ≤ 1 → y.natAbs ≤ 1 → (w.apply (x, y)).1.natAbs < 2 ^ 45 ∧ (w.apply (x, y)).2.natAbs < 2 ^ 45 := by
    intro w n x y hw hn hx hy
    obtain ⟨u, s1, s2⟩ := hw
    obtain ⟨a, b, c, d⟩ := w
    simp only [Wk.apply] at u s1 s2 ⊢
    have bd : ∀ z t : Int, (z = 0 ∨ z = 1 ∨ z = -1) → t.natAbs ≤ 1 → (z * t).natAbs ≤ 1 := by
      rintro z t (rfl | rfl | rfl) ht <;> omega
    have ua : a = 0 ∨ a = 1 ∨ a = -1 := by omega
    have ub : b = 0 ∨ b = 1 ∨ b = -1 := by omega
    have b1 := bd a x ua hx
    have b2 := bd b y ub hy
    have b3 := bd a y ua hy
    have b4 := bd b x ub hx
    omega
  simp -implicitDefEqProofs [Tryd.f54]
  obtain ⟨I, hI⟩ : ∃ I : Nat → List AVal → AHeap → Prop, I = fun m env h' => h' = h ∧ ∃ i : Nat, i + m = s.length ∧
    env = (.str s :: .dead :: .cell [.int .i64 0, .int .i64 0, .int .i64 0, .int .i64 0] :: .cell [.int .i64 ((Wk.text (s.take i)).apply (0, 0)).1, .int .i64 ((Wk.text (s.take i)).apply (0, 0)).2] :: .cell [.int .i64 ((Wk.text (s.take i)).apply (1, 0)).1, .int .i64 ((Wk.text (s.take i)).apply (1, 0)).2] :: .int .i64 (i : Nat) :: .dead :: .dead :: .dead :: .dead :: .dead :: .dead :: .dead :: .dead :: .dead :: .dead :: .dead :: .dead :: .dead :: .dead :: .dead :: .dead :: .dead :: .dead :: .dead :: .dead :: .dead :: .dead :: .dead :: .dead :: .dead :: []) := ⟨_, rfl⟩
  refine loop_of I ?_ s.length (by rw [hI]; exact ⟨rfl, 0, by omega, rfl⟩)
  intro m env h' hi
  rw [hI] at hi
  obtain ⟨rfl, i, him, rfl⟩ := hi
  have hok := Wk.text_ok (s.take i)
  have htl : (s.take i).length ≤ i := List.length_take_le _ _
  obtain ⟨z1, z2⟩ := hbd _ _ 0 0 hok (by omega) (by decide) (by decide)
  obtain ⟨o1, o2⟩ := hbd _ _ 1 0 hok (by omega) (by decide) (by decide)
  by_cases hlt : i < s.length
  · have w1 : IntKind.i64.wrap ((i : Int) + 1) = ((i + 1 : Nat) : Int) := by rw [w64 (by omega) (by omega)]; omega
    have ix : idxNat (.int .i64 (i : Int)) s.length = .ok i := ix_nat hlt
    have hst := hstep i hlt
    obtain ⟨b, hb⟩ : ∃ b, s[i]'hlt = b := ⟨_, rfl⟩
    rw [hb] at hst
    have f1 := Wk.apply_then (Wk.text (s.take i)) (Wk.byte b) (0, 0)
    have f2 := Wk.apply_then (Wk.text (s.take i)) (Wk.byte b) (1, 0)
    rw [← hst] at f1 f2
    obtain ⟨⟨zx, zy⟩, hz⟩ : ∃ z, z = (Wk.text (s.take i)).apply (0, 0) := ⟨_, rfl⟩
    obtain ⟨⟨ox, oy⟩, ho⟩ : ∃ z, z = (Wk.text (s.take i)).apply (1, 0) := ⟨_, rfl⟩
    rw [← hz] at f1 z1 z2 ⊢
    rw [← ho] at f2 o1 o2 ⊢
    simp only [] at z1 z2 o1 o2
    simp -implicitDefEqProofs [hlt, ix, hb]
    refine byte04_ev ?_
    simp -implicitDefEqProofs [hlt, ix, hb]
    refine apply_ev (Wk.byte_ok b) (by omega) (by omega) ?_
    rw [f1]
    obtain ⟨⟨zx', zy'⟩, hz'⟩ : ∃ z, z = (Wk.text (s.take (i + 1))).apply (0, 0) := ⟨_, rfl⟩
    obtain ⟨⟨ox', oy'⟩, ho'⟩ : ∃ z, z = (Wk.text (s.take (i + 1))).apply (1, 0) := ⟨_, rfl⟩
    rw [← hz']
    rw [← ho'] at f2
    simp -implicitDefEqProofs [hlt, ix, hb]
    refine byte04_ev ?_
    simp -implicitDefEqProofs [hlt, ix, hb]
    refine apply_ev (Wk.byte_ok b) (by omega) (by omega) ?_
    rw [f2]
    simp -implicitDefEqProofs [hlt, ix, hb, w1]
    exact .mk (m := m - 1) (by omega) (by rw [hI]; exact ⟨rfl, i + 1, by omega, by rw [← hz', ← ho']; simp⟩)
  · have e : s.take i = s := List.take_of_length_le (by omega)
    rw [e] at z1 z2 o1 o2 ⊢
    have g : (Wk.text s).apply (1, 0) = ((Wk.text s).tr + (Wk.text s).sr, (Wk.text s).ti + (Wk.text s).si) ∧ (Wk.text s).apply (0, 0) = ((Wk.text s).sr, (Wk.text s).si) := by
      simp [Wk.apply]
    rw [g.1] at o1 o2 ⊢
    rw [g.2] at z1 z2 ⊢
    obtain ⟨⟨a, b, c, d⟩, hw⟩ : ∃ w, w = Wk.text s := ⟨_, rfl⟩
    rw [← hw] at hq z1 z2 o1 o2 ⊢
    simp only [] at hq z1 z2 o1 o2
    simp -implicitDefEqProofs [hlt]
    refine minus_ev (by omega) (by omega) (by omega) (by omega) ?_
    rw [show a + c - c = a by omega, show b + d - d = b by omega]
    simp -implicitDefEqProofs
    exact hq
end
end Go.Proofs.YthblmlkkmebciaaDoor
set_option linter.all false
set_option maxRecDepth 100000
set_option maxHeartbeats 4000000
namespace Go.Proofs.YthblmlkkmebciaaDoor
open Go Go.RowKit Go.Proofs
theorem row_set : ∀ (A : List AtV) (i : Nat) (v : Bool), i < A.length → overR (A.map AtV.cells).flatten (i * 7 + 6) [.bool v] = .ok ((setSh A i v).map AtV.cells).flatten
  | [], i, v, h => by simp at h
  | a :: A, 0, v, h => by
    simp only [List.map_cons, List.flatten_cons, AtV.cells, List.cons_append]
    simp [setSh, AtV.cells]
  | a :: A, i + 1, v, h => by
    have ih := row_set A i v (by simpa using h)
    simp only [List.map_cons, List.flatten_cons, AtV.cells, List.cons_append, List.nil_append, setSh] at ih ⊢
    unfold overR at ih ⊢
    split at ih
    · rename_i hle
      injection ih with ih
      simp only [List.length_cons, List.length_nil] at hle ⊢
      rw [if_pos (by omega)]
      congr 1
      have e1 : (i + 1) * 7 + 6 = (i * 7 + 6) + 1 + 1 + 1 + 1 + 1 + 1 + 1 := by omega
      have e2 : (i * 7 + 6) + 1 + 1 + 1 + 1 + 1 + 1 + 1 + (0 + 1) = (i * 7 + 6 + (0 + 1)) + 1 + 1 + 1 + 1 + 1 + 1 + 1 := by omega
      rw [e1, e2]
      simp only [List.take_succ_cons, List.drop_succ_cons, List.cons_append]
      simp only [List.length_cons, List.length_nil] at ih
      rw [ih]
    · cases ih
section
variable {ro : Nat → Option (List AVal)}
theorem Show16_ev {h : AHeap} {v : AVal} {A : List AtV} {ar an : Nat} {yes : Bool} (hs : Sl (cfgR ro) h 7 v (A.map AtV.cells)) (hv : notSlc v) (hl : A.length < 2 ^ 30) {Q : AVal → AHeap → Prop}
    (hq : ∀ v' h', Old h h' → (v' = v ∧ (showA A ar an yes).1 = A) ∨ Mine h h' 7 ((showA A ar an yes).1.map AtV.cells) v' → Q (.tuple [v', .int .i64 ((showA A ar an yes).2 : Nat)]) h') : Ev (cfgR ro) 48 [v, idA ar an, .bool yes] h Q := by
  refine Ev.wp rfl rfl Tryd.func48 rfl ?_
  simp -implicitDefEqProofs [Tryd.f48, idA]
  refine At_ev hs (by omega) ?_
  cases hix : atIx A ar an with
  | none =>
    have e : showA A ar an yes = (A, 40) := by unfold showA; rw [hix]
    rw [e] at hq
    simp -implicitDefEqProofs [same_self, ixI]
    exact hq v h (Old.refl h) (.inl ⟨rfl, rfl⟩)
  | some i =>
    have e : showA A ar an yes = (setSh A i yes, 0) := by unfold showA; rw [hix]
    rw [e] at hq
    have hil := atIx_lt hix
    have hal : (A.map AtV.cells).length = A.length := List.length_map _
    have q1 := hs.len
    have q2 := hs.read
    obtain ⟨w, h1, e1, m1, o1⟩ := (Mine.nil h h 7).append (bytes := 32) (new := A.map AtV.cells) (by decide) (fun e he => by obtain ⟨a, _, rfl⟩ := List.mem_map.1 he; rfl) (by rw [hal]; simp; omega) (Old.refl h)
    rw [List.nil_append] at m1
    rw [hal] at q1 q2 e1
    have hd : decide ((i : Int) < 0) = false := decide_eq_false (by omega)
    have ha : A[i]? = some A[i] := List.getElem?_eq_getElem hil
    have E := El.of (m1.sl (c := cfgR ro)) ha
    obtain ⟨hs7, ⟨h0, _⟩ | ⟨q, fz, rfl, g1, g2, g3⟩⟩ := m1
    · have h00 : A.length = 0 := by rw [← hal, h0]; rfl
      omega
    · have rs := row_set A i yes hil
      have ex : idxNat (.int .i64 (i : Int)) A.length = .ok i := ix_nat hil
      have hst : storeR (cfgR ro) h1 4 (elpo (.sl q 0 (A.map AtV.cells).length) 7 i 6) (.bool yes) = .ok (h1.set q (.row 7 fz ((setSh A i yes).map AtV.cells).flatten)) := by
        simp [elpo, g3, rs]
      have Ex := E.x
      have Eo := E.o
      obtain ⟨w, hw⟩ : ∃ w, w = AVal.sl q 0 (A.map AtV.cells).length := ⟨_, rfl⟩
      rw [← hw] at Ex Eo hst e1
      simp -implicitDefEqProofs [same_self, ixI, hd, q1, q2, e1, Ex, Eo, hst]
      refine hq w _ (o1.set g1 _) (.inr ⟨fun e he => by obtain ⟨a, _, rfl⟩ := List.mem_map.1 he; rfl, .inr ⟨q, fz, ?_, g1, g2, get_set_self _ _ _⟩⟩)
      rw [hw, List.length_map, List.length_map, setSh_len]
theorem eqK57 (h : AHeap) (z a b y c d : Nat) : eqIn (cfgR ro) h 10000 57 (.agg [.int .u64 z, .int .u16 a, .int .u32 b]) (.agg [.int .u64 y, .int .u16 c, .int .u32 d]) = .ok (decide (z = y ∧ a = c ∧ b = d)) := by
  have e0 : eqIn (cfgR ro) h 10000 57 (.agg [.int .u64 z, .int .u16 a, .int .u32 b]) (.agg [.int .u64 y, .int .u16 c, .int .u32 d]) = (match (z : Int) == (y : Int) with | true => (match (a : Int) == (c : Int) with | true => (match (b : Int) == (d : Int) with | true => .ok true | false => .ok false) | false => .ok false) | false => .ok false) := by kernel_rfl
  rw [e0]
  simp only [beqNI]
  by_cases c1 : z = y
  · by_cases c2 : a = c
    · by_cases c3 : b = d
      · simp [c1, c2, c3]
      · simp [c1, c2, c3]
    · simp [c1, c2]
  · simp [c1]
theorem eqI56 (h : AHeap) (a b c d : Nat) : eqIn (cfgR ro) h 10000 56 (.agg [.int .u16 a, .int .u32 b]) (.agg [.int .u16 c, .int .u32 d]) = .ok (decide (a = c ∧ b = d)) := by
  have e0 : eqIn (cfgR ro) h 10000 56 (.agg [.int .u16 a, .int .u32 b]) (.agg [.int .u16 c, .int .u32 d]) = (match (a : Int) == (c : Int) with | true => (match (b : Int) == (d : Int) with | true => .ok true | false => .ok false) | false => .ok false) := by kernel_rfl
  rw [e0]
  simp only [beqNI]
  by_cases c2 : a = c
  · by_cases c3 : b = d
    · simp [c2, c3]
    · simp [c2, c3]
  · simp [c2]
theorem eqL57 : eqL 57 = true := by decide
theorem eqL56 : eqL 56 = true := by decide
theorem atom16_ev {h : AHeap} {a b : AtV} {Q : AVal → AHeap → Prop} (hq : Q (.bool (decide (a = b))) h) : Ev (cfgR ro) 37 [.agg a.cells, .agg b.cells] h Q := by
  refine Ev.wp rfl rfl Tryd.func37 rfl ?_
  have fin : ∀ x : Bool, (x = true ↔ (a.clock = b.clock ∧ a.r = b.r ∧ a.n = b.n ∧ a.er = b.er ∧ a.en = b.en ∧ a.b.toNat = b.b.toNat ∧ a.shown = b.shown)) → Q (.bool x) h := by
    intro x hx
    rw [AtV.ext_iff'] at hx
    have : decide (a = b) = x := by
      cases x with
      | true => exact decide_eq_true (hx.1 rfl)
      | false => exact decide_eq_false (fun hh => by have := hx.2 hh; cases this)
    rw [this] at hq; exact hq
  obtain ⟨c, r, n, er, en, bb, sh⟩ := a
  obtain ⟨c', r', n', er', en', bb', sh'⟩ := b
  simp only at fin
  have bad : ¬ (c = c' ∧ r = r' ∧ n = n' ∧ er = er' ∧ en = en' ∧ bb.toNat = bb'.toNat ∧ sh = sh') → Q (.bool false) h := fun hn => fin false ⟨fun e => (nomatch e), fun e => (hn e).elim⟩
  have ek := eqK57 (ro := ro) h c r n c' r' n'
  have ei := eqI56 (ro := ro) h er en er' en'
  have eb : eqFlat Tryd.prog h .bool (.bool sh) (.bool sh') = .ok (sh == sh') := by rfl
  by_cases c1 : c = c' ∧ r = r' ∧ n = n'
  · rw [decide_eq_true c1] at ek
    by_cases c2 : er = er' ∧ en = en'
    · rw [decide_eq_true c2] at ei
      by_cases c3 : bb.toNat = bb'.toNat
      · simp -implicitDefEqProofs [Tryd.f37, AtV.cells, ek, ei, eqL57, eqL56, c3, eb]
        exact fin (sh == sh') (by simp [c1, c2, c3])
      · have d : ¬ ((bb.toNat : Int) = (bb'.toNat : Int)) := by omega
        simp -implicitDefEqProofs [Tryd.f37, AtV.cells, ek, ei, eqL57, eqL56, d]
        exact bad (fun hh => c3 hh.2.2.2.2.2.1)
    · rw [decide_eq_false c2] at ei
      simp -implicitDefEqProofs [Tryd.f37, AtV.cells, ek, ei, eqL57, eqL56]
      exact bad (fun hh => c2 ⟨hh.2.2.2.1, hh.2.2.2.2.1⟩)
  · rw [decide_eq_false c1] at ek
    simp -implicitDefEqProofs [Tryd.f37, AtV.cells, ek, ei, eqL57, eqL56]
    exact bad (fun hh => c1 ⟨hh.1, hh.2.1, hh.2.2.1⟩)
theorem f_geq {a b : Nat} {x y : Int} (ha : Wh a x) (hb : Wh b y) : floatBin .geq .f64 a b = .ok (.bool (decide (y ≤ x))) := by
  unfold floatBin
  rw [show FloatKind.f64.format = Ieee.double from rfl, order_wh ha hb]
  rcases Int.lt_trichotomy x y with h | h | h
  · rw [cmp_lt h, decide_eq_false (by omega)]; rfl
  · rw [h, cmp_eq, decide_eq_true (by omega)]; rfl
  · rw [cmp_gt h, decide_eq_true (by omega)]; rfl
theorem f_leq {a b : Nat} {x y : Int} (ha : Wh a x) (hb : Wh b y) : floatBin .leq .f64 a b = .ok (.bool (decide (x ≤ y))) := by
  unfold floatBin
  rw [show FloatKind.f64.format = Ieee.double from rfl, order_wh ha hb]
  rcases Int.lt_trichotomy x y with h | h | h
  · rw [cmp_lt h, decide_eq_true (by omega)]; rfl
  · rw [h, cmp_eq, decide_eq_true (by omega)]; rfl
  · rw [cmp_gt h, decide_eq_false (by omega)]; rfl
theorem f_eql {a b : Nat} {x y : Int} (ha : Wh a x) (hb : Wh b y) : floatBin .eql .f64 a b = .ok (.bool (decide (x = y))) := by
  unfold floatBin
  rw [show FloatKind.f64.format = Ieee.double from rfl, order_wh ha hb]
  rcases Int.lt_trichotomy x y with h | h | h
  · rw [cmp_lt h, decide_eq_false (by omega)]; rfl
  · rw [h, cmp_eq, decide_eq_true (by omega)]; rfl
  · rw [cmp_gt h, decide_eq_false (by omega)]; rfl
theorem f_neq {a b : Nat} {x y : Int} (ha : Wh a x) (hb : Wh b y) : floatBin .neq .f64 a b = .ok (.bool (!decide (x = y))) := by
  unfold floatBin
  rw [show FloatKind.f64.format = Ieee.double from rfl, order_wh ha hb]
  rcases Int.lt_trichotomy x y with h | h | h
  · rw [cmp_lt h, decide_eq_false (by omega)]; rfl
  · rw [h, cmp_eq, decide_eq_true (by omega)]; rfl
  · rw [cmp_gt h, decide_eq_false (by omega)]; rfl
theorem f_int {a : Nat} {x : Int} (ha : Wh a x) : (FloatKind.f64.decode a).toInt .zero = some x := toInt_wh ha
theorem wh_lo : Wh 13943144446339055616 (-33554432) := by
  have : FloatKind.f64.nearest (-33554432) = 13943144446339055616 := by decide +kernel
  rw [← this]; exact nearest_wh (by decide)
theorem wh_hi : Wh 4719772409484279808 33554432 := by
  have : FloatKind.f64.nearest 33554432 = 4719772409484279808 := by decide +kernel
  rw [← this]; exact nearest_wh (by decide)
theorem of03_ev {h : AHeap} {a b : Nat} {x y : Int} (ha : Wh a x) (h1 : -33554432 ≤ x) (h2 : x ≤ 33554432) (hb : Wh b y) (h3 : -33554432 ≤ y) (h4 : y ≤ 33554432) {Q : AVal → AHeap → Prop}
    (hq : Q (.tuple [.agg [.int .i64 x, .int .i64 y], .bool true]) h) : Ev (cfgR ro) 55 [.cplx .f64 a b] h Q := by
  refine Ev.wp rfl rfl Tryd.func55 rfl ?_
  have hn : Wh (FloatKind.f64.nearest x) x := nearest_wh (by omega)
  have hm : Wh (FloatKind.f64.nearest y) y := nearest_wh (by omega)
  have e1 := f_geq ha wh_lo
  have e2 := f_leq ha wh_hi
  have e3 := f_neq hn ha
  have e4 := f_int ha
  have e5 := f_geq hb wh_lo
  have e6 := f_leq hb wh_hi
  have e7 := f_neq hm hb
  have e8 := f_int hb
  have b1 : IntKind.i64.min ≤ x := by show (-9223372036854775808 : Int) ≤ x; omega
  have b2 : x ≤ IntKind.i64.max := by show x ≤ (9223372036854775807 : Int); omega
  have b3 : IntKind.i64.min ≤ y := by show (-9223372036854775808 : Int) ≤ y; omega
  have b4 : y ≤ IntKind.i64.max := by show y ≤ (9223372036854775807 : Int); omega
  have b5 : x ≤ 9223372036854775807 := by omega
  have b6 : y ≤ 9223372036854775807 := by omega
  simp -implicitDefEqProofs [Tryd.f55, e1, e2, e3, e4, e5, e6, e7, e8, h1, h2, h3, h4, b1, b2, b3, b4, b5, b6]
  exact hq
end
end Go.Proofs.YthblmlkkmebciaaDoor
set_option linter.all false
set_option maxRecDepth 100000
set_option maxHeartbeats 4000000
namespace Go.Proofs.YthblmlkkmebciaaDoor
open Go Go.RowKit Go.Proofs
/-- a call, as the law has it -/
structure OpV where
  kind : Int
  ar : Nat
  an : Nat
  x : RunV
  yes : Bool
def OpV.cells (o : OpV) : List AVal := [.int .i64 o.kind, .int .u16 o.ar, .int .u32 o.an, .int .u64 o.x.clock, .int .u16 o.x.r, .int .u32 o.x.n, .int .u16 o.x.er, .int .u32 o.x.en, .str o.x.text, .bool o.x.shown, .bool o.yes]
structure RunR (x : RunV) : Prop where
  n : x.n < 2 ^ 32
  en : x.en < 2 ^ 32
  tx : x.text.length < 2 ^ 63
structure OpR (o : OpV) : Prop where
  an : o.an < 2 ^ 32
  x : RunR o.x
def doA (A : List AtV) (o : OpV) : List AtV := if o.kind = 1 then (putA A o.ar o.an o.x).1 else if o.kind = 2 then (showA A o.ar o.an o.yes).1 else A
/-- a row of one's own, apart from a store -/
structure Wt (h0 h : AHeap) (O : Nat → Prop) (A : List AtV) (v : AVal) : Prop where
  m : Mine h0 h 7 (A.map AtV.cells) v
  no : ∀ q f n, v = .sl q f n → ¬ O q
theorem Wt.stp {h0 h h' : AHeap} {O O' : Nat → Prop} {A : List AtV} {v : AVal} (W : Wt h0 h O A v) (P : Stp h O h' O') : Wt h0 h' O' A v := by
  obtain ⟨⟨m1, m2⟩, no⟩ := W
  refine ⟨⟨m1, m2.imp_right ?_⟩, fun q f n e ho => ?_⟩
  · rintro ⟨q, fz, e, g1, g2, g3⟩
    exact ⟨q, fz, e, g1, Nat.lt_of_lt_of_le g2 P.nx, by rw [P.keep q g2 (no q 0 _ e)]; exact g3⟩
  · rcases m2 with ⟨_, e2⟩ | ⟨q', fz, e2, g1, g2, g3⟩
    · rw [e] at e2; cases e2
    · rw [e] at e2; cases e2
      rcases P.own q ho with h1 | h1
      · exact no _ _ _ e h1
      · omega
theorem Wt.old {h0 h h' : AHeap} {O : Nat → Prop} {A : List AtV} {v : AVal} (W : Wt h0 h O A v) (o : Old h h') : Wt h0 h' O A v := ⟨W.m.keep o, W.no⟩
theorem StA.keep {h h' : AHeap} {s : Nat} {O : Nat → Prop} {A : List AtV} (S : StA h s O A) (o : Old h h') : StA h' s O A := by
  obtain ⟨m, t, ix, a1, a2, a3, a4, a5, a6, rfl⟩ := S
  have kk : ∀ q, IObj m h q → h'.get q = h.get q := fun q hq => o.2 q (a1.lt q (.inr (.inr hq)))
  refine ⟨m, t, ix, (a1.old o).1, a2, a3, a4, a5, a6, funext fun q => propext ?_⟩
  unfold SOwn
  rw [IObj.keep a1 kk]
theorem Stp.ofOld {h h' : AHeap} (O : Nat → Prop) (o : Old h h') : Stp h O h' O := ⟨o.1, fun q hq _ => o.2 q hq, fun _ h => .inl h⟩
theorem StA.len {h : AHeap} {s : Nat} {O : Nat → Prop} {A : List AtV} (S : StA h s O A) : A.length ≤ 65536 := by
  obtain ⟨m, t, ix, a1, a2, a3, a4, a5, a6, a7⟩ := S
  rw [← a5, flatten_length]; exact a4
theorem StA.num {h : AHeap} {s : Nat} {O : Nat → Prop} {A : List AtV} (S : StA h s O A) : ∀ a ∈ A, a.n < 2 ^ 29 ∧ a.en < 2 ^ 29 := by
  obtain ⟨m, t, ix, a1, a2, a3, a4, a5, a6, a7⟩ := S
  intro a ha
  rw [← a5] at ha
  obtain ⟨l, hl, ha⟩ := List.mem_flatten.1 ha
  obtain ⟨x, hx, rfl⟩ := List.mem_map.1 hl
  obtain ⟨p, hp, rfl⟩ := List.mem_map.1 hx
  obtain ⟨i, hi⟩ := List.mem_iff_getElem?.1 ha
  rw [atomsOf_get] at hi
  have := a2.ok p hp
  cases hx2 : p.2.text[i]? with
  | none => rw [hx2] at hi; cases hi
  | some b =>
    rw [hx2] at hi
    cases hi
    have h1 := (List.getElem?_eq_some_iff.1 hx2).1
    have h2 := this.n2
    have h3 := this.e2
    exact ⟨by simp only []; omega, by simp only []; omega⟩
/-- a store at its beginning -/
theorem StA.new (h : AHeap) : StA (h.push (.row 0 false [.nilp, .int .u64 0, .nilm])) h.next (fun o => o = h.next) [] := by
  refine ⟨.nilm, .nil, fun _ => [], ⟨⟨⟨0, get_push_next _ _⟩, trivial, List.nodup_nil, by simp [Rt.ids, Rt.items], by simp, by simp [Rt.ids, Rt.items]⟩, ⟨fun r p => by simp [Rt.items], fun r => List.Pairwise.nil, .inl ⟨rfl, fun _ => rfl⟩⟩, fun p hp => hp, fun o ho => (by obtain ⟨q, e, _⟩ := ho; cases e)⟩, ⟨fun p hp => (by cases hp), List.Pairwise.nil⟩, fun p hp => (by cases hp), by simp [Rt.at_, Rt.rs, Rt.items, atomsN], rfl, fun _ => trivial, funext fun o => propext ?_⟩
  unfold SOwn
  constructor
  · exact fun e => .inl e
  · rintro (e | e | ⟨q, e, _⟩)
    · exact e
    · simp [Rt.ids, Rt.items] at e
    · cases e
section
variable {ro : Nat → Option (List AVal)}
theorem do_ev (hro : ro 0 = some [.int .u16 0, .int .u32 0]) {h0 h : AHeap} {s : Nat} {O : Nat → Prop} {A : List AtV} {v : AVal} {o : OpV} (S : StA h s O A) (W : Wt h0 h O A v) (hh : h0.next ≤ h.next) (hr : OpR o) (htx : o.x.text.length < 2 ^ 60) {Q : AVal → AHeap → Prop}
    (hq : ∀ v' h' O', StA h' s O' (doA A o) → Wt h0 h' O' (doA A o) v' → Stp h O h' O' → Q (.tuple [v', .bool true]) h') : Ev (cfgR ro) 11 [.ptr s 0, v, .agg o.cells] h Q := by
  refine Ev.wp rfl rfl Tryd.func11 rfl ?_
  have hlen := S.len
  have hold : ∀ {h1 h2 : AHeap} {v' : AVal} {B : List AtV} {O1 : Nat → Prop}, h0.next ≤ h1.next → Wt h0 h1 O1 A v → (∀ o, O1 o → o < h1.next) → Old h1 h2 → (v' = v ∧ B = A) ∨ Mine h1 h2 7 (B.map AtV.cells) v' → Wt h0 h2 O1 B v' := by
    intro h1 h2 v' B O1 hle W1 hlt oo hm
    rcases hm with ⟨rfl, rfl⟩ | ⟨m1, m2⟩
    · exact W1.old oo
    · refine ⟨⟨m1, m2.imp_right (fun ⟨q, fz, e, g1, g2, g3⟩ => ⟨q, fz, e, Nat.le_trans hle g1, g2, g3⟩)⟩, fun q f n e ho => ?_⟩
      rcases m2 with ⟨_, e2⟩ | ⟨q', fz, e2, g1, g2, g3⟩
      · rw [e] at e2; cases e2
      · rw [e] at e2; cases e2
        have := hlt q ho; omega
  unfold doA at hq
  by_cases c1 : o.kind = 1
  · rw [if_pos c1] at hq
    simp -implicitDefEqProofs [Tryd.f11, OpV.cells, c1]
    refine sput_ev hro (x := o.x) (ar := o.ar) (an := o.an) S hr.an htx hr.x.n hr.x.en (fun h1 O1 S1 P1 => ?_)
    have W1 := W.stp P1
    simp -implicitDefEqProofs [OpV.cells, c1, same_self]
    refine Put16_ev (x := o.x) (ar := o.ar) (an := o.an) W1.m.sl W1.m.notSlc (by omega) htx hr.x.n hr.x.en (fun v' h2 o2 hm => ?_)
    simp -implicitDefEqProofs
    exact hq v' h2 O1 (S1.keep o2) (hold (Nat.le_trans hh P1.nx) W1 S1.lt o2 hm) (P1.trans (Stp.ofOld O1 o2))
  · rw [if_neg c1] at hq
    by_cases c2 : o.kind = 2
    · rw [if_pos c2] at hq
      simp -implicitDefEqProofs [Tryd.f11, OpV.cells, c2]
      refine sshow_ev (ar := o.ar) (an := o.an) (v := o.yes) S hr.an (fun h1 O1 S1 P1 => ?_)
      have W1 := W.stp P1
      simp -implicitDefEqProofs [OpV.cells, c2, same_self]
      refine Show16_ev (ar := o.ar) (an := o.an) (yes := o.yes) W1.m.sl W1.m.notSlc (by omega) (fun v' h2 o2 hm => ?_)
      simp -implicitDefEqProofs
      exact hq v' h2 O1 (S1.keep o2) (hold (Nat.le_trans hh P1.nx) W1 S1.lt o2 hm) (P1.trans (Stp.ofOld O1 o2))
    · rw [if_neg c2] at hq
      simp -implicitDefEqProofs [Tryd.f11, OpV.cells, c1, c2]
      exact hq v h O S W (Stp.refl _ _)
/-- few calls -/
def sizeOps (l : List OpV) : Nat := (l.map fun o => min o.x.text.length 3000).sum
theorem small_ev {h : AHeap} {v : AVal} {l : List OpV} (hs : Sl (cfgR ro) h 11 v (l.map OpV.cells)) (hl : l.length < 2 ^ 63) (hr : ∀ o ∈ l, OpR o) {Q : AVal → AHeap → Prop} (hq1 : sizeOps l ≤ 2500 → l.length ≤ 80 → Q (.bool true) h) (hq2 : Q (.bool false) h) : Ev (cfgR ro) 10 [v] h Q := by
  refine Ev.wp rfl rfl Tryd.func10 rfl ?_
  have hL : lenR (cfgR ro) h 22 v = .ok (.int .i64 (l.length : Nat)) := by have := hs.lenR (t := 22) un22; simpa using this
  simp -implicitDefEqProofs [Tryd.f10, hL]
  obtain ⟨I, hI⟩ : ∃ I : Nat → List AVal → AHeap → Prop, I = fun m env h' => h' = h ∧ ∃ i : Nat, i + m = l.length ∧ sizeOps (l.take i) ≤ 2500 ∧
    env = (v :: .dead :: .dead :: .int .i64 (sizeOps (l.take i) : Nat) :: .dead :: .dead :: v :: .int .i64 (l.length : Nat) :: .int .i64 (i : Nat) :: .dead :: .dead :: .dead :: .dead :: .dead :: .dead :: .dead :: .dead :: .dead :: .dead :: .dead :: .dead :: .dead :: .dead :: .dead :: .dead :: []) := ⟨_, rfl⟩
  refine loop_of I ?_ l.length (by rw [hI]; exact ⟨rfl, 0, by omega, by simp [sizeOps], rfl⟩)
  intro m env h' hi
  rw [hI] at hi
  obtain ⟨rfl, i, him, hsz, rfl⟩ := hi
  by_cases hlt : i < l.length
  · obtain ⟨o, ho⟩ : ∃ o, l[i]? = some o := ⟨_, List.getElem?_eq_getElem hlt⟩
    have he : (l.map OpV.cells)[i]? = some o.cells := by rw [List.getElem?_map, ho]; rfl
    have hx : indexAddrR Tryd.prog 22 v (.int .i64 (i : Nat)) = .ok (elp v 11 i) := hs.idx un22 sz42 (by simpa using hlt)
    have hld : loadR (cfgR ro) h' 42 (elp v 11 i) = .ok (.agg o.cells) := hs.load he ag42 sz42
    have w1 : IntKind.i64.wrap ((i : Int) + 1) = ((i + 1 : Nat) : Int) := by rw [w64 (by omega) (by omega)]; omega
    have hsc : sizeOps (l.take (i + 1)) = sizeOps (l.take i) + min o.x.text.length 3000 := by
      obtain ⟨l1, e1⟩ := List.getElem?_eq_some_iff.1 ho
      rw [List.take_succ_eq_append_getElem l1, e1]; simp [sizeOps]
    obtain ⟨n, hn⟩ : ∃ n, n = sizeOps (l.take i) := ⟨_, rfl⟩
    rw [← hn] at hsz hsc ⊢
    simp only [OpV.cells] at hld
    have hmin : foldR min2R (.int .i64 (o.x.text.length : Nat)) [.int .i64 3000] = .ok (.int .i64 (min o.x.text.length 3000 : Nat)) := by
      have : min2R (.int .i64 (o.x.text.length : Nat)) (.int .i64 3000) = .ok (.int .i64 (min o.x.text.length 3000 : Nat)) := by
        simp [min2R]; omega
      simp [foldR, this]
    obtain ⟨mn, hmn⟩ : ∃ mn, mn = min o.x.text.length 3000 := ⟨_, rfl⟩
    rw [← hmn] at hmin hsc
    have w2 : IntKind.i64.wrap ((n : Int) + (mn : Int)) = ((n + mn : Nat) : Int) := by rw [w64 (by omega) (by omega)]; omega
    obtain ⟨n2, hn2⟩ : ∃ n2, n2 = n + mn := ⟨_, rfl⟩
    rw [← hn2] at w2 hsc
    by_cases c : 2500 < n2
    · have d1 : decide ((2500 : Int) < (n2 : Int)) = true := decide_eq_true (by omega)
      simp -implicitDefEqProofs [hlt, hx, hld, hmin, w2, c, d1]
      exact hq2
    · have d1 : decide ((2500 : Int) < (n2 : Int)) = false := decide_eq_false (by omega)
      simp -implicitDefEqProofs [hlt, hx, hld, hmin, w1, w2, c, d1]
      exact .mk (m := m - 1) (by omega) (by rw [hI]; exact ⟨rfl, i + 1, by omega, by omega, by rw [hsc]; simp⟩)
  · have : l.take i = l := List.take_of_length_le (by omega)
    rw [this] at hsz ⊢
    simp -implicitDefEqProofs [hlt, hL]
    by_cases c : l.length ≤ 80
    · rw [decide_eq_true (by omega : (l.length : Int) ≤ 80)]
      exact hq1 hsz c
    · rw [decide_eq_false (by omega : ¬ (l.length : Int) ≤ 80)]
      exact hq2
end
end Go.Proofs.YthblmlkkmebciaaDoor
set_option linter.all false
set_option maxRecDepth 100000
set_option maxHeartbeats 4000000
namespace Go.Proofs.YthblmlkkmebciaaDoor
open Go Go.RowKit Go.Proofs
section
variable {ro : Nat → Option (List AVal)}
theorem eqG (h : AHeap) (a b c d : Int) : eqIn (cfgR ro) h 10000 112 (.agg [.int .i64 a, .int .i64 b]) (.agg [.int .i64 c, .int .i64 d]) = (match a == c with | true => (match b == d with | true => .ok true | false => .ok false) | false => .ok false) := by kernel_rfl
theorem eqG_self (h : AHeap) (a b : Int) : eqIn (cfgR ro) h 10000 112 (.agg [.int .i64 a, .int .i64 b]) (.agg [.int .i64 a, .int .i64 b]) = .ok true := by rw [eqG]; simp
theorem eqLG : eqL 112 = true := by decide
theorem anchor_ev (hro : ro 0 = some [.int .u16 0, .int .u32 0]) {h : AHeap} {Q : AVal → AHeap → Prop} (hq : ∀ h', Old h h' → Q (.bool true) h') : Ev (cfgR ro) 9 [] h Q := by
  refine Ev.wp rfl rfl Tryd.func9 rfl ?_
  have S0 := StA.new h
  obtain ⟨H0, hH0⟩ : ∃ H0, H0 = h.push (.row 0 false [.nilp, .int .u64 0, .nilm]) := ⟨_, rfl⟩
  obtain ⟨s, hss⟩ : ∃ s, s = h.next := ⟨_, rfl⟩
  have o0 : Old h H0 := by rw [hH0]; exact (Old.refl h).push _
  rw [← hH0, ← hss] at S0
  simp -implicitDefEqProofs [Tryd.f9]
  rw [← hH0, ← hss]
  obtain ⟨A1, hA1⟩ : ∃ A1 : List AtV, A1 = [⟨1, 1, 1, 1, 1, 97, true⟩, ⟨1, 1, 2, 1, 2, 98, true⟩] := ⟨_, rfl⟩
  obtain ⟨A2, hA2⟩ : ∃ A2 : List AtV, A2 = [⟨1, 1, 1, 1, 1, 97, true⟩, ⟨2, 1, 3, 1, 3, 120, true⟩, ⟨1, 1, 2, 1, 2, 98, true⟩] := ⟨_, rfl⟩
  have p1 : putA [] 0 0 ⟨1, 1, 1, 1, 1, [97, 98], true⟩ = (A1, 0) := by rw [hA1]; decide +kernel
  have p2 : putA A1 1 1 ⟨2, 1, 3, 1, 3, [120], true⟩ = (A2, 0) := by rw [hA1, hA2]; decide +kernel
  refine sput_ev hro (x := ⟨1, 1, 1, 1, 1, [97, 98], true⟩) (ar := 0) (an := 0) S0 (by decide) (by decide) (by decide) (by decide) (fun h1 O1 S1 P1 => ?_)
  rw [p1] at S1 ⊢
  simp -implicitDefEqProofs
  refine idPlus_ev (r := 1) (n := 1) (k := 2) (by decide) ?_
  simp -implicitDefEqProofs [idA, same_self]
  refine sput_ev hro (x := ⟨2, 1, 3, 1, 3, [120], true⟩) (ar := 1) (an := 1) S1 (by decide) (by decide) (by decide) (by decide) (fun h2 O2 S2 P2 => ?_)
  rw [p2] at S2 ⊢
  simp -implicitDefEqProofs [same_self]
  refine stext_ev S2 (fun h3 o3 => ?_)
  have t2 : shownA A2 = [97, 120, 98] := by rw [hA2]; decide
  rw [t2]
  have S3 := S2.keep o3
  simp -implicitDefEqProofs [same_self]
  refine sshow_ev (ar := 1) (an := 1) (v := false) S3 (by decide) (fun h4 O4 S4 P4 => ?_)
  have p4 : showA A2 1 1 false = (setSh A2 0 false, 0) := by rw [hA2]; decide +kernel
  rw [p4] at S4 ⊢
  simp -implicitDefEqProofs [same_self]
  refine stext_ev S4 (fun h5 o5 => ?_)
  have t4 : shownA (setSh A2 0 false) = [120, 98] := by rw [hA2]; decide
  rw [t4]
  simp -implicitDefEqProofs [same_self]
  have PP := ((P1.trans P2).trans (Stp.ofOld O2 o3)).trans (P4.trans (Stp.ofOld O4 o5))
  exact hq h5 (PP.toOld o0 (fun o ho => by rw [ho]; omega)).1
theorem is_ev {h0 h : AHeap} {s : Nat} {O : Nat → Prop} {A : List AtV} {v : AVal} (S : StA h s O A) (W : Wt h0 h O A v) {Q : AVal → AHeap → Prop} (hq : ∀ h', Old h h' → Q (.bool true) h') : Ev (cfgR ro) 15 [.ptr s 0, v] h Q := by
  refine Ev.wp rfl rfl Tryd.func15 rfl ?_
  have hlen := S.len
  have hnum := S.num
  have hL : ∀ h', Old h h' → lenR (cfgR ro) h' 32 v = .ok (.int .i64 (A.length : Nat)) := fun h' o => by have := ((W.old o).m.sl (c := cfgR ro)).lenR (t := 32) un32; simpa using this
  simp -implicitDefEqProofs [Tryd.f15]
  refine satoms_ev S (fun w h1 o1 mw => ?_)
  simp -implicitDefEqProofs
  refine Shown_ev (W.old o1).m.sl (by omega) (fun h2 o2 => ?_)
  have o12 := o1.trans o2
  have mw2 := mw.keep o2
  have hLw : ∀ h', Old h2 h' → lenR (cfgR ro) h' 109 w = .ok (.int .i64 (A.length : Nat)) := fun h' o => by have := ((mw2.keep o).sl (c := cfgR ro)).lenR (t := 109) un109; simpa using this
  obtain ⟨m, t, ix, a1, a2, a3, a4, a5, a6, a7⟩ := S.keep o12
  have hat : t.at_ = A.length := by rw [← a5, flatten_length]; rfl
  have hsh : shownTx t.rs = shownA A := by rw [← a5, shownA_flat]
  have hr1 : t.items.length ≤ A.length := by rw [← hat]; exact a2.len
  have hr2 : min 1 A.length ≤ t.items.length := by
    have : t.items.length = 0 → A.length = 0 := fun e => by
      rw [← hat]; have : t.items = [] := List.length_eq_zero_iff.1 e
      unfold Rt.at_ Rt.rs; rw [this]; rfl
    omega
  have hr3 : need A ≤ t.items.length := by
    have := need_le t.rs none (fun x hx => by obtain ⟨p, hp, rfl⟩ := List.mem_map.1 hx; exact (a2.ok p hp).pos)
    rw [a5] at this
    simpa [Rt.rs, need] using this
  have hmin : foldR min2R (.int .i64 1) [.int .i64 (A.length : Nat)] = .ok (.int .i64 (min 1 A.length : Nat)) := by
    have : min2R (.int .i64 1) (.int .i64 (A.length : Nat)) = .ok (.int .i64 (min 1 A.length : Nat)) := by
      simp [min2R]; omega
    simp [foldR, this]
  simp -implicitDefEqProofs [hLw h2 (Old.refl h2), hL h2 o12]
  refine slen_ev a1 ?_
  rw [hat]
  simp -implicitDefEqProofs [hLw h2 (Old.refl h2), hL h2 o12]
  refine sshown_ev a1 ?_
  rw [hsh]
  simp -implicitDefEqProofs [hLw h2 (Old.refl h2), hL h2 o12]
  refine stext_ev (S.keep o12) (fun h3 o3 => ?_)
  have b1 := (a1.old o3).1
  simp -implicitDefEqProofs [hLw h3 o3, hL h3 (o12.trans o3)]
  refine sruns_ev b1 ?_
  obtain ⟨R, hR⟩ : ∃ R, R = t.items.length := ⟨_, rfl⟩
  rw [← hR] at hr1 hr2 hr3 ⊢
  have d1 : decide ((R : Int) < ((min 1 A.length : Nat) : Int)) = false := decide_eq_false (by omega)
  obtain ⟨mn, hmn⟩ : ∃ mn, mn = min 1 A.length := ⟨_, rfl⟩
  rw [← hmn] at hmin d1 hr2
  have d1' : ¬ R < mn := by omega
  simp -implicitDefEqProofs [hLw h3 o3, hL h3 (o12.trans o3), hmin, d1, d1']
  refine sruns_ev b1 ?_
  rw [← hR]
  have d2 : decide ((A.length : Int) < (R : Int)) = false := decide_eq_false (by omega)
  have d2' : ¬ A.length < R := by omega
  simp -implicitDefEqProofs [hLw h3 o3, hL h3 (o12.trans o3), hmin, d2, d2']
  have o13 := o12.trans o3
  have mw3 := mw2.keep o3
  have S3 := S.keep o13
  obtain ⟨I, hI⟩ : ∃ I : Nat → List AVal → AHeap → Prop, I = fun m env h' => h' = h3 ∧ ∃ i : Nat, i + m = A.length ∧
    env = (.ptr s 0 :: v :: .dead :: .dead :: .dead :: w :: .str (shownA A) :: .dead :: .dead :: .dead :: .dead :: .dead :: .dead :: .dead :: .dead :: .dead :: .dead :: .dead :: .dead :: .dead :: .dead :: .dead :: .dead :: .dead :: .dead :: .dead :: .dead :: .dead :: .dead :: .dead :: .dead :: .dead :: .dead :: .dead :: .dead :: .dead :: .dead :: .dead :: .dead :: .dead :: .dead :: .dead :: .dead :: .dead :: .dead :: .dead :: .dead :: .dead :: .dead :: .dead :: .dead :: .dead :: .dead :: .dead :: .dead :: .dead :: .dead :: .dead :: .int .i64 (A.length : Nat) :: .int .i64 (i : Nat) :: .dead :: .dead :: .dead :: .dead :: .dead :: .dead :: .dead :: .dead :: .dead :: .dead :: .dead :: .dead :: .dead :: .dead :: .dead :: .dead :: .dead :: .dead :: .dead :: .dead :: .dead :: .dead :: .dead :: .dead :: .dead :: .dead :: .dead :: .dead :: .dead :: .dead :: .dead :: .dead :: .dead :: .dead :: .dead :: .dead :: .dead :: .dead :: .dead :: .dead :: .dead :: .dead :: .dead :: .dead :: .dead :: .dead :: .dead :: .dead :: .dead :: .dead :: .dead :: .dead :: []) := ⟨_, rfl⟩
  refine loop_of I ?_ A.length (by rw [hI]; exact ⟨rfl, 0, by omega, rfl⟩)
  intro n env h' hi
  rw [hI] at hi
  obtain ⟨rfl, i, him, rfl⟩ := hi
  by_cases hlt : i < A.length
  · obtain ⟨a, ha⟩ : ∃ a, A[i]? = some a := ⟨_, List.getElem?_eq_getElem hlt⟩
    have E := El.of ((W.old o13).m.sl (c := cfgR ro)) ha
    have he : (A.map AtV.cells)[i]? = some a.cells := by rw [List.getElem?_map, ha]; rfl
    have hsw := mw3.sl (c := cfgR ro)
    have hx : indexAddrR Tryd.prog 109 w (.int .i64 (i : Nat)) = .ok (elp w 7 i) := hsw.idx un109 sz82 (by simpa using hlt)
    have hld : loadR (cfgR ro) h' 82 (elp w 7 i) = .ok (.agg a.cells) := hsw.load he ag82 sz82
    have w1 : IntKind.i64.wrap ((i : Int) + 1) = ((i + 1 : Nat) : Int) := by rw [w64 (by omega) (by omega)]; omega
    have El_ := E.l
    have hEl : AVal.agg [.int .u64 a.clock, .int .u16 a.r, .int .u32 a.n, .int .u16 a.er, .int .u32 a.en, .int .u8 a.b.toNat, .bool a.shown] = .agg a.cells := rfl
    rw [hEl] at El_
    simp -implicitDefEqProofs [hlt, hx, hld, E.x, El_]
    refine atom16_ev ?_
    rw [decide_eq_true rfl]
    simp -implicitDefEqProofs [hlt, hx, hld, E.x, El_, same_self, w1]
    exact .mk (m := n - 1) (by omega) (by rw [hI]; exact ⟨rfl, i + 1, by omega, by simp⟩)
  · have hshl := shownA_le A
    have hwk := Wk.text_ok (shownA A)
    simp -implicitDefEqProofs [hlt]
    refine text04_ev (by omega) ?_
    obtain ⟨wk, hwkk⟩ : ∃ wk, wk = Wk.text (shownA A) := ⟨_, rfl⟩
    rw [← hwkk] at hwk
    rw [← hwkk]
    simp -implicitDefEqProofs
    refine swalk_ev b1 (fun p q r u hw => ?_)
    rw [hsh, ← hwkk] at hw
    obtain ⟨hu, hs1, hs2⟩ := hwk
    simp -implicitDefEqProofs
    refine of03_ev hw.tr (by omega) (by omega) hw.ti (by omega) (by omega) ?_
    simp -implicitDefEqProofs
    refine swalk_ev b1 (fun p2 q2 r2 u2 hw2 => ?_)
    rw [hsh, ← hwkk] at hw2
    simp -implicitDefEqProofs
    refine of03_ev hw2.sr (by omega) (by omega) hw2.si (by omega) (by omega) ?_
    simp -implicitDefEqProofs [eqG_self, eqLG]
    refine sruns_ev b1 ?_
    rw [← hR]
    simp -implicitDefEqProofs [eqG_self, eqLG]
    refine Runs_ev ((W.old o13).m.sl) (by omega) hnum ?_
    have d3 : decide ((need A : Int) ≤ (R : Int)) = true := decide_eq_true (by omega)
    have d3' : need A ≤ R := hr3
    simp -implicitDefEqProofs [eqG_self, eqLG, d3, d3']
    exact hq h' o13
end
end Go.Proofs.YthblmlkkmebciaaDoor
set_option linter.all false
set_option maxRecDepth 100000
set_option maxHeartbeats 4000000
namespace Go.Proofs.YthblmlkkmebciaaDoor
open Go Go.RowKit Go.Proofs
theorem sizeOps_mem {l : List OpV} {o : OpV} (h : o ∈ l) : min o.x.text.length 3000 ≤ sizeOps l := by
  unfold sizeOps
  induction l with
  | nil => cases h
  | cons p l ih =>
    simp only [List.map_cons, List.sum_cons]
    rcases List.mem_cons.1 h with rfl | h
    · omega
    · have := ih h; omega
section
variable {ro : Nat → Option (List AVal)}
theorem StorePlays_ev (hro : ro 0 = some [.int .u16 0, .int .u32 0]) {h : AHeap} {v : AVal} {l : List OpV} (hs : Sl (cfgR ro) h 11 v (l.map OpV.cells)) (hl : l.length < 2 ^ 63) (hr : ∀ o ∈ l, OpR o) : Ev (cfgR ro) 4 [v] h (fun x _ => x = .bool true) := by
  refine Ev.wp rfl rfl Tryd.func4 rfl ?_
  simp -implicitDefEqProofs [Tryd.f4, idA]
  refine anchor_ev hro (fun h1 o1 => ?_)
  simp -implicitDefEqProofs
  refine small_ev (hs.old o1) hl hr (fun hsz h80 => ?_) (by simp -implicitDefEqProofs)
  have hL : ∀ h', Old h h' → lenR (cfgR ro) h' 22 v = .ok (.int .i64 (l.length : Nat)) := fun h' o => by have := (hs.old o).lenR (t := 22) un22; simpa using this
  have S0 := StA.new h1
  obtain ⟨H0, hH0⟩ : ∃ H0, H0 = h1.push (.row 0 false [.nilp, .int .u64 0, .nilm]) := ⟨_, rfl⟩
  obtain ⟨s, hss⟩ : ∃ s, s = h1.next := ⟨_, rfl⟩
  have o0 : Old h1 H0 := by rw [hH0]; exact (Old.refl h1).push _
  rw [← hH0, ← hss] at S0
  simp -implicitDefEqProofs [hL h1 o1]
  rw [← hH0, ← hss]
  have hLL := hL H0 (o1.trans o0)
  simp -implicitDefEqProofs [hLL]
  obtain ⟨I, hI⟩ : ∃ I : Nat → List AVal → AHeap → Prop, I = fun m env h' => ∃ (i : Nat) (O : Nat → Prop) (A : List AtV) (w : AVal), i + m = l.length ∧ StA h' s O A ∧ Wt h1 h' O A w ∧ Old h1 h' ∧ (∀ o, O o → h1.next ≤ o) ∧ (l.take i).foldl doA [] = A ∧
    env = (.dead :: .dead :: .dead :: .ptr s 0 :: w :: .dead :: .dead :: .dead :: .dead :: .dead :: .dead :: .dead :: .dead :: v :: .int .i64 (l.length : Nat) :: .int .i64 (i : Nat) :: .dead :: .dead :: .dead :: .dead :: .dead :: .dead :: .dead :: .dead :: .dead :: .dead :: .dead :: .dead :: .dead :: .dead :: .dead :: .dead :: .dead :: []) := ⟨_, rfl⟩
  refine loop_of I ?_ l.length (by rw [hI]; exact ⟨0, _, [], .nils, by omega, S0, ⟨Mine.nil _ _ _, fun q f n e => by cases e⟩, o0, fun o ho => by rw [ho]; omega, rfl, rfl⟩)
  intro m env h' hi
  rw [hI] at hi
  obtain ⟨i, O, A, w, him, S, W, oo, hO, hA, rfl⟩ := hi
  by_cases hlt : i < l.length
  · obtain ⟨o, ho⟩ : ∃ o, l[i]? = some o := ⟨_, List.getElem?_eq_getElem hlt⟩
    have hom : o ∈ l := List.mem_of_getElem? ho
    have he : (l.map OpV.cells)[i]? = some o.cells := by rw [List.getElem?_map, ho]; rfl
    have hsl := hs.old (o1.trans oo)
    have hx : indexAddrR Tryd.prog 22 v (.int .i64 (i : Nat)) = .ok (elp v 11 i) := hsl.idx un22 sz42 (by simpa using hlt)
    have hld : loadR (cfgR ro) h' 42 (elp v 11 i) = .ok (.agg o.cells) := hsl.load he ag42 sz42
    have w1 : IntKind.i64.wrap ((i : Int) + 1) = ((i + 1 : Nat) : Int) := by rw [w64 (by omega) (by omega)]; omega
    have htx : o.x.text.length < 3000 := by have := sizeOps_mem hom; omega
    have hfold : (l.take (i + 1)).foldl doA [] = doA A o := by
      obtain ⟨l1, e1⟩ := List.getElem?_eq_some_iff.1 ho
      rw [List.take_succ_eq_append_getElem l1, e1, List.foldl_append, hA]; rfl
    simp only [OpV.cells] at hld
    simp -implicitDefEqProofs [hlt, hx, hld]
    refine do_ev hro S W oo.1 (hr o hom) (by omega) (fun w' h2 O2 S2 W2 P2 => ?_)
    obtain ⟨oo2, hO2⟩ := P2.toOld oo hO
    simp -implicitDefEqProofs [hlt, hx, hld]
    refine is_ev S2 W2 (fun h3 o3 => ?_)
    simp -implicitDefEqProofs [w1]
    exact .mk (m := m - 1) (by omega) (by rw [hI]; exact ⟨i + 1, O2, _, w', by omega, S2.keep o3, W2.old o3, oo2.trans o3, hO2, hfold, by simp⟩)
  · simp -implicitDefEqProofs [hlt]
theorem StoreRuns_ev (hro : ro 0 = some [.int .u16 0, .int .u32 0]) {h : AHeap} {v : AVal} {l : List OpV} (hs : Sl (cfgR ro) h 11 v (l.map OpV.cells)) (hl : l.length < 2 ^ 63) (hr : ∀ o ∈ l, OpR o) : Ev (cfgR ro) 3 [v] h (fun x _ => x = .bool true) := by
  refine Ev.wp rfl rfl Tryd.func3 rfl ?_
  simp -implicitDefEqProofs [Tryd.f3, idA]
  refine anchor_ev hro (fun h1 o1 => ?_)
  simp -implicitDefEqProofs
  refine small_ev (hs.old o1) hl hr (fun hsz h80 => ?_) (by simp -implicitDefEqProofs)
  have hL : ∀ h', Old h h' → lenR (cfgR ro) h' 22 v = .ok (.int .i64 (l.length : Nat)) := fun h' o => by have := (hs.old o).lenR (t := 22) un22; simpa using this
  have S0 := StA.new h1
  obtain ⟨H0, hH0⟩ : ∃ H0, H0 = h1.push (.row 0 false [.nilp, .int .u64 0, .nilm]) := ⟨_, rfl⟩
  obtain ⟨s, hss⟩ : ∃ s, s = h1.next := ⟨_, rfl⟩
  have o0 : Old h1 H0 := by rw [hH0]; exact (Old.refl h1).push _
  rw [← hH0, ← hss] at S0
  simp -implicitDefEqProofs [hL h1 o1]
  rw [← hH0, ← hss]
  have hLL := hL H0 (o1.trans o0)
  simp -implicitDefEqProofs [hLL]
  obtain ⟨I, hI⟩ : ∃ I : Nat → List AVal → AHeap → Prop, I = fun m env h' => ∃ (i : Nat) (O : Nat → Prop) (A : List AtV) (w : AVal), i + m = l.length ∧ StA h' s O A ∧ Wt h1 h' O A w ∧ Old h1 h' ∧ (∀ o, O o → h1.next ≤ o) ∧ (l.take i).foldl doA [] = A ∧
    env = (.dead :: .dead :: .dead :: .ptr s 0 :: w :: .dead :: .dead :: .dead :: .dead :: .dead :: .dead :: .dead :: v :: .int .i64 (l.length : Nat) :: .int .i64 (i : Nat) :: .dead :: .dead :: .dead :: .dead :: .dead :: .dead :: .dead :: .dead :: .dead :: .dead :: .dead :: .dead :: .dead :: .dead :: .dead :: .dead :: []) := ⟨_, rfl⟩
  refine loop_of I ?_ l.length (by rw [hI]; exact ⟨0, _, [], .nils, by omega, S0, ⟨Mine.nil _ _ _, fun q f n e => by cases e⟩, o0, fun o ho => by rw [ho]; omega, rfl, rfl⟩)
  intro m env h' hi
  rw [hI] at hi
  obtain ⟨i, O, A, w, him, S, W, oo, hO, hA, rfl⟩ := hi
  by_cases hlt : i < l.length
  · obtain ⟨o, ho⟩ : ∃ o, l[i]? = some o := ⟨_, List.getElem?_eq_getElem hlt⟩
    have hom : o ∈ l := List.mem_of_getElem? ho
    have he : (l.map OpV.cells)[i]? = some o.cells := by rw [List.getElem?_map, ho]; rfl
    have hsl := hs.old (o1.trans oo)
    have hx : indexAddrR Tryd.prog 22 v (.int .i64 (i : Nat)) = .ok (elp v 11 i) := hsl.idx un22 sz42 (by simpa using hlt)
    have hld : loadR (cfgR ro) h' 42 (elp v 11 i) = .ok (.agg o.cells) := hsl.load he ag42 sz42
    have w1 : IntKind.i64.wrap ((i : Int) + 1) = ((i + 1 : Nat) : Int) := by rw [w64 (by omega) (by omega)]; omega
    have htx : o.x.text.length < 3000 := by have := sizeOps_mem hom; omega
    have hfold : (l.take (i + 1)).foldl doA [] = doA A o := by
      obtain ⟨l1, e1⟩ := List.getElem?_eq_some_iff.1 ho
      rw [List.take_succ_eq_append_getElem l1, e1, List.foldl_append, hA]; rfl
    simp only [OpV.cells] at hld
    simp -implicitDefEqProofs [hlt, hx, hld]
    refine do_ev hro S W oo.1 (hr o hom) (by omega) (fun w' h2 O2 S2 W2 P2 => ?_)
    obtain ⟨oo2, hO2⟩ := P2.toOld oo hO
    simp -implicitDefEqProofs [hlt, hx, hld]
    try simp -implicitDefEqProofs [w1]
    exact .mk (m := m - 1) (by omega) (by rw [hI]; exact ⟨i + 1, O2, _, w', by omega, S2, W2, oo2, hO2, hfold, by simp [w1]⟩)
  · have hnum := S.num
    have hlen := S.len
    obtain ⟨mm, t, ix, a1, a2, a3, a4, a5, a6, a7⟩ := S
    have hat : t.at_ = A.length := by rw [← a5, flatten_length]; rfl
    simp -implicitDefEqProofs [hlt]
    refine slen_ev a1 ?_
    rw [hat]
    by_cases c : 500 < A.length
    · have d1 : decide ((500 : Int) < (A.length : Int)) = true := decide_eq_true (by omega)
      simp -implicitDefEqProofs [c, d1]
    · have d1 : decide ((500 : Int) < (A.length : Int)) = false := decide_eq_false (by omega)
      have hn : need A = t.items.length := by
        rw [← a5, need_eq (fun x hx => by obtain ⟨p, hp, rfl⟩ := List.mem_map.1 hx; exact (a2.ok p hp).pos) (a6 (by omega))]
        simp [Rt.rs]
      simp -implicitDefEqProofs [c, d1]
      refine sruns_ev a1 ?_
      simp -implicitDefEqProofs [c, d1]
      refine Runs_ev W.m.sl (by omega) hnum ?_
      rw [hn]
      simp -implicitDefEqProofs
end
end Go.Proofs.YthblmlkkmebciaaDoor
set_option linter.all false
set_option maxRecDepth 100000
set_option maxHeartbeats 4000000
namespace Go.Proofs.YthblmlkkmebciaaDoor
open Go Go.RowKit Go.Proofs
theorem shown_uniq {A : List AtV} {i j : Nat} {a b : AtV} (h1 : A[i]? = some a) (h2 : a.shown = true) (h3 : A[j]? = some b) (h4 : b.shown = true) (e : (shownA (A.take i)).length = (shownA (A.take j)).length) : i = j := by
  have key : ∀ i j a, i < j → A[i]? = some a → a.shown = true → (shownA (A.take i)).length < (shownA (A.take j)).length := by
    intro i j a hij h1 h2
    have e1 := congrArg List.length (shownA_succ h1)
    rw [List.length_append, h2] at e1
    have : A.take j = A.take (i + 1) ++ (A.take j).drop (i + 1) := by
      have := List.take_append_drop (i + 1) (A.take j)
      rw [List.take_take, Nat.min_eq_left (by omega)] at this
      exact this.symm
    rw [this, shownA_append, List.length_append]
    simp at e1; omega
  rcases Nat.lt_trichotomy i j with c | c | c
  · have := key i j a c h1 h2; omega
  · exact c
  · have := key j i b c h3 h4; omega
theorem shown_lt {A : List AtV} {i : Nat} {a : AtV} (h1 : A[i]? = some a) (h2 : a.shown = true) : (shownA (A.take i)).length < (shownA A).length := by
  have e1 := congrArg List.length (shownA_succ h1)
  rw [List.length_append, h2] at e1
  have : A = A.take (i + 1) ++ A.drop (i + 1) := (List.take_append_drop _ _).symm
  have e2 := congrArg (fun l => (shownA l).length) this
  simp only [shownA_append, List.length_append] at e2
  simp at e1; omega
section
variable {ro : Nat → Option (List AVal)}
theorem eqB (h : AHeap) (a b : Bool) : eqFlat Tryd.prog h .bool (.bool a) (.bool b) = .ok (a == b) := rfl
theorem eqZA (h : AHeap) : eqIn (cfgR ro) h 10000 82 zeroAtom zeroAtom = .ok true := by kernel_rfl
theorem eqZR (h : AHeap) : eqIn (cfgR ro) h 10000 40 zeroRun zeroRun = .ok true := by kernel_rfl
theorem eqL82 : eqL 82 = true := by decide
theorem eqL40 : eqL 40 = true := by decide
theorem shas_ev {h : AHeap} {s : Nat} {O : Nat → Prop} {A : List AtV} {ar an : Nat} (S : StA h s O A) (ha : an < 2 ^ 32) {Q : AVal → AHeap → Prop} (hq : Q (.bool (atIx A ar an).isSome) h) : Ev (cfgR ro) 31 [.ptr s 0, idA ar an] h Q := by
  obtain ⟨m, t, ix, a1, a2, a3, a4, a5, a6, a7⟩ := S
  refine has_ev a1 a2 ha (fun b hb => ?_)
  have : (atIx A ar an).isSome = b := by
    cases b with
    | true =>
      obtain ⟨p, hp, hh⟩ := hb.1 rfl
      cases e : atIx A ar an with
      | some i => rfl
      | none =>
        rw [← a5] at e
        exact (atIx_none.1 e p.2 (List.mem_map.2 ⟨p, hp, rfl⟩) hh).elim
    | false =>
      have : atIx A ar an = none := by
        rw [← a5]
        refine atIx_none.2 (fun y hy hh => ?_)
        obtain ⟨p, hp, rfl⟩ := List.mem_map.1 hy
        have := hb.2 ⟨p, hp, hh⟩; cases this
      rw [this]; rfl
  rw [← this]; exact hq
theorem StA.noroot {h : AHeap} {s : Nat} {O : Nat → Prop} {A : List AtV} (S : StA h s O A) : atIx A 0 0 = none := by
  obtain ⟨m, t, ix, a1, a2, a3, a4, a5, a6, a7⟩ := S
  rw [← a5]
  refine atIx_none.2 (fun y hy hh => ?_)
  obtain ⟨p, hp, rfl⟩ := List.mem_map.1 hy
  have := (a2.ok p hp).n1
  have := hh.2.1
  omega
theorem StoreAsks_ev (hro : ro 0 = some [.int .u16 0, .int .u32 0]) {h : AHeap} {v : AVal} {l : List OpV} {ar an : Nat} {kk : Int} (ha : an < 2 ^ 32) (hkk : -9223372036854775808 ≤ kk ∧ kk < 9223372036854775808) (hs : Sl (cfgR ro) h 11 v (l.map OpV.cells)) (hl : l.length < 2 ^ 63) (hr : ∀ o ∈ l, OpR o) : Ev (cfgR ro) 8 [v, idA ar an, .int .i64 kk] h (fun x _ => x = .bool true) := by
  refine Ev.wp rfl rfl Tryd.func8 rfl ?_
  simp -implicitDefEqProofs [Tryd.f8, idA]
  refine anchor_ev hro (fun h1 o1 => ?_)
  simp -implicitDefEqProofs
  refine small_ev (hs.old o1) hl hr (fun hsz h80 => ?_) (by simp -implicitDefEqProofs)
  have hL : ∀ h', Old h h' → lenR (cfgR ro) h' 22 v = .ok (.int .i64 (l.length : Nat)) := fun h' o => by have := (hs.old o).lenR (t := 22) un22; simpa using this
  have S0 := StA.new h1
  obtain ⟨H0, hH0⟩ : ∃ H0, H0 = h1.push (.row 0 false [.nilp, .int .u64 0, .nilm]) := ⟨_, rfl⟩
  obtain ⟨s, hss⟩ : ∃ s, s = h1.next := ⟨_, rfl⟩
  have o0 : Old h1 H0 := by rw [hH0]; exact (Old.refl h1).push _
  rw [← hH0, ← hss] at S0
  simp -implicitDefEqProofs [hL h1 o1]
  rw [← hH0, ← hss]
  have hLL := hL H0 (o1.trans o0)
  simp -implicitDefEqProofs [hLL]
  obtain ⟨I, hI⟩ : ∃ I : Nat → List AVal → AHeap → Prop, I = fun m env h' => ∃ (i : Nat) (O : Nat → Prop) (A : List AtV) (w : AVal), i + m = l.length ∧ StA h' s O A ∧ Wt h1 h' O A w ∧ Old h1 h' ∧ (∀ o, O o → h1.next ≤ o) ∧ (l.take i).foldl doA [] = A ∧
    env = (.dead :: .dead :: .int .i64 kk :: .dead :: .cell [.int .u16 ar, .int .u32 an] :: .dead :: .dead :: .ptr s 0 :: w :: .dead :: .dead :: .dead :: .dead :: .dead :: .dead :: .dead :: .dead :: .dead :: .dead :: .dead :: .dead :: .dead :: .dead :: .dead :: .dead :: .dead :: .dead :: .dead :: .dead :: v :: .int .i64 (l.length : Nat) :: .int .i64 (i : Nat) :: .dead :: .dead :: .dead :: .dead :: .dead :: .dead :: .dead :: .dead :: .dead :: .dead :: .dead :: .dead :: .dead :: .dead :: .dead :: .dead :: .dead :: .dead :: .dead :: .dead :: .dead :: .dead :: .dead :: .dead :: .dead :: .dead :: .dead :: .dead :: .dead :: .dead :: .dead :: .dead :: .dead :: .dead :: .dead :: .dead :: .dead :: .dead :: .dead :: .dead :: .dead :: .dead :: .dead :: .dead :: .dead :: .dead :: .dead :: .dead :: .dead :: .dead :: .dead :: .dead :: .dead :: .dead :: .dead :: .dead :: .dead :: .dead :: .dead :: .dead :: .dead :: .dead :: .dead :: .dead :: .dead :: .dead :: .dead :: .dead :: .dead :: .dead :: .dead :: .dead :: .dead :: .dead :: .dead :: .dead :: .dead :: .dead :: .dead :: .dead :: .dead :: .dead :: .dead :: .dead :: .dead :: .dead :: .dead :: .dead :: .dead :: .dead :: .dead :: .dead :: .dead :: .dead :: .dead :: .dead :: .dead :: .dead :: .dead :: .dead :: .dead :: .dead :: .dead :: .dead :: .dead :: .dead :: .dead :: .dead :: .dead :: .dead :: .dead :: .dead :: .dead :: .dead :: .dead :: .dead :: .dead :: .dead :: .dead :: .dead :: .dead :: .dead :: .dead :: .dead :: .dead :: .dead :: .dead :: .dead :: .dead :: .dead :: .dead :: .dead :: .dead :: .dead :: .dead :: .dead :: .dead :: .dead :: .dead :: .dead :: .dead :: .dead :: .dead :: .dead :: .dead :: .dead :: .dead :: .dead :: .dead :: .dead :: .dead :: .dead :: .dead :: .dead :: .dead :: .dead :: .dead :: .dead :: .dead :: .dead :: .dead :: .dead :: .dead :: .dead :: .dead :: .dead :: .dead :: .dead :: .dead :: .dead :: .dead :: .dead :: .dead :: .dead :: .dead :: .dead :: .dead :: []) := ⟨_, rfl⟩
  refine loop_of I ?_ l.length (by rw [hI]; exact ⟨0, _, [], .nils, by omega, S0, ⟨Mine.nil _ _ _, fun q f n e => by cases e⟩, o0, fun o ho => by rw [ho]; omega, rfl, rfl⟩)
  intro m env h' hi
  rw [hI] at hi
  obtain ⟨i, O, A, w, him, S, W, oo, hO, hA, rfl⟩ := hi
  by_cases hlt : i < l.length
  · obtain ⟨o, ho⟩ : ∃ o, l[i]? = some o := ⟨_, List.getElem?_eq_getElem hlt⟩
    have hom : o ∈ l := List.mem_of_getElem? ho
    have he : (l.map OpV.cells)[i]? = some o.cells := by rw [List.getElem?_map, ho]; rfl
    have hsl := hs.old (o1.trans oo)
    have hx : indexAddrR Tryd.prog 22 v (.int .i64 (i : Nat)) = .ok (elp v 11 i) := hsl.idx un22 sz42 (by simpa using hlt)
    have hld : loadR (cfgR ro) h' 42 (elp v 11 i) = .ok (.agg o.cells) := hsl.load he ag42 sz42
    have w1 : IntKind.i64.wrap ((i : Int) + 1) = ((i + 1 : Nat) : Int) := by rw [w64 (by omega) (by omega)]; omega
    have htx : o.x.text.length < 3000 := by have := sizeOps_mem hom; omega
    have hfold : (l.take (i + 1)).foldl doA [] = doA A o := by
      obtain ⟨l1, e1⟩ := List.getElem?_eq_some_iff.1 ho
      rw [List.take_succ_eq_append_getElem l1, e1, List.foldl_append, hA]; rfl
    simp only [OpV.cells] at hld
    simp -implicitDefEqProofs [hlt, hx, hld]
    refine do_ev hro S W oo.1 (hr o hom) (by omega) (fun w' h2 O2 S2 W2 P2 => ?_)
    obtain ⟨oo2, hO2⟩ := P2.toOld oo hO
    simp -implicitDefEqProofs [hlt, hx, hld]
    exact .mk (m := m - 1) (by omega) (by rw [hI]; exact ⟨i + 1, O2, _, w', by omega, S2, W2, oo2, hO2, hfold, by simp [w1]⟩)
  · have hlen := S.len
    simp -implicitDefEqProofs [hlt]
    refine At_ev (W.m.sl) (by omega) ?_
    cases hix : atIx A ar an with
    | none =>
      simp -implicitDefEqProofs [ixI]
      refine sget_ev S ha (fun i a e _ => by rw [hix] at e; cases e) (fun _ => ?_)
      simp -implicitDefEqProofs [ixI, zeroAtom]
      refine sindex_ev S ha (fun i h2 o2 e => by rw [hix] at e; cases e) (fun _ => ?_)
      simp -implicitDefEqProofs [ixI]
      refine shas_ev S ha ?_
      rw [hix]
      have za := eqZA (ro := ro) h'
      simp only [zeroAtom] at za
      simp -implicitDefEqProofs [ixI, eqB, same_self, za, eqL82]
      refine Place_ev (W.m.sl) (by omega) hkk (fun j b hb1 hb2 hb3 => ?_) (fun hpl => ?_)
      · have kk0 : ¬ kk < 0 := by omega
        have dk : decide (kk < 0) = false := decide_eq_false kk0
        have dj : decide ((0 : Int) ≤ (j : Int)) = true := decide_eq_true (by omega)
        simp -implicitDefEqProofs [kk0, dk, ixI]
        refine sat_ev S (fun j2 b2 h5 o5 g1 g2 g3 => ?_) (fun e => by have := shown_lt hb1 hb2; omega)
        have ej : j2 = j := shown_uniq g1 g2 hb1 hb2 (by omega)
        subst ej
        have eb : b2 = b := by rw [g1] at hb1; exact Option.some.inj hb1
        subst eb
        have S5 := S.keep o5
        have W5 := W.old o5
        have E5 := El.of (W5.m.sl (c := cfgR ro)) g1
        have El5 := E5.l
        have hEl5 : AVal.agg [.int .u64 b2.clock, .int .u16 b2.r, .int .u32 b2.n, .int .u16 b2.er, .int .u32 b2.en, .int .u8 b2.b.toNat, .bool b2.shown] = .agg b2.cells := rfl
        simp -implicitDefEqProofs [kk0, dk, dj, AtV.cells, eqB, same_self, E5.x, El5, ixI]
        rw [hEl5]
        refine atom16_ev ?_
        rw [decide_eq_true rfl]
        simp -implicitDefEqProofs [kk0, dk, dj, AtV.cells, eqB, same_self, E5.x, El5, ixI]
        have zr := eqZR (ro := ro) h5
        simp only [zeroRun] at zr
        refine sbehind_ev hro S5 ha (fun k z rest q1 q2 q3 q4 => ?_) (fun q1 => ?_)
        · have hroot : ar = 0 ∧ an = 0 := by
            unfold posA at q1
            by_cases c : ar = 0 ∧ an = 0
            · exact c
            · rw [if_neg c, hix] at q1; cases q1
          have hk0 : k = 0 := by
            unfold posA at q1
            rw [if_pos hroot] at q1; exact (Option.some.inj q1).symm
          have w9 : IntKind.i64.wrap 0 = 0 := by decide
          have hAl : A.length = z.text.length + rest.length := by
            have := congrArg List.length q2
            rw [List.length_drop, List.length_append, atomsOf_len] at this; omega
          have zp := q3.pos
          have hA0 : ¬ A.length = 0 := by omega
          have hL3 : lenR (cfgR ro) h5 32 w = .ok (.int .i64 (A.length : Nat)) := by have := (W5.m.sl (c := cfgR ro)).lenR (t := 32) un32; simpa using this
          have dA : decide ((A.length : Int) ≤ 0) = false := decide_eq_false (by omega)
          simp -implicitDefEqProofs [RunV.cells, w9, ixI]
          refine idRoot_ev hro ?_
          rw [decide_eq_true hroot]
          simp -implicitDefEqProofs [RunV.cells, w9, hL3, dA, hA0, ixI]
          refine atoms15_ev (x := z) q3 (fun v6 h6 o6 m6 => ?_)
          have W6 := W5.old o6
          have hL6 : lenR (cfgR ro) h6 32 w = .ok (.int .i64 (A.length : Nat)) := by have := (W6.m.sl (c := cfgR ro)).lenR (t := 32) un32; simpa using this
          have hL7 : lenR (cfgR ro) h6 32 v6 = .ok (.int .i64 (z.text.length : Nat)) := by have := (m6.sl (c := cfgR ro)).lenR (t := 32) un32; simpa [atomsOf_len] using this
          have w10 : IntKind.i64.wrap (A.length : Int) = (A.length : Int) := w64 (by omega) (by omega)
          have w11 : IntKind.i64.wrap (z.text.length : Int) = (z.text.length : Int) := w64 (by omega) (by omega)
          have d5 : decide ((z.text.length : Int) ≤ (A.length : Int)) = true := decide_eq_true (by omega)
          have d5' : z.text.length ≤ A.length := by omega
          have d6 : 0 < z.text.length := zp
          obtain ⟨p4, p5, p6⟩ := (W6.m.sl (c := cfgR ro)).cut (lo := some (.int .i64 (0 : Int))) (hi := some (.int .i64 (z.text.length : Int))) (a := 0) (b := z.text.length) (by decide) W6.m.notSlc (fun top ht => bd_both (a := 0) (by rw [List.length_map] at ht; omega) (Nat.zero_le _) .i64 .i64) (Nat.zero_le _) (by rw [List.length_map]; omega)
          rw [← List.map_take, ← List.map_drop] at p5
          simp -implicitDefEqProofs [RunV.cells, w9, w10, w11, hL6, hL7, d5, d5', d6, p4, ixI]
          refine Same_ev (m6.sl) p5 (by rw [atomsOf_len]; omega) (by rw [List.length_drop, List.length_take]; omega) (fun b hb => ?_)
          have : b = true := hb.2 (by
            rw [hk0, List.drop_zero] at q2
            rw [q2, List.drop_zero, List.take_append_of_le_length (by rw [atomsOf_len]; exact Nat.le_refl _), List.take_of_length_le (by rw [atomsOf_len]; exact Nat.le_refl _)])
          subst this
          simp -implicitDefEqProofs
        · simp -implicitDefEqProofs [zeroRun, ixI]
          refine idRoot_ev hro ?_
          by_cases c : ar = 0 ∧ an = 0
          · have hA0 : A.length = 0 := by
              have := q1 0 (by unfold posA; rw [if_pos c]); omega
            have hL3 : lenR (cfgR ro) h5 32 w = .ok (.int .i64 0) := by have := (W5.m.sl (c := cfgR ro)).lenR (t := 32) un32; simpa [hA0] using this
            have w9 : IntKind.i64.wrap 0 = 0 := by decide
            rw [decide_eq_true c]
            simp -implicitDefEqProofs [zeroRun, w9, hL3, zr, eqL40, ixI]
          · rw [decide_eq_false c]
            simp -implicitDefEqProofs [zeroRun, zr, eqL40, ixI]
      · have fin : ∀ K : Int → Prop, K (-1) → K (if kk < 0 then -1 else -1) := fun K h => by split <;> exact h
        by_cases kk0 : kk < 0
        · simp -implicitDefEqProofs [kk0, ixI]
          refine sat_ev S (fun j2 b2 h5 o5 g1 g2 g3 => by omega) (fun e h5 o5 => ?_)
          have S5 := S.keep o5
          have W5 := W.old o5
          have za5 := eqZA (ro := ro) h5
          simp only [zeroAtom] at za5
          simp -implicitDefEqProofs [kk0, zeroAtom, eqB, same_self, za5, eqL82, ixI]
          have zr := eqZR (ro := ro) h5
          simp only [zeroRun] at zr
          refine sbehind_ev hro S5 ha (fun k z rest q1 q2 q3 q4 => ?_) (fun q1 => ?_)
          · have hroot : ar = 0 ∧ an = 0 := by
              unfold posA at q1
              by_cases c : ar = 0 ∧ an = 0
              · exact c
              · rw [if_neg c, hix] at q1; cases q1
            have hk0 : k = 0 := by
              unfold posA at q1
              rw [if_pos hroot] at q1; exact (Option.some.inj q1).symm
            have w9 : IntKind.i64.wrap 0 = 0 := by decide
            have hAl : A.length = z.text.length + rest.length := by
              have := congrArg List.length q2
              rw [List.length_drop, List.length_append, atomsOf_len] at this; omega
            have zp := q3.pos
            have hA0 : ¬ A.length = 0 := by omega
            have hL3 : lenR (cfgR ro) h5 32 w = .ok (.int .i64 (A.length : Nat)) := by have := (W5.m.sl (c := cfgR ro)).lenR (t := 32) un32; simpa using this
            have dA : decide ((A.length : Int) ≤ 0) = false := decide_eq_false (by omega)
            simp -implicitDefEqProofs [RunV.cells, w9, ixI]
            refine idRoot_ev hro ?_
            rw [decide_eq_true hroot]
            simp -implicitDefEqProofs [RunV.cells, w9, hL3, dA, hA0, ixI]
            refine atoms15_ev (x := z) q3 (fun v6 h6 o6 m6 => ?_)
            have W6 := W5.old o6
            have hL6 : lenR (cfgR ro) h6 32 w = .ok (.int .i64 (A.length : Nat)) := by have := (W6.m.sl (c := cfgR ro)).lenR (t := 32) un32; simpa using this
            have hL7 : lenR (cfgR ro) h6 32 v6 = .ok (.int .i64 (z.text.length : Nat)) := by have := (m6.sl (c := cfgR ro)).lenR (t := 32) un32; simpa [atomsOf_len] using this
            have w10 : IntKind.i64.wrap (A.length : Int) = (A.length : Int) := w64 (by omega) (by omega)
            have w11 : IntKind.i64.wrap (z.text.length : Int) = (z.text.length : Int) := w64 (by omega) (by omega)
            have d5 : decide ((z.text.length : Int) ≤ (A.length : Int)) = true := decide_eq_true (by omega)
            have d5' : z.text.length ≤ A.length := by omega
            have d6 : 0 < z.text.length := zp
            obtain ⟨p4, p5, p6⟩ := (W6.m.sl (c := cfgR ro)).cut (lo := some (.int .i64 (0 : Int))) (hi := some (.int .i64 (z.text.length : Int))) (a := 0) (b := z.text.length) (by decide) W6.m.notSlc (fun top ht => bd_both (a := 0) (by rw [List.length_map] at ht; omega) (Nat.zero_le _) .i64 .i64) (Nat.zero_le _) (by rw [List.length_map]; omega)
            rw [← List.map_take, ← List.map_drop] at p5
            simp -implicitDefEqProofs [RunV.cells, w9, w10, w11, hL6, hL7, d5, d5', d6, p4, ixI]
            refine Same_ev (m6.sl) p5 (by rw [atomsOf_len]; omega) (by rw [List.length_drop, List.length_take]; omega) (fun b hb => ?_)
            have : b = true := hb.2 (by
              rw [hk0, List.drop_zero] at q2
              rw [q2, List.drop_zero, List.take_append_of_le_length (by rw [atomsOf_len]; exact Nat.le_refl _), List.take_of_length_le (by rw [atomsOf_len]; exact Nat.le_refl _)])
            subst this
            simp -implicitDefEqProofs
          · simp -implicitDefEqProofs [zeroRun, ixI]
            refine idRoot_ev hro ?_
            by_cases c : ar = 0 ∧ an = 0
            · have hA0 : A.length = 0 := by
                have := q1 0 (by unfold posA; rw [if_pos c]); omega
              have hL3 : lenR (cfgR ro) h5 32 w = .ok (.int .i64 0) := by have := (W5.m.sl (c := cfgR ro)).lenR (t := 32) un32; simpa [hA0] using this
              have w9 : IntKind.i64.wrap 0 = 0 := by decide
              rw [decide_eq_true c]
              simp -implicitDefEqProofs [zeroRun, w9, hL3, zr, eqL40, ixI]
            · rw [decide_eq_false c]
              simp -implicitDefEqProofs [zeroRun, zr, eqL40, ixI]
        · have dk : decide (kk < 0) = false := decide_eq_false kk0
          simp -implicitDefEqProofs [kk0, dk, ixI]
          refine sat_ev S (fun j2 b2 h5 o5 g1 g2 g3 => by have := shown_lt g1 g2; omega) (fun e h5 o5 => ?_)
          have S5 := S.keep o5
          have W5 := W.old o5
          have za5 := eqZA (ro := ro) h5
          simp only [zeroAtom] at za5
          simp -implicitDefEqProofs [kk0, dk, zeroAtom, eqB, same_self, za5, eqL82, ixI]
          have zr := eqZR (ro := ro) h5
          simp only [zeroRun] at zr
          refine sbehind_ev hro S5 ha (fun k z rest q1 q2 q3 q4 => ?_) (fun q1 => ?_)
          · have hroot : ar = 0 ∧ an = 0 := by
              unfold posA at q1
              by_cases c : ar = 0 ∧ an = 0
              · exact c
              · rw [if_neg c, hix] at q1; cases q1
            have hk0 : k = 0 := by
              unfold posA at q1
              rw [if_pos hroot] at q1; exact (Option.some.inj q1).symm
            have w9 : IntKind.i64.wrap 0 = 0 := by decide
            have hAl : A.length = z.text.length + rest.length := by
              have := congrArg List.length q2
              rw [List.length_drop, List.length_append, atomsOf_len] at this; omega
            have zp := q3.pos
            have hA0 : ¬ A.length = 0 := by omega
            have hL3 : lenR (cfgR ro) h5 32 w = .ok (.int .i64 (A.length : Nat)) := by have := (W5.m.sl (c := cfgR ro)).lenR (t := 32) un32; simpa using this
            have dA : decide ((A.length : Int) ≤ 0) = false := decide_eq_false (by omega)
            simp -implicitDefEqProofs [RunV.cells, w9, ixI]
            refine idRoot_ev hro ?_
            rw [decide_eq_true hroot]
            simp -implicitDefEqProofs [RunV.cells, w9, hL3, dA, hA0, ixI]
            refine atoms15_ev (x := z) q3 (fun v6 h6 o6 m6 => ?_)
            have W6 := W5.old o6
            have hL6 : lenR (cfgR ro) h6 32 w = .ok (.int .i64 (A.length : Nat)) := by have := (W6.m.sl (c := cfgR ro)).lenR (t := 32) un32; simpa using this
            have hL7 : lenR (cfgR ro) h6 32 v6 = .ok (.int .i64 (z.text.length : Nat)) := by have := (m6.sl (c := cfgR ro)).lenR (t := 32) un32; simpa [atomsOf_len] using this
            have w10 : IntKind.i64.wrap (A.length : Int) = (A.length : Int) := w64 (by omega) (by omega)
            have w11 : IntKind.i64.wrap (z.text.length : Int) = (z.text.length : Int) := w64 (by omega) (by omega)
            have d5 : decide ((z.text.length : Int) ≤ (A.length : Int)) = true := decide_eq_true (by omega)
            have d5' : z.text.length ≤ A.length := by omega
            have d6 : 0 < z.text.length := zp
            obtain ⟨p4, p5, p6⟩ := (W6.m.sl (c := cfgR ro)).cut (lo := some (.int .i64 (0 : Int))) (hi := some (.int .i64 (z.text.length : Int))) (a := 0) (b := z.text.length) (by decide) W6.m.notSlc (fun top ht => bd_both (a := 0) (by rw [List.length_map] at ht; omega) (Nat.zero_le _) .i64 .i64) (Nat.zero_le _) (by rw [List.length_map]; omega)
            rw [← List.map_take, ← List.map_drop] at p5
            simp -implicitDefEqProofs [RunV.cells, w9, w10, w11, hL6, hL7, d5, d5', d6, p4, ixI]
            refine Same_ev (m6.sl) p5 (by rw [atomsOf_len]; omega) (by rw [List.length_drop, List.length_take]; omega) (fun b hb => ?_)
            have : b = true := hb.2 (by
              rw [hk0, List.drop_zero] at q2
              rw [q2, List.drop_zero, List.take_append_of_le_length (by rw [atomsOf_len]; exact Nat.le_refl _), List.take_of_length_le (by rw [atomsOf_len]; exact Nat.le_refl _)])
            subst this
            simp -implicitDefEqProofs
          · simp -implicitDefEqProofs [zeroRun, ixI]
            refine idRoot_ev hro ?_
            by_cases c : ar = 0 ∧ an = 0
            · have hA0 : A.length = 0 := by
                have := q1 0 (by unfold posA; rw [if_pos c]); omega
              have hL3 : lenR (cfgR ro) h5 32 w = .ok (.int .i64 0) := by have := (W5.m.sl (c := cfgR ro)).lenR (t := 32) un32; simpa [hA0] using this
              have w9 : IntKind.i64.wrap 0 = 0 := by decide
              rw [decide_eq_true c]
              simp -implicitDefEqProofs [zeroRun, w9, hL3, zr, eqL40, ixI]
            · rw [decide_eq_false c]
              simp -implicitDefEqProofs [zeroRun, zr, eqL40, ixI]
    | some i =>
      have hil := atIx_lt hix
      obtain ⟨a0, ha0⟩ : ∃ a0, A[i]? = some a0 := ⟨_, List.getElem?_eq_getElem hil⟩
      simp -implicitDefEqProofs [ixI]
      refine sget_ev S ha (fun i2 a e ha2 => ?_) (fun e => by rw [hix] at e; cases e)
      have e2 : i2 = i := by rw [hix] at e; exact (Option.some.inj e).symm
      subst e2
      have e3 : a = a0 := by rw [ha0] at ha2; exact (Option.some.inj ha2).symm
      subst e3
      simp -implicitDefEqProofs [ixI, AtV.cells]
      refine sindex_ev S ha (fun i3 h2 o2 e => ?_) (fun e => by rw [hix] at e; cases e)
      have e4 : i3 = i2 := by rw [hix] at e; exact (Option.some.inj e).symm
      subst e4
      have S2 := S.keep o2
      have W2 := W.old o2
      have d0 : decide ((0 : Int) ≤ (i3 : Int)) = true := decide_eq_true (by omega)
      have d0' : decide ((i3 : Int) < 0) = false := decide_eq_false (by omega)
      simp -implicitDefEqProofs [ixI]
      refine shas_ev S2 ha ?_
      rw [hix]
      have E := El.of (W2.m.sl (c := cfgR ro)) ha0
      have El_ := E.l
      have hEl : AVal.agg [.int .u64 a.clock, .int .u16 a.r, .int .u32 a.n, .int .u16 a.er, .int .u32 a.en, .int .u8 a.b.toNat, .bool a.shown] = .agg a.cells := rfl
      simp -implicitDefEqProofs [ixI, eqB, same_self, eqL82, d0, E.x, El_]
      rw [hEl]
      refine atom16_ev ?_
      rw [decide_eq_true rfl]
      have hsw := W2.m.sl (c := cfgR ro)
      obtain ⟨p1, p2, p3⟩ := hsw.upto (at_ := i3) (by decide) W2.m.notSlc (by simp; omega) .i64
      rw [← List.map_take] at p2
      simp -implicitDefEqProofs [ixI, eqB, same_self, eqL82, d0, E.x, El_, p1, AtV.cells]
      refine Shown_ev p2 (by rw [List.length_take]; omega) (fun h3 o3 => ?_)
      have S3 := S2.keep o3
      have W3 := W2.old o3
      have E3 := El.of (W3.m.sl (c := cfgR ro)) ha0
      obtain ⟨p1', _, _⟩ := (W3.m.sl (c := cfgR ro)).upto (at_ := i3) (by decide) W3.m.notSlc (by simp; omega) .i64
      have E3l := E3.l
      simp -implicitDefEqProofs [ixI, eqB, same_self, eqL82, d0, E.x, El_, E3.x, E3l, p1, p1', AtV.cells]
      refine Place_ev (W3.m.sl) (by omega) hkk (fun j b hb1 hb2 hb3 => ?_) (fun hpl => ?_)
      · have kk0 : ¬ kk < 0 := by omega
        have dk : decide (kk < 0) = false := decide_eq_false kk0
        have dj : decide ((0 : Int) ≤ (j : Int)) = true := decide_eq_true (by omega)
        simp -implicitDefEqProofs [kk0, dk, d0, d0']
        refine sat_ev S3 (fun j2 b2 h5 o5 g1 g2 g3 => ?_) (fun e => by have := shown_lt hb1 hb2; omega)
        have ej : j2 = j := shown_uniq g1 g2 hb1 hb2 (by omega)
        subst ej
        have eb : b2 = b := by rw [g1] at hb1; exact Option.some.inj hb1
        subst eb
        have S5 := S3.keep o5
        have W5 := W3.old o5
        have E5 := El.of (W5.m.sl (c := cfgR ro)) g1
        have El5 := E5.l
        have hEl5 : AVal.agg [.int .u64 b2.clock, .int .u16 b2.r, .int .u32 b2.n, .int .u16 b2.er, .int .u32 b2.en, .int .u8 b2.b.toNat, .bool b2.shown] = .agg b2.cells := rfl
        simp -implicitDefEqProofs [kk0, dk, dj, AtV.cells, eqB, same_self, E5.x, El5, d0, d0']
        rw [hEl5]
        refine atom16_ev ?_
        rw [decide_eq_true rfl]
        simp -implicitDefEqProofs [kk0, dk, dj, AtV.cells, eqB, same_self, E5.x, El5, d0, d0']
        have zr := eqZR (ro := ro) h5
        simp only [zeroRun] at zr
        have hroot : ¬ (ar = 0 ∧ an = 0) := fun c => by
          have := S.noroot
          rw [c.1, c.2] at hix; rw [this] at hix; cases hix
        have hpos : posA A ar an = some (i3 + 1) := by unfold posA; rw [if_neg hroot, hix]; rfl
        obtain ⟨nx, hnx⟩ : ∃ nx, nx = i3 + 1 := ⟨_, rfl⟩
        have w9 : IntKind.i64.wrap ((i3 : Int) + 1) = (nx : Int) := by rw [w64 (by omega) (by omega)]; omega
        have hL3 : lenR (cfgR ro) h5 32 w = .ok (.int .i64 (A.length : Nat)) := by have := (W5.m.sl (c := cfgR ro)).lenR (t := 32) un32; simpa using this
        refine sbehind_ev hro S5 ha (fun k z rest q1 q2 q3 q4 => ?_) (fun q1 => ?_)
        · have hk0 : k = nx := by rw [hpos] at q1; rw [hnx]; exact (Option.some.inj q1).symm
          subst hk0
          have zp := q3.pos
          have hAl : A.length = k + (z.text.length + rest.length) := by
            have := congrArg List.length q2
            rw [List.length_drop, List.length_append, atomsOf_len] at this; omega
          have dA : decide ((A.length : Int) ≤ (k : Int)) = false := decide_eq_false (by omega)
          have dA' : ¬ A.length ≤ k := by omega
          simp -implicitDefEqProofs [RunV.cells, w9, hL3, dA, dA', d0, d0']
          refine atoms15_ev (x := z) q3 (fun v6 h6 o6 m6 => ?_)
          have W6 := W5.old o6
          have hL6 : lenR (cfgR ro) h6 32 w = .ok (.int .i64 (A.length : Nat)) := by have := (W6.m.sl (c := cfgR ro)).lenR (t := 32) un32; simpa using this
          have hL7 : lenR (cfgR ro) h6 32 v6 = .ok (.int .i64 (z.text.length : Nat)) := by have := (m6.sl (c := cfgR ro)).lenR (t := 32) un32; simpa [atomsOf_len] using this
          obtain ⟨df, hdf⟩ : ∃ df, df = A.length - k := ⟨_, rfl⟩
          obtain ⟨up, hup⟩ : ∃ up, up = k + z.text.length := ⟨_, rfl⟩
          have w10 : IntKind.i64.wrap ((A.length : Int) - (k : Int)) = (df : Int) := by rw [w64 (by omega) (by omega)]; omega
          have w11 : IntKind.i64.wrap ((k : Int) + (z.text.length : Int)) = (up : Int) := by rw [w64 (by omega) (by omega)]; omega
          have d5 : decide ((z.text.length : Int) ≤ (df : Int)) = true := decide_eq_true (by omega)
          have d5' : z.text.length ≤ df := by omega
          have d6 : 0 < z.text.length := zp
          obtain ⟨p4, p5, p6⟩ := (W6.m.sl (c := cfgR ro)).cut (lo := some (.int .i64 (k : Int))) (hi := some (.int .i64 (up : Int))) (a := k) (b := up) (by decide) W6.m.notSlc (fun top ht => bd_both (by rw [List.length_map] at ht; omega) (by omega) .i64 .i64) (by omega) (by rw [List.length_map]; omega)
          rw [← List.map_take, ← List.map_drop] at p5
          simp -implicitDefEqProofs [RunV.cells, w9, w10, w11, hL6, hL7, d5, d5', d6, p4, d0, d0']
          refine Same_ev (m6.sl) p5 (by rw [atomsOf_len]; omega) (by rw [List.length_drop, List.length_take]; omega) (fun b hb => ?_)
          have : b = true := hb.2 (by
            rw [List.drop_take, show up - k = z.text.length by omega, q2, List.take_append_of_le_length (by rw [atomsOf_len]; exact Nat.le_refl _), List.take_of_length_le (by rw [atomsOf_len]; exact Nat.le_refl _)])
          subst this
          simp -implicitDefEqProofs
        · have hle := q1 _ hpos
          have dA : decide ((A.length : Int) ≤ (nx : Int)) = true := decide_eq_true (by omega)
          have dA' : A.length ≤ nx := by omega
          simp -implicitDefEqProofs [zeroRun, w9, hL3, dA, dA', zr, eqL40, d0, d0']
      · have fin : ∀ K : Int → Prop, K (-1) → K (if kk < 0 then -1 else -1) := fun K h => by split <;> exact h
        by_cases kk0 : kk < 0
        · simp -implicitDefEqProofs [kk0, d0, d0']
          refine sat_ev S3 (fun j2 b2 h5 o5 g1 g2 g3 => by omega) (fun e h5 o5 => ?_)
          have S5 := S3.keep o5
          have W5 := W3.old o5
          have za5 := eqZA (ro := ro) h5
          simp only [zeroAtom] at za5
          simp -implicitDefEqProofs [kk0, zeroAtom, eqB, same_self, za5, eqL82, d0, d0']
          have zr := eqZR (ro := ro) h5
          simp only [zeroRun] at zr
          have hroot : ¬ (ar = 0 ∧ an = 0) := fun c => by
            have := S.noroot
            rw [c.1, c.2] at hix; rw [this] at hix; cases hix
          have hpos : posA A ar an = some (i3 + 1) := by unfold posA; rw [if_neg hroot, hix]; rfl
          obtain ⟨nx, hnx⟩ : ∃ nx, nx = i3 + 1 := ⟨_, rfl⟩
          have w9 : IntKind.i64.wrap ((i3 : Int) + 1) = (nx : Int) := by rw [w64 (by omega) (by omega)]; omega
          have hL3 : lenR (cfgR ro) h5 32 w = .ok (.int .i64 (A.length : Nat)) := by have := (W5.m.sl (c := cfgR ro)).lenR (t := 32) un32; simpa using this
          refine sbehind_ev hro S5 ha (fun k z rest q1 q2 q3 q4 => ?_) (fun q1 => ?_)
          · have hk0 : k = nx := by rw [hpos] at q1; rw [hnx]; exact (Option.some.inj q1).symm
            subst hk0
            have zp := q3.pos
            have hAl : A.length = k + (z.text.length + rest.length) := by
              have := congrArg List.length q2
              rw [List.length_drop, List.length_append, atomsOf_len] at this; omega
            have dA : decide ((A.length : Int) ≤ (k : Int)) = false := decide_eq_false (by omega)
            have dA' : ¬ A.length ≤ k := by omega
            simp -implicitDefEqProofs [RunV.cells, w9, hL3, dA, dA', d0, d0']
            refine atoms15_ev (x := z) q3 (fun v6 h6 o6 m6 => ?_)
            have W6 := W5.old o6
            have hL6 : lenR (cfgR ro) h6 32 w = .ok (.int .i64 (A.length : Nat)) := by have := (W6.m.sl (c := cfgR ro)).lenR (t := 32) un32; simpa using this
            have hL7 : lenR (cfgR ro) h6 32 v6 = .ok (.int .i64 (z.text.length : Nat)) := by have := (m6.sl (c := cfgR ro)).lenR (t := 32) un32; simpa [atomsOf_len] using this
            obtain ⟨df, hdf⟩ : ∃ df, df = A.length - k := ⟨_, rfl⟩
            obtain ⟨up, hup⟩ : ∃ up, up = k + z.text.length := ⟨_, rfl⟩
            have w10 : IntKind.i64.wrap ((A.length : Int) - (k : Int)) = (df : Int) := by rw [w64 (by omega) (by omega)]; omega
            have w11 : IntKind.i64.wrap ((k : Int) + (z.text.length : Int)) = (up : Int) := by rw [w64 (by omega) (by omega)]; omega
            have d5 : decide ((z.text.length : Int) ≤ (df : Int)) = true := decide_eq_true (by omega)
            have d5' : z.text.length ≤ df := by omega
            have d6 : 0 < z.text.length := zp
            obtain ⟨p4, p5, p6⟩ := (W6.m.sl (c := cfgR ro)).cut (lo := some (.int .i64 (k : Int))) (hi := some (.int .i64 (up : Int))) (a := k) (b := up) (by decide) W6.m.notSlc (fun top ht => bd_both (by rw [List.length_map] at ht; omega) (by omega) .i64 .i64) (by omega) (by rw [List.length_map]; omega)
            rw [← List.map_take, ← List.map_drop] at p5
            simp -implicitDefEqProofs [RunV.cells, w9, w10, w11, hL6, hL7, d5, d5', d6, p4, d0, d0']
            refine Same_ev (m6.sl) p5 (by rw [atomsOf_len]; omega) (by rw [List.length_drop, List.length_take]; omega) (fun b hb => ?_)
            have : b = true := hb.2 (by
              rw [List.drop_take, show up - k = z.text.length by omega, q2, List.take_append_of_le_length (by rw [atomsOf_len]; exact Nat.le_refl _), List.take_of_length_le (by rw [atomsOf_len]; exact Nat.le_refl _)])
            subst this
            simp -implicitDefEqProofs
          · have hle := q1 _ hpos
            have dA : decide ((A.length : Int) ≤ (nx : Int)) = true := decide_eq_true (by omega)
            have dA' : A.length ≤ nx := by omega
            simp -implicitDefEqProofs [zeroRun, w9, hL3, dA, dA', zr, eqL40, d0, d0']
        · have dk : decide (kk < 0) = false := decide_eq_false kk0
          simp -implicitDefEqProofs [kk0, dk, d0, d0']
          refine sat_ev S3 (fun j2 b2 h5 o5 g1 g2 g3 => by have := shown_lt g1 g2; omega) (fun e h5 o5 => ?_)
          have S5 := S3.keep o5
          have W5 := W3.old o5
          have za5 := eqZA (ro := ro) h5
          simp only [zeroAtom] at za5
          simp -implicitDefEqProofs [kk0, dk, zeroAtom, eqB, same_self, za5, eqL82, d0, d0']
          have zr := eqZR (ro := ro) h5
          simp only [zeroRun] at zr
          have hroot : ¬ (ar = 0 ∧ an = 0) := fun c => by
            have := S.noroot
            rw [c.1, c.2] at hix; rw [this] at hix; cases hix
          have hpos : posA A ar an = some (i3 + 1) := by unfold posA; rw [if_neg hroot, hix]; rfl
          obtain ⟨nx, hnx⟩ : ∃ nx, nx = i3 + 1 := ⟨_, rfl⟩
          have w9 : IntKind.i64.wrap ((i3 : Int) + 1) = (nx : Int) := by rw [w64 (by omega) (by omega)]; omega
          have hL3 : lenR (cfgR ro) h5 32 w = .ok (.int .i64 (A.length : Nat)) := by have := (W5.m.sl (c := cfgR ro)).lenR (t := 32) un32; simpa using this
          refine sbehind_ev hro S5 ha (fun k z rest q1 q2 q3 q4 => ?_) (fun q1 => ?_)
          · have hk0 : k = nx := by rw [hpos] at q1; rw [hnx]; exact (Option.some.inj q1).symm
            subst hk0
            have zp := q3.pos
            have hAl : A.length = k + (z.text.length + rest.length) := by
              have := congrArg List.length q2
              rw [List.length_drop, List.length_append, atomsOf_len] at this; omega
            have dA : decide ((A.length : Int) ≤ (k : Int)) = false := decide_eq_false (by omega)
            have dA' : ¬ A.length ≤ k := by omega
            simp -implicitDefEqProofs [RunV.cells, w9, hL3, dA, dA', d0, d0']
            refine atoms15_ev (x := z) q3 (fun v6 h6 o6 m6 => ?_)
            have W6 := W5.old o6
            have hL6 : lenR (cfgR ro) h6 32 w = .ok (.int .i64 (A.length : Nat)) := by have := (W6.m.sl (c := cfgR ro)).lenR (t := 32) un32; simpa using this
            have hL7 : lenR (cfgR ro) h6 32 v6 = .ok (.int .i64 (z.text.length : Nat)) := by have := (m6.sl (c := cfgR ro)).lenR (t := 32) un32; simpa [atomsOf_len] using this
            obtain ⟨df, hdf⟩ : ∃ df, df = A.length - k := ⟨_, rfl⟩
            obtain ⟨up, hup⟩ : ∃ up, up = k + z.text.length := ⟨_, rfl⟩
            have w10 : IntKind.i64.wrap ((A.length : Int) - (k : Int)) = (df : Int) := by rw [w64 (by omega) (by omega)]; omega
            have w11 : IntKind.i64.wrap ((k : Int) + (z.text.length : Int)) = (up : Int) := by rw [w64 (by omega) (by omega)]; omega
            have d5 : decide ((z.text.length : Int) ≤ (df : Int)) = true := decide_eq_true (by omega)
            have d5' : z.text.length ≤ df := by omega
            have d6 : 0 < z.text.length := zp
            obtain ⟨p4, p5, p6⟩ := (W6.m.sl (c := cfgR ro)).cut (lo := some (.int .i64 (k : Int))) (hi := some (.int .i64 (up : Int))) (a := k) (b := up) (by decide) W6.m.notSlc (fun top ht => bd_both (by rw [List.length_map] at ht; omega) (by omega) .i64 .i64) (by omega) (by rw [List.length_map]; omega)
            rw [← List.map_take, ← List.map_drop] at p5
            simp -implicitDefEqProofs [RunV.cells, w9, w10, w11, hL6, hL7, d5, d5', d6, p4, d0, d0']
            refine Same_ev (m6.sl) p5 (by rw [atomsOf_len]; omega) (by rw [List.length_drop, List.length_take]; omega) (fun b hb => ?_)
            have : b = true := hb.2 (by
              rw [List.drop_take, show up - k = z.text.length by omega, q2, List.take_append_of_le_length (by rw [atomsOf_len]; exact Nat.le_refl _), List.take_of_length_le (by rw [atomsOf_len]; exact Nat.le_refl _)])
            subst this
            simp -implicitDefEqProofs
          · have hle := q1 _ hpos
            have dA : decide ((A.length : Int) ≤ (nx : Int)) = true := decide_eq_true (by omega)
            have dA' : A.length ≤ nx := by omega
            simp -implicitDefEqProofs [zeroRun, w9, hL3, dA, dA', zr, eqL40, d0, d0']
end
end Go.Proofs.YthblmlkkmebciaaDoor
set_option linter.all false
set_option maxRecDepth 100000
set_option maxHeartbeats 4000000
namespace Go.Proofs.YthblmlkkmebciaaDoor
open Go Go.RowKit Go.Proofs Go.ChangeShapes Go.WideShapes Go.ChangeAt
theorem own : ownKnob Tryd.prog.godebug = none := by kernel_rfl
theorem laidOut : laidOutB Tryd.prog = true := by kernel_rfl
abbrev laidL : List (String × DataW Unit) := [("copyist/ident.root", YthblmlkkmebciaaDoor.Rows.laid_copyist_ident_root)]
theorem laid_plain (W : World) : laidMetH Tryd.prog laidL W = laidMet Tryd.prog laidL W := by unfold laidMetH; rfl
theorem root_of {W : World} (h : laidMetH Tryd.prog laidL W) : roW W 0 = some [.int .u16 0, .int .u32 0] := by
  rw [laid_plain] at h
  obtain ⟨ps, ⟨g, t, cs, fuel, p, q, e1, e2, e3, e4, e5, e6⟩, _, _⟩ := h
  have hg : Tryd.prog.globalNamed "copyist/ident.root" = some 0 := by kernel_rfl
  rw [hg] at e1
  cases e1
  have ht : (Tryd.prog.globals[(0 : Nat)]?).map (·.type) = some 36 := by kernel_rfl
  rw [ht] at e2
  cases e2
  obtain ⟨xs, n, _, hx, hl, hxl, hp⟩ := DataW.trod_struct Tryd.underlying36 e4
  rw [co36] at hl
  obtain ⟨a, b, hab⟩ : ∃ a b, cs.toList = [a, b] := by
    match cs.toList, hl with
    | [a, b], _ => exact ⟨a, b, rfl⟩
  rw [hab] at hp
  have h0 := hp 0 { name := "R", type := 33, offset := 0, embedded := false, tag := "", pkgPath := "", byteOffset := 0 } rfl
  have h1 := hp 1 { name := "N", type := 34, offset := 1, embedded := false, tag := "", pkgPath := "", byteOffset := 4 } rfl
  simp only [co33, co34, List.drop_zero, List.drop_succ_cons, List.take_succ_cons, List.take_zero] at h0 h1
  have hxs : xs.length = 2 := by rw [hxl]; rfl
  have hx0 : xs[0]? = some (xs[0]'(by omega)) := List.getElem?_eq_getElem _
  have hx1 : xs[1]? = some (xs[1]'(by omega)) := List.getElem?_eq_getElem _
  rw [hx0] at h0
  rw [hx1] at h1
  obtain ⟨n0, k0, k1, _⟩ := DataW.trod_int Tryd.underlying33 h0
  obtain ⟨n1, l0, l1, _⟩ := DataW.trod_int Tryd.underlying34 h1
  have hd : xs.map (·.1) = [.lit (.int .u16 0), .lit (.int .u32 0)] := by
    have := congrArg (·.1) hx
    simp only [YthblmlkkmebciaaDoor.Rows.laid_copyist_ident_root, DataW.agg.injEq] at this
    exact this.symm
  have hd0 := congrArg (·[0]?) hd
  have hd1 := congrArg (·[1]?) hd
  simp only [List.getElem?_map, hx0, hx1, k1, l1, Option.map_some, List.getElem?_cons_zero, List.getElem?_cons_succ, Option.some.injEq, DataW.lit.injEq, Lit.int.injEq, true_and] at hd0 hd1
  have ha : a = .int .u16 0 := by have := List.cons.inj k0; rw [this.1, hd0]
  have hb : b = .int .u32 0 := by have := List.cons.inj l0; rw [this.1, hd1]
  unfold World.var? at e3
  rw [hg] at e3
  simp only [Option.bind_some] at e3
  unfold roW
  have hpl : placeW (0 : Nat) = (0, 0) := by
    unfold placeW roBase
    rw [if_pos (by decide)]
  rw [hpl]
  split at e3
  · rename_i c _ _ hh
    cases e3
    simp only [hh, List.drop_zero]
    rw [hab, ha, hb]
    rfl
  · cases e3
noncomputable def w0 (os : Os) : World := World.holding Tryd.prog os ⟨#[], #[], []⟩
theorem w0_met (os : Os) (args : Array Value) : laidMetH Tryd.prog laidL ((w0 os).forCall (fun _ _ => 0) ⟨#[], args, []⟩).memory := by
  rw [laid_plain]
  exact laidMet_of_run (ps := [.cell 0 0, .cell 0 1]) 8 (by kernel_rfl) (by kernel_rfl) (by kernel_rfl)
theorem op_of {ro n} {x : List AVal} (h : Rdg Tryd.prog ro n 42 x) : ∃ o : OpV, x = o.cells ∧ OpR o := by
  obtain ⟨hl, m, hf⟩ := rdg_struct Tryd.underlying42 h
  rw [co42] at hl
  obtain ⟨a, b, c, d, e, f, g, i, j, k, l, rfl⟩ : ∃ a b c d e f g i j k l, x = [a, b, c, d, e, f, g, i, j, k, l] := by
    match x, hl with
    | [a, b, c, d, e, f, g, i, j, k, l], _ => exact ⟨a, b, c, d, e, f, g, i, j, k, l, rfl⟩
  obtain ⟨n0, h0, _⟩ := rdg_int Tryd.underlying3 (hf 0 _ rfl)
  obtain ⟨l1, m1, hf1⟩ := rdg_struct Tryd.underlying36 (hf 1 _ rfl)
  obtain ⟨l2, m2, hf2⟩ := rdg_struct Tryd.underlying40 (hf 2 _ rfl)
  obtain ⟨y, h3⟩ := rdg_bool Tryd.underlying4 (hf 3 _ rfl)
  obtain ⟨n1, h11, a11, b11⟩ := rdg_int Tryd.underlying33 (hf1 0 _ rfl)
  obtain ⟨n2, h12, a12, b12⟩ := rdg_int Tryd.underlying34 (hf1 1 _ rfl)
  obtain ⟨_, m3, hf3⟩ := rdg_struct Tryd.underlying38 (hf2 0 _ rfl)
  obtain ⟨_, m4, hf4⟩ := rdg_struct Tryd.underlying36 (hf2 1 _ rfl)
  obtain ⟨s, h22, hs⟩ := rdg_str Tryd.underlying9 (hf2 2 _ rfl)
  obtain ⟨z, h23⟩ := rdg_bool Tryd.underlying4 (hf2 3 _ rfl)
  obtain ⟨c0, h30, a30, b30⟩ := rdg_int Tryd.underlying26 (hf3 0 _ rfl)
  obtain ⟨c1, h31, a31, b31⟩ := rdg_int Tryd.underlying33 (hf3 1 _ rfl)
  obtain ⟨c2, h32, a32, b32⟩ := rdg_int Tryd.underlying34 (hf3 2 _ rfl)
  obtain ⟨d0, h40, a40, b40⟩ := rdg_int Tryd.underlying33 (hf4 0 _ rfl)
  obtain ⟨d1, h41, a41, b41⟩ := rdg_int Tryd.underlying34 (hf4 1 _ rfl)
  simp at h0 h3 h11 h12 h22 h23 h30 h31 h32 h40 h41
  have u16 : IntKind.u16.min = 0 := by decide
  have u32 : IntKind.u32.min = 0 := by decide
  have u64 : IntKind.u64.min = 0 := by decide
  have v32 : IntKind.u32.max = 4294967295 := by decide
  rw [u16] at a11 a31 a40
  rw [u32] at a12 a32 a41
  rw [u64] at a30
  rw [v32] at b12 b32 b41
  refine ⟨⟨n0, n1.toNat, n2.toNat, ⟨c0.toNat, c1.toNat, c2.toNat, d0.toNat, d1.toNat, s, z⟩, y⟩, ?_, ⟨by simp only []; omega, ⟨by simp only []; omega, by simp only []; omega, hs⟩⟩⟩
  simp only [OpV.cells, Int.toNat_of_nonneg a11, Int.toNat_of_nonneg a12, Int.toNat_of_nonneg a30, Int.toNat_of_nonneg a31, Int.toNat_of_nonneg a32, Int.toNat_of_nonneg a40, Int.toNat_of_nonneg a41]
  simp [h0, h3, h11, h12, h22, h23, h30, h31, h32, h40, h41]
theorem ops_of : ∀ {ess : List (List AVal)}, (∀ x ∈ ess, ∃ o : OpV, x = o.cells ∧ OpR o) → ∃ l : List OpV, ess = l.map OpV.cells ∧ ∀ o ∈ l, OpR o
  | [], _ => ⟨[], rfl, fun o h => (by cases h)⟩
  | x :: ess, h => by
    obtain ⟨e, rfl, he⟩ := h x (by simp)
    obtain ⟨l, rfl, hl⟩ := ops_of (ess := ess) (fun y hy => h y (by simp [hy]))
    exact ⟨e :: l, rfl, fun o ho => (by
      rcases List.mem_cons.1 ho with h1 | h1
      · rw [h1]; exact he
      · exact hl o h1)⟩
end Go.Proofs.YthblmlkkmebciaaDoor
set_option linter.all false
set_option maxRecDepth 100000
set_option maxHeartbeats 4000000
namespace Go.Proofs.YthblmlkkmebciaaDoor
open Go Go.RowKit Go.Proofs Go.ChangeShapes Go.WideShapes Go.ChangeAt
theorem id_of {ro n} {x : List AVal} (h : Rdg Tryd.prog ro n 36 x) : ∃ r m : Nat, x = [.int .u16 r, .int .u32 m] ∧ m < 2 ^ 32 := by
  obtain ⟨hl, m, hf⟩ := rdg_struct Tryd.underlying36 h
  rw [co36] at hl
  obtain ⟨a, b, rfl⟩ : ∃ a b, x = [a, b] := by
    match x, hl with
    | [a, b], _ => exact ⟨a, b, rfl⟩
  obtain ⟨n1, h11, a11, b11⟩ := rdg_int Tryd.underlying33 (hf 0 _ rfl)
  obtain ⟨n2, h12, a12, b12⟩ := rdg_int Tryd.underlying34 (hf 1 _ rfl)
  simp at h11 h12
  have u16 : IntKind.u16.min = 0 := by decide
  have u32 : IntKind.u32.min = 0 := by decide
  have v32 : IntKind.u32.max = 4294967295 := by decide
  rw [u16] at a11
  rw [u32] at a12
  rw [v32] at b12
  exact ⟨n1.toNat, n2.toNat, by rw [Int.toNat_of_nonneg a11, Int.toNat_of_nonneg a12, h11, h12], by omega⟩

theorem storeAsks_lifted (os : Os) (started : os.Started) (H : Type) (enc : TypeId × Value → H) :
    ReturnsInHanded {} Tryd.checked os 8 .any (fun w args => (YthblmlkkmebciaaDoor.Rows.storeAsksSpec.pre enc Tryd.prog Tryd.f8 [] false w args ∧ laidMetH Tryd.prog laidL w) ∧ sizedMet enc Tryd.prog Tryd.f8 (OpenSpec.ofChange YthblmlkkmebciaaDoor.Rows.storeAsksSpec) false w args) (YthblmlkkmebciaaDoor.Rows.storeAsksSpec.post enc Tryd.prog Tryd.f8 false true false false) := by
  refine returnsInHanded_of_change_and (C := Tryd.checked) (X := fun w _ => laidMetH Tryd.prog laidL w) (fun _ _ _ hh h => h.of_heap hh) own started (by kernel_rfl) Tryd.func8
    (ChangeSpec.witness_at (enc := enc) (C := Tryd.checked) (os := os) (X := fun w _ => laidMetH Tryd.prog laidL w) false (w0 os) #[.slice none 0 0, .agg #[.int .u16 0, .int .u32 0], .int .i64 0] 8 rfl (by kernel_rfl) (by kernel_rfl) (by kernel_rfl) (by kernel_rfl) (by kernel_rfl) (w0_met os _)) ?_
  intro W base args ds gs before hval0 hW hcnd hsz hL _
  have hval : ∀ (j : Nat) t v, Tryd.f8.params[j]? = some t → args[j]? = some v → Value.okWide Tryd.prog W .any base t v := hval0
  have hW' := hW
  have hlt := hW.lt
  obtain ⟨p, q, hA0, hV, rfl, hfz, hnd⟩ := hW
  have hA : DataW.TrodAll enc Tryd.prog W 0 (fun _ => true) true Tryd.f8.params.toList args.toList ds p := hA0
  have hA1 := hA
  rw [Tryd.params8] at hA hval
  obtain ⟨v0, v1, v2, d0, d1, d2, p0, p1, p2, rfl, rfl, rfl, h0, h1, h2⟩ := trodAll_three hA
  obtain ⟨rfl, rfl⟩ := trodVars_none hV
  have hro := root_of hL
  obtain ⟨ess, n, hx, hn, hsl⟩ := argSlice covAll (of_decide_eq_true (by kernel_rfl)) Tryd.underlying22 (by rw [co42]; decide) (hval 0 22 v0 rfl rfl) h0
  obtain ⟨l, rfl, hr⟩ := ops_of (fun x hm => op_of (hx x hm).2)
  have hS : Sl (cfgR (roW W)) heap0 11 (absV v0) (l.map OpV.cells) := by
    have := hsl (cfgR (roW W)) heap0 rfl
    rw [co42] at this
    exact this
  obtain ⟨cs, n1, e1, hrd⟩ := argAgg covAll (of_decide_eq_true (by kernel_rfl)) Tryd.underlying36 (hval 1 36 v1 rfl rfl) h1
  obtain ⟨ar, an, rfl, han⟩ := id_of hrd
  obtain ⟨kk, e2, hk1, hk2⟩ := argInt Tryd.underlying3 (hval 2 3 v2 rfl rfl)
  obtain ⟨k, v, h', hq, rfl⟩ := StoreAsks_ev hro han ⟨hk1, by have : IntKind.i64.max = 9223372036854775807 := (by decide); rw [this] at hk2; omega⟩ hS (by simpa using hn) hr
  refine (entry (c := cfg) sureC (W := W) (args := #[v0, v1, v2]) (k := k) (v := .bool true) (h' := h') Tryd.func8 rfl rfl (by rw [show (#[v0, v1, v2] : Array Value).toList.map absV = [absV v0, absV v1, absV v2] from rfl, e1, e2]; exact hq)).mono fun e W' ⟨u, ι, he, hv, hb⟩ => ?_
  have hu : u = .bool true := hv
  subst hu
  refine ⟨_, he, post_below hW' (fun b sp hd => trodAll_mk1 (shut_bool Tryd.underlying4 true)) (trodAll_below laidOut hb (by kernel_rfl) hA1 (fun x hx => hlt x (by simpa using hx))) (by exact rfl) hb⟩
theorem storeAsks_said : YthblmlkkmebciaaDoor.Rows.StoreAsksSaid :=
  OpenClaim.holds_of_wide 8 Tryd.f8 rfl rfl rfl rfl rfl rfl rfl ⟨rfl, rfl, rfl, rfl, rfl⟩ rfl rfl rfl rfl rfl (by kernel_rfl) Tryd.func8 (by kernel_rfl)
    (of_decide_eq_true (by kernel_rfl)) (by unfold Func.isWrapper; first | (rw [if_pos (by decide +kernel)]; kernel_rfl) | (rw [if_neg (by decide +kernel)]; exact ⟨rfl, rfl⟩))
    (fun os started H enc _ => storeAsks_lifted os started H enc)
theorem storeAsks_holds : YthblmlkkmebciaaDoor.Rows.StoreAsksCardSaid :=
  Claim7.holds_tied_plain_at .later [] [.data] true (true, "83f94d69712dfd6e68caaf37ce9d9b9959291105dd6f8a28de6672e500c755ab") false
    storeAsks_said (fun _ h => by cases h) (by kernel_rfl) (fun _ h => by cases h) YthblmlkkmebciaaDoor.storeAsks_row_tie rfl ⟨rfl, rfl⟩ (by kernel_rfl) rfl
    (fun f fn hf hfn => by
      obtain rfl : f = 8 := Option.some.inj ((show Tryd.prog.funcNamed "copyist/copyistlaw16.StoreAsks" = some 8 by kernel_rfl).symm.trans hf) |>.symm
      obtain rfl : fn = Tryd.f8 := (Option.some.inj (Tryd.func8.symm.trans hfn)).symm
      exact ⟨by kernel_rfl, fun j t ht => by
        rw [Tryd.params8] at ht
        rcases j with _ | _ | _ | j
        · obtain rfl : 22 = t := by simpa using ht
          exact (show Tryd.prog.wantsStandIn 22 = false by kernel_rfl)
        · obtain rfl : 36 = t := by simpa using ht
          exact (show Tryd.prog.wantsStandIn 36 = false by kernel_rfl)
        · obtain rfl : 3 = t := by simpa using ht
          exact (show Tryd.prog.wantsStandIn 3 = false by kernel_rfl)
        · simp at ht⟩)
    (by kernel_rfl)
end Go.Proofs.YthblmlkkmebciaaDoor
