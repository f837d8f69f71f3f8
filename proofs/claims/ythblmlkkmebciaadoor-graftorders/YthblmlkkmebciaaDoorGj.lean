/-
  A part of the proof of GraftOrders, over the seat YthblmlkkmebciaaDoor: for every input the law returns true, and the input reads as it did.
-/
import Derived.Test.YthblmlkkmebciaaDoorGi
import Derived.Test.YthblmlkkmebciaaDoorRows
import Derived.Test.YthblmlkkmebciaaDoorCards
import Derived.Test.YthblmlkkmebciaaDoorTie
import Derived.ProofKit
import Derived.Handed
import Derived.LaidLaws
import Derived.MakeChecks
import Derived.SevenTiedAt
set_option linter.all false
set_option linter.all false
set_option maxRecDepth 100000
set_option maxHeartbeats 4000000
namespace Go.Proofs.YthblmlkkmebciaaDoor
open Go Go.RowKit Go.Proofs
section
variable {ro : Nat → Option (List AVal)}
theorem GraftWhere_ev (hro : ro 0 = some [.int .u16 0, .int .u32 0]) {h : AHeap} {v : AVal} {l : List O17} {o : O17} (hs : Sl (cfgR ro) h 9 v (l.map O17.cells)) (hl : l.length < 2 ^ 63) (hr : ∀ o ∈ l, R17 o) (ho : R17 o) : Ev (cfgR ro) 5 [v, .agg o.cells] h (fun x _ => x = .bool true) := by
  refine Ev.wp rfl rfl Tryd.func5 rfl ?_
  simp -implicitDefEqProofs [Tryd.f5, O17.cells]
  refine anchor17_ev hro (fun h1 o1 => ?_)
  simp -implicitDefEqProofs
  refine small17_ev (hs.old o1) hl hr (fun hsz h80 => ?_) (by simp -implicitDefEqProofs)
  by_cases c100 : 100 < o.x.text.length
  · have d1 : decide ((100 : Int) < (o.x.text.length : Int)) = true := decide_eq_true (by omega)
    simp -implicitDefEqProofs [c100, d1]
  have d1 : decide ((100 : Int) < (o.x.text.length : Int)) = false := decide_eq_false (by omega)
  simp -implicitDefEqProofs [c100, d1]
  refine grown_ev hro (hs.old o1) hsz h80 hr (fun h2 s O A T ds w d o2 S hO G St_ eAT hT hd hdr Ww Wd => ?_)
  have hxn := ho.x.n
  have hxe := ho.x.en
  have hxl := S.len
  simp -implicitDefEqProofs [O17.cells, same_self]
  -- none is anchored there
  have none_of : (∀ t ∈ T, t.id ≠ o.an) → o.an ≠ (0, 0) → atIx A o.an.1 o.an.2 = none := fun hn hne => atIx_no (fun j b hj hh => by
    obtain ⟨t, ht, e⟩ := (G.mem b).1 (List.mem_of_getElem? hj)
    exact hn t ht (by unfold TV.id AtV.id; rw [e, hh.1, hh.2]))
  by_cases cbad : o.an ≠ (0, 0) ∧ ∀ t ∈ T, t.id ≠ o.an
  · have hnone := none_of cbad.2 cbad.1
    have hrt : ¬ (o.an.1 = 0 ∧ o.an.2 = 0) := fun c => cbad.1 (Prod.ext c.1 c.2)
    refine where_ev hro (x := o.an) (k := (o.x.clock, o.x.r, o.x.n)) S ho.an (fun _ _ => ?_) (fun p H R y h3 o3 e1 e2 e3 e4 e5 e6 => ?_)
    · simp -implicitDefEqProofs [O17.cells, same_self, idA]
      refine idRoot_ev hro ?_
      rw [decide_eq_false hrt]
      simp -implicitDefEqProofs [O17.cells, same_self, idA]
      refine find17_ev (x := o.an) Ww.m.sl (by omega) ?_
      rw [fixT_none.2 cbad.2]
      simp -implicitDefEqProofs [O17.cells, same_self, idA, ixI]
      refine idRoot_ev hro (r := 0) (n := 0) ?_
      simp -implicitDefEqProofs [O17.cells, same_self, idA, ixI]
      refine rRight_ev (x := o.x) (by omega) hxn hxe (fun h4 b o4 hb => ?_)
      cases b with
      | false => simp -implicitDefEqProofs [same_self]
      | true =>
        simp -implicitDefEqProofs [same_self]
        refine gput_bad_ev hro (x := o.an) (r := o.x) (S.keep o4) ho.an (by omega) hxn hxe cbad.1 hnone (fun h5 o5 => ?_)
        rw [if_pos (hb.1 rfl)]
        simp -implicitDefEqProofs [same_self]
    · exfalso
      unfold posA at e1
      rw [if_neg hrt, hnone] at e1; cases e1
  · have hgood : o.an = (0, 0) ∨ ∃ t ∈ T, t.id = o.an := by
      by_cases c1 : o.an = (0, 0)
      · exact .inl c1
      · right
        apply Classical.byContradiction
        intro c2
        exact cbad ⟨c1, fun t ht e => c2 ⟨t, ht, e⟩⟩
    refine where_ev hro (x := o.an) (k := (o.x.clock, o.x.r, o.x.n)) S ho.an (fun h3 h4 => ?_) (fun p H R y h3 o3 e1 e2 e3 e4 e5 e6 => ?_)
    · exfalso
      rcases hgood with e | ⟨t, ht, e⟩
      · exact h3 e
      · obtain ⟨j, hj⟩ := List.mem_iff_getElem?.1 ((G.mem t.a).2 ⟨t, ht, rfl⟩)
        have := atIx_at' G.nd hj
        have e5 : t.a.r = o.an.1 ∧ t.a.n = o.an.2 := by rw [← e]; exact ⟨rfl, rfl⟩
        rw [e5.1, e5.2, h4] at this; cases this
    · have Ww3 := Ww.old o3
      simp -implicitDefEqProofs [O17.cells, same_self, idA]
      refine idRoot_ev hro ?_
      -- what both ways have in common
      have rest : ∀ K : AVal → AHeap → Prop, (∀ i : Nat, K (.int .i64 (i : Nat)) h3) → o.an ≠ (0, 0) → Ev (cfgR ro) 21 [w, idA o.an.1 o.an.2] h3 K := by
        intro K hK hne
        refine find17_ev (x := o.an) Ww3.m.sl (by omega) ?_
        obtain ⟨t, ht, e⟩ := hgood.resolve_left hne
        cases hf : fixT T o.an with
        | none => exact (fixT_none.1 hf t ht e).elim
        | some i => exact hK i
      simp only [idA] at rest
      have eqB : ∀ (h : AHeap) (a b : Bool), eqFlat Tryd.prog h .bool (.bool a) (.bool b) = .ok (a == b) := fun _ _ _ => rfl
      by_cases crt : o.an = (0, 0)
      · have hrt : o.an.1 = 0 ∧ o.an.2 = 0 := by rw [crt]; exact ⟨rfl, rfl⟩
        rw [decide_eq_true hrt]
        simp -implicitDefEqProofs [O17.cells, same_self, idA]
        refine anchored17_ev (x := o.an) (k := o.x.key) Ww3.m.sl (by omega) G.tree.names (fun b hb => ?_)
        cases b with
        | false => simp -implicitDefEqProofs [same_self]
        | true =>
          simp -implicitDefEqProofs [same_self, O17.cells]
          refine free17_ev (x := o.x) Ww3.m.sl (by omega) (by omega) hxn hxe (fun b3 h4 o4 hb3 => ?_)
          cases b3 with
          | false => simp -implicitDefEqProofs [same_self]
          | true =>
            obtain ⟨f1, f2, f3⟩ := hb3.1 rfl
            have hok : okS T o := ⟨f1, f2, hb.1 rfl, f3⟩
            have G' := G.put hok e1 e2 e3 e4
            have hrl := f1.len
            simp -implicitDefEqProofs [same_self, O17.cells]
            refine ref17_ev (x := o.x) ?_
            simp -implicitDefEqProofs [same_self, O17.cells, RunV.cells]
            refine put17_ev (y := o.an) (x := o.x) (Ww3.old o4).m.sl (by omega) f1 (fun w5 h5 o5 m5 => ?_)
            obtain ⟨ks, hk, hor⟩ := G'.ord
            obtain ⟨A', hA'⟩ : ∃ A', A' = A.take p ++ (H ++ (atomsOf o.x ++ R)) := ⟨_, rfl⟩
            rw [← hA'] at hor
            have hpl : p ≤ A.length := by
              rcases posA_iff (x := o.an) e1 with ⟨_, e⟩ | ⟨i, a, e, _, e'⟩
              · omega
              · have := (List.getElem?_eq_some_iff.1 e).1; omega
            have hAl : A'.length = A.length + o.x.text.length := by
              have e8 := congrArg List.length e2
              rw [List.length_drop, List.length_append] at e8
              rw [hA']
              simp only [List.length_append, List.length_take, atomsOf_len]; omega
            have hTl : (grT T o).length = T.length + o.x.text.length := by
              have e7 : (tvs o.an (atomsOf o.x)).length = (atomsOf o.x).length := by have := congrArg List.length (tvs_atoms (atomsOf o.x) o.an); simpa using this
              unfold grT
              rw [List.length_append, e7, atomsOf_len]
            simp -implicitDefEqProofs [same_self, O17.cells]
            refine order_ev (grT T o) (by omega) A'.length A' (0, 0) ks (Nat.le_refl _) (by omega) hk hor m5.sl (fun w6 h6 o6 m6 => ?_)
            have ht6 := m6.sl (c := cfgR ro)
            have hL6 : lenR (cfgR ro) h6 32 w6 = .ok (.int .i64 (A'.length : Nat)) := by have := ht6.lenR (t := 32) un32; simpa using this
            obtain ⟨P, hP⟩ : ∃ P, P = p + H.length := ⟨_, rfl⟩
            have hHl : P ≤ A.length := by
              have e8 := congrArg List.length e2
              rw [List.length_drop, List.length_append] at e8; omega
            -- what stands ahead
            have hahead : ∀ j, j < P → A'[j]? = A[j]? := fun j hj => by
              have eA : A = A.take p ++ (H ++ R) := by rw [← e2, List.take_append_drop]
              have t1 : A' = (A.take p ++ H) ++ (atomsOf o.x ++ R) := by rw [hA']; simp
              have t2 : A = (A.take p ++ H) ++ R := by rw [List.append_assoc]; exact eA
              have hl : (A.take p ++ H).length = P := by rw [List.length_append, List.length_take]; omega
              rw [t1, List.getElem?_append_left (by omega)]
              conv => rhs; rw [t2, List.getElem?_append_left (by omega)]
            have hfirst : ∃ b, A'[P]? = some (o.x.atom 0 b) := by
              have hl : (A.take p ++ H).length = P := by rw [List.length_append, List.length_take]; omega
              have t1 : A' = (A.take p ++ H) ++ (atomsOf o.x ++ R) := by rw [hA']; simp
              have hp0 := f1.pos
              refine ⟨o.x.text[0]'(by omega), ?_⟩
              rw [t1, List.getElem?_append_right (by omega), hl, Nat.sub_self, List.getElem?_append_left (by rw [atomsOf_len]; omega), atomsOf_get, List.getElem?_eq_getElem (by omega)]
              rfl
            have hkey : ∀ j a, j < P → A[j]? = some a → ¬ (a.clock = o.x.clock ∧ a.r = o.x.r ∧ a.n = o.x.n) := fun j a hj ha hh => by
              obtain ⟨t, ht, e⟩ := (G.mem a).1 (List.mem_of_getElem? ha)
              have hp0 := f1.pos
              obtain ⟨b, hb1, hb2, hb3'⟩ := has_atom (x := o.x) (r := o.x.r) (n := o.x.n) ⟨rfl, Nat.le_refl _, by omega⟩
              refine f3 b (List.mem_of_getElem? hb1) t ht ?_
              unfold TV.id AtV.id
              rw [e, hh.2.1, hh.2.2, hb2, hb3']
            have hPA : P < A'.length := by have := f1.pos; omega
            have hyP : posA A y.1 y.2 = some P := by rw [e5, hP]
            simp -implicitDefEqProofs [same_self, hL6]
            obtain ⟨I, hI⟩ : ∃ I : Nat → List AVal → AHeap → Prop, I = fun m env h' => h' = h6 ∧ ∃ i : Nat, i + m = A'.length ∧ i ≤ P ∧
              env = (.dead :: .dead :: .dead :: .dead :: .dead :: .dead :: .dead :: .dead :: .dead :: .dead :: .cell [.int .u64 o.x.clock, .int .u16 o.x.r, .int .u32 o.x.n] :: .cell [.int .u16 y.1, .int .u32 y.2] :: .int .i64 0 :: w6 :: .dead :: .dead :: .dead :: .dead :: .dead :: .dead :: .dead :: .dead :: .dead :: .dead :: .dead :: .dead :: .dead :: .dead :: .dead :: .dead :: .dead :: .dead :: .dead :: .dead :: .dead :: .dead :: .dead :: .dead :: .dead :: .dead :: .dead :: .dead :: .dead :: .dead :: .dead :: .dead :: .dead :: .dead :: .dead :: .dead :: .dead :: .dead :: .dead :: .dead :: .dead :: .dead :: .dead :: .dead :: .dead :: .dead :: .dead :: .dead :: .dead :: .dead :: .dead :: .dead :: .dead :: .dead :: .dead :: .dead :: .dead :: .dead :: .dead :: .dead :: .dead :: .dead :: .dead :: .dead :: .dead :: .dead :: .dead :: .dead :: .dead :: .dead :: .dead :: .dead :: .dead :: .dead :: .dead :: .dead :: .dead :: .dead :: .dead :: .dead :: .dead :: .dead :: .dead :: .dead :: .dead :: .dead :: .dead :: .dead :: .dead :: w6 :: .int .i64 (A'.length : Nat) :: .int .i64 (i : Nat) :: .dead :: .dead :: .dead :: .dead :: .dead :: .dead :: .dead :: .dead :: .dead :: .dead :: .dead :: .dead :: .dead :: .dead :: .dead :: .dead :: .dead :: .dead :: .dead :: .dead :: .dead :: .dead :: .dead :: .dead :: .dead :: .dead :: .dead :: .dead :: .dead :: []) := ⟨_, rfl⟩
            refine loop_of I ?_ A'.length (by rw [hI]; exact ⟨rfl, 0, by omega, Nat.zero_le _, rfl⟩)
            intro m env h' hi
            rw [hI] at hi
            obtain ⟨rfl, i, him, hiP, rfl⟩ := hi
            have hlt : i < A'.length := by omega
            have w1 : IntKind.i64.wrap ((i : Int) + 1) = ((i + 1 : Nat) : Int) := by rw [w64 (by omega) (by omega)]; omega
            by_cases ciP : i = P
            · subst ciP
              obtain ⟨b, hb1⟩ := hfirst
              have E := El.of ht6 hb1
              have El_ := E.l
              have ek := eqK57 (ro := ro) h' o.x.clock o.x.r o.x.n o.x.clock o.x.r o.x.n
              rw [decide_eq_true ⟨rfl, rfl, rfl⟩] at ek
              have eat : (o.x.atom 0 b).clock = o.x.clock ∧ (o.x.atom 0 b).r = o.x.r ∧ (o.x.atom 0 b).n = o.x.n := ⟨rfl, rfl, rfl⟩
              rw [eat.1, eat.2.1, eat.2.2] at El_
              by_cases c0 : i = 0
              · have hy0 : y = (0, 0) := by
                  rcases posA_iff (x := y) hyP with ⟨e, _⟩ | ⟨j, a, _, _, e⟩
                  · exact e
                  · omega
                have hy1 : y.1 = 0 ∧ y.2 = 0 := by rw [hy0]; exact ⟨rfl, rfl⟩
                have di : decide (i = 0) = true := decide_eq_true c0
                simp -implicitDefEqProofs [hlt, E.x, El_, ek, eqL57, same_self, di]
                refine idRoot_ev hro (r := y.1) (n := y.2) ?_
                rw [decide_eq_true hy1]
                simp -implicitDefEqProofs [same_self]
              · rcases posA_iff (x := y) hyP with ⟨_, e⟩ | ⟨j, a, ha, hid, e⟩
                · exact (c0 e).elim
                · have w2 : IntKind.i64.wrap ((i : Int) - 1) = (j : Int) := by rw [w64 (by omega) (by omega)]; omega
                  have di : decide (i = 0) = false := decide_eq_false c0
                  have ha' : A'[j]? = some a := by rw [hahead j (by omega)]; exact ha
                  have E2 := El.of ht6 ha'
                  have E2l := E2.l
                  have eid := eqI56 (ro := ro) h' y.1 y.2 a.r a.n
                  have hh : y.1 = a.r ∧ y.2 = a.n := by rw [← hid]; exact ⟨rfl, rfl⟩
                  rw [decide_eq_true hh] at eid
                  simp -implicitDefEqProofs [hlt, E.x, El_, ek, eqL57, same_self, di, w2, E2.x, E2l]
                  refine id17_ev (a := a) ?_
                  simp -implicitDefEqProofs [same_self, idA, eid, eqL56, w2, E2.x, E2l]
            · obtain ⟨a, ha⟩ : ∃ a, A[i]? = some a := ⟨_, List.getElem?_eq_getElem (by omega)⟩
              have ha' : A'[i]? = some a := by rw [hahead i (by omega)]; exact ha
              have E := El.of ht6 ha'
              have El_ := E.l
              have ek := eqK57 (ro := ro) h' a.clock a.r a.n o.x.clock o.x.r o.x.n
              rw [decide_eq_false (hkey i a (by omega) ha)] at ek
              simp -implicitDefEqProofs [hlt, E.x, El_, ek, eqL57, same_self, w1]
              exact .mk (m := m - 1) (by omega) (by rw [hI]; exact ⟨rfl, i + 1, by omega, by omega, by simp⟩)
      · have hrt : ¬ (o.an.1 = 0 ∧ o.an.2 = 0) := fun c => crt (Prod.ext c.1 c.2)
        rw [decide_eq_false hrt]
        simp -implicitDefEqProofs [O17.cells, same_self, idA]
        refine rest _ (fun i => ?_) crt
        have di : decide ((i : Int) < 0) = false := decide_eq_false (by omega)
        simp -implicitDefEqProofs [O17.cells, same_self, idA, di]
        refine anchored17_ev (x := o.an) (k := o.x.key) Ww3.m.sl (by omega) G.tree.names (fun b hb => ?_)
        cases b with
        | false => simp -implicitDefEqProofs [same_self]
        | true =>
          simp -implicitDefEqProofs [same_self, O17.cells]
          refine free17_ev (x := o.x) Ww3.m.sl (by omega) (by omega) hxn hxe (fun b3 h4 o4 hb3 => ?_)
          cases b3 with
          | false => simp -implicitDefEqProofs [same_self]
          | true =>
            obtain ⟨f1, f2, f3⟩ := hb3.1 rfl
            have hok : okS T o := ⟨f1, f2, hb.1 rfl, f3⟩
            have G' := G.put hok e1 e2 e3 e4
            have hrl := f1.len
            simp -implicitDefEqProofs [same_self, O17.cells]
            refine ref17_ev (x := o.x) ?_
            simp -implicitDefEqProofs [same_self, O17.cells, RunV.cells]
            refine put17_ev (y := o.an) (x := o.x) (Ww3.old o4).m.sl (by omega) f1 (fun w5 h5 o5 m5 => ?_)
            obtain ⟨ks, hk, hor⟩ := G'.ord
            obtain ⟨A', hA'⟩ : ∃ A', A' = A.take p ++ (H ++ (atomsOf o.x ++ R)) := ⟨_, rfl⟩
            rw [← hA'] at hor
            have hpl : p ≤ A.length := by
              rcases posA_iff (x := o.an) e1 with ⟨_, e⟩ | ⟨i, a, e, _, e'⟩
              · omega
              · have := (List.getElem?_eq_some_iff.1 e).1; omega
            have hAl : A'.length = A.length + o.x.text.length := by
              have e8 := congrArg List.length e2
              rw [List.length_drop, List.length_append] at e8
              rw [hA']
              simp only [List.length_append, List.length_take, atomsOf_len]; omega
            have hTl : (grT T o).length = T.length + o.x.text.length := by
              have e7 : (tvs o.an (atomsOf o.x)).length = (atomsOf o.x).length := by have := congrArg List.length (tvs_atoms (atomsOf o.x) o.an); simpa using this
              unfold grT
              rw [List.length_append, e7, atomsOf_len]
            simp -implicitDefEqProofs [same_self, O17.cells]
            refine order_ev (grT T o) (by omega) A'.length A' (0, 0) ks (Nat.le_refl _) (by omega) hk hor m5.sl (fun w6 h6 o6 m6 => ?_)
            have ht6 := m6.sl (c := cfgR ro)
            have hL6 : lenR (cfgR ro) h6 32 w6 = .ok (.int .i64 (A'.length : Nat)) := by have := ht6.lenR (t := 32) un32; simpa using this
            obtain ⟨P, hP⟩ : ∃ P, P = p + H.length := ⟨_, rfl⟩
            have hHl : P ≤ A.length := by
              have e8 := congrArg List.length e2
              rw [List.length_drop, List.length_append] at e8; omega
            -- what stands ahead
            have hahead : ∀ j, j < P → A'[j]? = A[j]? := fun j hj => by
              have eA : A = A.take p ++ (H ++ R) := by rw [← e2, List.take_append_drop]
              have t1 : A' = (A.take p ++ H) ++ (atomsOf o.x ++ R) := by rw [hA']; simp
              have t2 : A = (A.take p ++ H) ++ R := by rw [List.append_assoc]; exact eA
              have hl : (A.take p ++ H).length = P := by rw [List.length_append, List.length_take]; omega
              rw [t1, List.getElem?_append_left (by omega)]
              conv => rhs; rw [t2, List.getElem?_append_left (by omega)]
            have hfirst : ∃ b, A'[P]? = some (o.x.atom 0 b) := by
              have hl : (A.take p ++ H).length = P := by rw [List.length_append, List.length_take]; omega
              have t1 : A' = (A.take p ++ H) ++ (atomsOf o.x ++ R) := by rw [hA']; simp
              have hp0 := f1.pos
              refine ⟨o.x.text[0]'(by omega), ?_⟩
              rw [t1, List.getElem?_append_right (by omega), hl, Nat.sub_self, List.getElem?_append_left (by rw [atomsOf_len]; omega), atomsOf_get, List.getElem?_eq_getElem (by omega)]
              rfl
            have hkey : ∀ j a, j < P → A[j]? = some a → ¬ (a.clock = o.x.clock ∧ a.r = o.x.r ∧ a.n = o.x.n) := fun j a hj ha hh => by
              obtain ⟨t, ht, e⟩ := (G.mem a).1 (List.mem_of_getElem? ha)
              have hp0 := f1.pos
              obtain ⟨b, hb1, hb2, hb3'⟩ := has_atom (x := o.x) (r := o.x.r) (n := o.x.n) ⟨rfl, Nat.le_refl _, by omega⟩
              refine f3 b (List.mem_of_getElem? hb1) t ht ?_
              unfold TV.id AtV.id
              rw [e, hh.2.1, hh.2.2, hb2, hb3']
            have hPA : P < A'.length := by have := f1.pos; omega
            have hyP : posA A y.1 y.2 = some P := by rw [e5, hP]
            simp -implicitDefEqProofs [same_self, hL6]
            obtain ⟨I, hI⟩ : ∃ I : Nat → List AVal → AHeap → Prop, I = fun m env h' => h' = h6 ∧ ∃ i : Nat, i + m = A'.length ∧ i ≤ P ∧
              env = (.dead :: .dead :: .dead :: .dead :: .dead :: .dead :: .dead :: .dead :: .dead :: .dead :: .cell [.int .u64 o.x.clock, .int .u16 o.x.r, .int .u32 o.x.n] :: .cell [.int .u16 y.1, .int .u32 y.2] :: .int .i64 0 :: w6 :: .dead :: .dead :: .dead :: .dead :: .dead :: .dead :: .dead :: .dead :: .dead :: .dead :: .dead :: .dead :: .dead :: .dead :: .dead :: .dead :: .dead :: .dead :: .dead :: .dead :: .dead :: .dead :: .dead :: .dead :: .dead :: .dead :: .dead :: .dead :: .dead :: .dead :: .dead :: .dead :: .dead :: .dead :: .dead :: .dead :: .dead :: .dead :: .dead :: .dead :: .dead :: .dead :: .dead :: .dead :: .dead :: .dead :: .dead :: .dead :: .dead :: .dead :: .dead :: .dead :: .dead :: .dead :: .dead :: .dead :: .dead :: .dead :: .dead :: .dead :: .dead :: .dead :: .dead :: .dead :: .dead :: .dead :: .dead :: .dead :: .dead :: .dead :: .dead :: .dead :: .dead :: .dead :: .dead :: .dead :: .dead :: .dead :: .dead :: .dead :: .dead :: .dead :: .dead :: .dead :: .dead :: .dead :: .dead :: .dead :: .dead :: w6 :: .int .i64 (A'.length : Nat) :: .int .i64 (i : Nat) :: .dead :: .dead :: .dead :: .dead :: .dead :: .dead :: .dead :: .dead :: .dead :: .dead :: .dead :: .dead :: .dead :: .dead :: .dead :: .dead :: .dead :: .dead :: .dead :: .dead :: .dead :: .dead :: .dead :: .dead :: .dead :: .dead :: .dead :: .dead :: .dead :: []) := ⟨_, rfl⟩
            refine loop_of I ?_ A'.length (by rw [hI]; exact ⟨rfl, 0, by omega, Nat.zero_le _, rfl⟩)
            intro m env h' hi
            rw [hI] at hi
            obtain ⟨rfl, i, him, hiP, rfl⟩ := hi
            have hlt : i < A'.length := by omega
            have w1 : IntKind.i64.wrap ((i : Int) + 1) = ((i + 1 : Nat) : Int) := by rw [w64 (by omega) (by omega)]; omega
            by_cases ciP : i = P
            · subst ciP
              obtain ⟨b, hb1⟩ := hfirst
              have E := El.of ht6 hb1
              have El_ := E.l
              have ek := eqK57 (ro := ro) h' o.x.clock o.x.r o.x.n o.x.clock o.x.r o.x.n
              rw [decide_eq_true ⟨rfl, rfl, rfl⟩] at ek
              have eat : (o.x.atom 0 b).clock = o.x.clock ∧ (o.x.atom 0 b).r = o.x.r ∧ (o.x.atom 0 b).n = o.x.n := ⟨rfl, rfl, rfl⟩
              rw [eat.1, eat.2.1, eat.2.2] at El_
              by_cases c0 : i = 0
              · have hy0 : y = (0, 0) := by
                  rcases posA_iff (x := y) hyP with ⟨e, _⟩ | ⟨j, a, _, _, e⟩
                  · exact e
                  · omega
                have hy1 : y.1 = 0 ∧ y.2 = 0 := by rw [hy0]; exact ⟨rfl, rfl⟩
                have di : decide (i = 0) = true := decide_eq_true c0
                simp -implicitDefEqProofs [hlt, E.x, El_, ek, eqL57, same_self, di]
                refine idRoot_ev hro (r := y.1) (n := y.2) ?_
                rw [decide_eq_true hy1]
                simp -implicitDefEqProofs [same_self]
              · rcases posA_iff (x := y) hyP with ⟨_, e⟩ | ⟨j, a, ha, hid, e⟩
                · exact (c0 e).elim
                · have w2 : IntKind.i64.wrap ((i : Int) - 1) = (j : Int) := by rw [w64 (by omega) (by omega)]; omega
                  have di : decide (i = 0) = false := decide_eq_false c0
                  have ha' : A'[j]? = some a := by rw [hahead j (by omega)]; exact ha
                  have E2 := El.of ht6 ha'
                  have E2l := E2.l
                  have eid := eqI56 (ro := ro) h' y.1 y.2 a.r a.n
                  have hh : y.1 = a.r ∧ y.2 = a.n := by rw [← hid]; exact ⟨rfl, rfl⟩
                  rw [decide_eq_true hh] at eid
                  simp -implicitDefEqProofs [hlt, E.x, El_, ek, eqL57, same_self, di, w2, E2.x, E2l]
                  refine id17_ev (a := a) ?_
                  simp -implicitDefEqProofs [same_self, idA, eid, eqL56, w2, E2.x, E2l]
            · obtain ⟨a, ha⟩ : ∃ a, A[i]? = some a := ⟨_, List.getElem?_eq_getElem (by omega)⟩
              have ha' : A'[i]? = some a := by rw [hahead i (by omega)]; exact ha
              have E := El.of ht6 ha'
              have El_ := E.l
              have ek := eqK57 (ro := ro) h' a.clock a.r a.n o.x.clock o.x.r o.x.n
              rw [decide_eq_false (hkey i a (by omega) ha)] at ek
              simp -implicitDefEqProofs [hlt, E.x, El_, ek, eqL57, same_self, w1]
              exact .mk (m := m - 1) (by omega) (by rw [hI]; exact ⟨rfl, i + 1, by omega, by omega, by simp⟩)
end
end Go.Proofs.YthblmlkkmebciaaDoor
set_option linter.all false
set_option maxRecDepth 100000
set_option maxHeartbeats 4000000
namespace Go.Proofs.YthblmlkkmebciaaDoor
open Go Go.RowKit Go.Proofs Go.ChangeShapes Go.WideShapes Go.ChangeAt
theorem own : ownKnob Tryd.prog.godebug = none := by kernel_rfl
theorem laidOut : laidOutB Tryd.prog = true := by kernel_rfl
abbrev laidL : List (String × DataW Unit) := [("copyist/ident.root", YthblmlkkmebciaaDoor.Rows.laid_copyist_ident_root)]
theorem laid_plain (W : World) : laidMetH Tryd.prog laidL W = laidMet Tryd.prog laidL W := by unfold laidMetH; rfl
theorem root_of {W : World} (h : laidMetH Tryd.prog laidL W) : roW W 0 = some [.int .u16 0, .int .u32 0] := by
  rw [laid_plain] at h
  obtain ⟨ps, ⟨g, t, cs, fuel, p, q, e1, e2, e3, e4, e5, e6⟩, _, _⟩ := h
  have hg : Tryd.prog.globalNamed "copyist/ident.root" = some 0 := by kernel_rfl
  rw [hg] at e1
  cases e1
  have ht : (Tryd.prog.globals[(0 : Nat)]?).map (·.type) = some 36 := by kernel_rfl
  rw [ht] at e2
  cases e2
  obtain ⟨xs, n, _, hx, hl, hxl, hp⟩ := DataW.trod_struct Tryd.underlying36 e4
  rw [co36] at hl
  obtain ⟨a, b, hab⟩ : ∃ a b, cs.toList = [a, b] := by
    match cs.toList, hl with
    | [a, b], _ => exact ⟨a, b, rfl⟩
  rw [hab] at hp
  have h0 := hp 0 { name := "R", type := 33, offset := 0, embedded := false, tag := "", pkgPath := "", byteOffset := 0 } rfl
  have h1 := hp 1 { name := "N", type := 34, offset := 1, embedded := false, tag := "", pkgPath := "", byteOffset := 4 } rfl
  simp only [co33, co34, List.drop_zero, List.drop_succ_cons, List.take_succ_cons, List.take_zero] at h0 h1
  have hxs : xs.length = 2 := by rw [hxl]; rfl
  have hx0 : xs[0]? = some (xs[0]'(by omega)) := List.getElem?_eq_getElem _
  have hx1 : xs[1]? = some (xs[1]'(by omega)) := List.getElem?_eq_getElem _
  rw [hx0] at h0
  rw [hx1] at h1
  obtain ⟨n0, k0, k1, _⟩ := DataW.trod_int Tryd.underlying33 h0
  obtain ⟨n1, l0, l1, _⟩ := DataW.trod_int Tryd.underlying34 h1
  have hd : xs.map (·.1) = [.lit (.int .u16 0), .lit (.int .u32 0)] := by
    have := congrArg (·.1) hx
    simp only [YthblmlkkmebciaaDoor.Rows.laid_copyist_ident_root, DataW.agg.injEq] at this
    exact this.symm
  have hd0 := congrArg (·[0]?) hd
  have hd1 := congrArg (·[1]?) hd
  simp only [List.getElem?_map, hx0, hx1, k1, l1, Option.map_some, List.getElem?_cons_zero, List.getElem?_cons_succ, Option.some.injEq, DataW.lit.injEq, Lit.int.injEq, true_and] at hd0 hd1
  have ha : a = .int .u16 0 := by have := List.cons.inj k0; rw [this.1, hd0]
  have hb : b = .int .u32 0 := by have := List.cons.inj l0; rw [this.1, hd1]
  unfold World.var? at e3
  rw [hg] at e3
  simp only [Option.bind_some] at e3
  unfold roW
  have hpl : placeW (0 : Nat) = (0, 0) := by
    unfold placeW roBase
    rw [if_pos (by decide)]
  rw [hpl]
  split at e3
  · rename_i c _ _ hh
    cases e3
    simp only [hh, List.drop_zero]
    rw [hab, ha, hb]
    rfl
  · cases e3
noncomputable def w0 (os : Os) : World := World.holding Tryd.prog os ⟨#[], #[], []⟩
theorem w0_met (os : Os) (args : Array Value) : laidMetH Tryd.prog laidL ((w0 os).forCall (fun _ _ => 0) ⟨#[], args, []⟩).memory := by
  rw [laid_plain]
  exact laidMet_of_run (ps := [.cell 0 0, .cell 0 1]) 8 (by kernel_rfl) (by kernel_rfl) (by kernel_rfl)
theorem op17_of {ro n} {x : List AVal} (h : Rdg Tryd.prog ro n 51 x) : ∃ o : O17, x = o.cells ∧ R17 o := by
  obtain ⟨hl, m, hf⟩ := rdg_struct Tryd.underlying51 h
  rw [co51] at hl
  obtain ⟨b, c, d, e, f, g, i, j, k, rfl⟩ : ∃ b c d e f g i j k, x = [b, c, d, e, f, g, i, j, k] := by
    match x, hl with
    | [b, c, d, e, f, g, i, j, k], _ => exact ⟨b, c, d, e, f, g, i, j, k, rfl⟩
  obtain ⟨l1, m1, hf1⟩ := rdg_struct Tryd.underlying36 (hf 0 _ rfl)
  obtain ⟨l2, m2, hf2⟩ := rdg_struct Tryd.underlying40 (hf 1 _ rfl)
  obtain ⟨n1, h11, a11, b11⟩ := rdg_int Tryd.underlying33 (hf1 0 _ rfl)
  obtain ⟨n2, h12, a12, b12⟩ := rdg_int Tryd.underlying34 (hf1 1 _ rfl)
  obtain ⟨_, m3, hf3⟩ := rdg_struct Tryd.underlying38 (hf2 0 _ rfl)
  obtain ⟨_, m4, hf4⟩ := rdg_struct Tryd.underlying36 (hf2 1 _ rfl)
  obtain ⟨s, h22, hs⟩ := rdg_str Tryd.underlying9 (hf2 2 _ rfl)
  obtain ⟨z, h23⟩ := rdg_bool Tryd.underlying4 (hf2 3 _ rfl)
  obtain ⟨c0, h30, a30, b30⟩ := rdg_int Tryd.underlying26 (hf3 0 _ rfl)
  obtain ⟨c1, h31, a31, b31⟩ := rdg_int Tryd.underlying33 (hf3 1 _ rfl)
  obtain ⟨c2, h32, a32, b32⟩ := rdg_int Tryd.underlying34 (hf3 2 _ rfl)
  obtain ⟨d0, h40, a40, b40⟩ := rdg_int Tryd.underlying33 (hf4 0 _ rfl)
  obtain ⟨d1, h41, a41, b41⟩ := rdg_int Tryd.underlying34 (hf4 1 _ rfl)
  simp at h11 h12 h22 h23 h30 h31 h32 h40 h41
  have u16 : IntKind.u16.min = 0 := by decide
  have u32 : IntKind.u32.min = 0 := by decide
  have u64 : IntKind.u64.min = 0 := by decide
  have v32 : IntKind.u32.max = 4294967295 := by decide
  rw [u16] at a11 a31 a40
  rw [u32] at a12 a32 a41
  rw [u64] at a30
  rw [v32] at b12 b32 b41
  refine ⟨⟨(n1.toNat, n2.toNat), ⟨c0.toNat, c1.toNat, c2.toNat, d0.toNat, d1.toNat, s, z⟩⟩, ?_, ⟨by simp only []; omega, ⟨by simp only []; omega, by simp only []; omega, hs⟩⟩⟩
  simp only [O17.cells, Int.toNat_of_nonneg a11, Int.toNat_of_nonneg a12, Int.toNat_of_nonneg a30, Int.toNat_of_nonneg a31, Int.toNat_of_nonneg a32, Int.toNat_of_nonneg a40, Int.toNat_of_nonneg a41]
  simp [h11, h12, h22, h23, h30, h31, h32, h40, h41]
theorem ops17_of : ∀ {ess : List (List AVal)}, (∀ x ∈ ess, ∃ o : O17, x = o.cells ∧ R17 o) → ∃ l : List O17, ess = l.map O17.cells ∧ ∀ o ∈ l, R17 o
  | [], _ => ⟨[], rfl, fun o h => (by cases h)⟩
  | x :: ess, h => by
    obtain ⟨e, rfl, he⟩ := h x (by simp)
    obtain ⟨l, rfl, hl⟩ := ops17_of (ess := ess) (fun y hy => h y (by simp [hy]))
    exact ⟨e :: l, rfl, fun o ho => (by
      rcases List.mem_cons.1 ho with h1 | h1
      · rw [h1]; exact he
      · exact hl o h1)⟩
end Go.Proofs.YthblmlkkmebciaaDoor
set_option linter.all false
set_option maxRecDepth 100000
set_option maxHeartbeats 4000000
namespace Go.Proofs.YthblmlkkmebciaaDoor
open Go Go.RowKit Go.Proofs Go.ChangeShapes Go.WideShapes Go.ChangeAt

theorem graftOrders_lifted (os : Os) (started : os.Started) (H : Type) (enc : TypeId × Value → H) :
    ReturnsInHanded {} Tryd.checked os 6 .any (fun w args => (YthblmlkkmebciaaDoor.Rows.graftOrdersSpec.pre enc Tryd.prog Tryd.f6 [] false w args ∧ laidMetH Tryd.prog laidL w) ∧ sizedMet enc Tryd.prog Tryd.f6 (OpenSpec.ofChange YthblmlkkmebciaaDoor.Rows.graftOrdersSpec) false w args) (YthblmlkkmebciaaDoor.Rows.graftOrdersSpec.post enc Tryd.prog Tryd.f6 false true false false) := by
  refine returnsInHanded_of_change_and (C := Tryd.checked) (X := fun w _ => laidMetH Tryd.prog laidL w) (fun _ _ _ hh h => h.of_heap hh) own started (by kernel_rfl) Tryd.func6
    (ChangeSpec.witness_at (enc := enc) (C := Tryd.checked) (os := os) (X := fun w _ => laidMetH Tryd.prog laidL w) false (w0 os) #[.slice none 0 0] 8 rfl (by kernel_rfl) (by kernel_rfl) (by kernel_rfl) (by kernel_rfl) (by kernel_rfl) (w0_met os _)) ?_
  intro W base args ds gs before hval0 hW hcnd hsz hL _
  have hval : ∀ (j : Nat) t v, Tryd.f6.params[j]? = some t → args[j]? = some v → Value.okWide Tryd.prog W .any base t v := hval0
  have hW' := hW
  have hlt := hW.lt
  obtain ⟨p, q, hA0, hV, rfl, hfz, hnd⟩ := hW
  have hA : DataW.TrodAll enc Tryd.prog W 0 (fun _ => true) true Tryd.f6.params.toList args.toList ds p := hA0
  have hA1 := hA
  rw [Tryd.params6] at hA hval
  obtain ⟨v0, d0, rfl, rfl, h0⟩ := trodAll_one hA
  obtain ⟨rfl, rfl⟩ := trodVars_none hV
  have hro := root_of hL
  obtain ⟨ess, n, hx, hn, hsl⟩ := argSlice covAll (of_decide_eq_true (by kernel_rfl)) Tryd.underlying49 (by rw [co51]; decide) (hval 0 49 v0 rfl rfl) h0
  obtain ⟨l, rfl, hr⟩ := ops17_of (fun x hm => op17_of (hx x hm).2)
  have hS : Sl (cfgR (roW W)) heap0 9 (absV v0) (l.map O17.cells) := by
    have := hsl (cfgR (roW W)) heap0 rfl
    rw [co51] at this
    exact this
  obtain ⟨k, v, h', hq, rfl⟩ := GraftOrders_ev hro hS (by simpa using hn) hr
  refine (entry (c := cfg) sureC (W := W) (args := #[v0]) (k := k) (v := .bool true) (h' := h') Tryd.func6 rfl rfl (by rw [show (#[v0] : Array Value).toList.map absV = [absV v0] from rfl]; exact hq)).mono fun e W' ⟨u, ι, he, hv, hb⟩ => ?_
  have hu : u = .bool true := hv
  subst hu
  refine ⟨_, he, post_below hW' (fun b sp hd => trodAll_mk1 (shut_bool Tryd.underlying4 true)) (trodAll_below laidOut hb (by kernel_rfl) hA1 (fun x hx => hlt x (by simpa using hx))) (by exact rfl) hb⟩
theorem graftOrders_said : YthblmlkkmebciaaDoor.Rows.GraftOrdersSaid :=
  OpenClaim.holds_of_wide 6 Tryd.f6 rfl rfl rfl rfl rfl rfl rfl ⟨rfl, rfl, rfl, rfl, rfl⟩ rfl rfl rfl rfl rfl (by kernel_rfl) Tryd.func6 (by kernel_rfl)
    (of_decide_eq_true (by kernel_rfl)) (by unfold Func.isWrapper; first | (rw [if_pos (by decide +kernel)]; kernel_rfl) | (rw [if_neg (by decide +kernel)]; exact ⟨rfl, rfl⟩))
    (fun os started H enc _ => graftOrders_lifted os started H enc)
theorem graftOrders_holds : YthblmlkkmebciaaDoor.Rows.GraftOrdersCardSaid :=
  Claim7.holds_tied_plain_at .later [] [.data] true (true, "83f94d69712dfd6e68caaf37ce9d9b9959291105dd6f8a28de6672e500c755ab") false
    graftOrders_said (fun _ h => by cases h) (by kernel_rfl) (fun _ h => by cases h) YthblmlkkmebciaaDoor.graftOrders_row_tie rfl ⟨rfl, rfl⟩ (by kernel_rfl) rfl
    (fun f fn hf hfn => by
      obtain rfl : f = 6 := Option.some.inj ((show Tryd.prog.funcNamed "copyist/copyistlaw17.GraftOrders" = some 6 by kernel_rfl).symm.trans hf) |>.symm
      obtain rfl : fn = Tryd.f6 := (Option.some.inj (Tryd.func6.symm.trans hfn)).symm
      exact ⟨by kernel_rfl, fun j t ht => by
        rw [Tryd.params6] at ht
        rcases j with _ | j
        · obtain rfl : 49 = t := by simpa using ht
          exact (show Tryd.prog.wantsStandIn 49 = false by kernel_rfl)
        · simp at ht⟩)
    (by kernel_rfl)
end Go.Proofs.YthblmlkkmebciaaDoor
