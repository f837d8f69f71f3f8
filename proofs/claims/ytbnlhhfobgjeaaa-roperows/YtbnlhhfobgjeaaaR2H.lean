/-
  A part of the proof of RopeRows, over the seat Ytbnlhhfobgjeaaa: for every input the law returns true, and the input reads as it did.
-/
import Derived.Test.YtbnlhhfobgjeaaaR2G
set_option linter.all false
set_option maxRecDepth 100000
set_option maxHeartbeats 4000000
namespace Go.Proofs.Ytbnlhhfobgjeaaa
open Go Go.RowKit Go.Proofs
def headP : List (Nat × Str) → AVal
  | [] => .nilp
  | p :: _ => .ptr p.1 0
theorem lm_head : ∀ t : Rt Str, t.lm = headP t.items
  | .nil => rfl
  | .node o ht x .nil r => rfl
  | .node o ht x (.node o2 h2 x2 l2 r2) r => by
    show Rt.lm (.node o2 h2 x2 l2 r2) = _
    rw [lm_head (.node o2 h2 x2 l2 r2)]
    rw [items_node o ht]
    cases h : (Rt.node o2 h2 x2 l2 r2).items with
    | nil => rw [items_node] at h; simp at h
    | cons a b => rfl
section
variable {ro : Nat → Option (List AVal)}
theorem len12 {h : AHeap} {rr : Nat} {t : Rt Str} (R : Rp h rr t) {Q : AVal → AHeap → Prop} (hq : Q (.int .i64 t.items.length) h) : Ev (cfgR ro) 12 [.ptr rr 0] h Q := by
  obtain ⟨s, hr⟩ := R.root
  refine Ev.wp rfl rfl Try.func12 rfl ?_
  rw [rrow] at hr
  simp -implicitDefEqProofs [Try.f12, hr]
  refine len26 R.tree ?_
  simp -implicitDefEqProofs
  exact hq
theorem all13 {h : AHeap} {rr : Nat} {t : Rt Str} (R : Rp h rr t) {Q : AVal → AHeap → Prop} (hq : Q (.agg [.str t.tx]) h) : Ev (cfgR ro) 13 [.ptr rr 0] h Q := by
  obtain ⟨s, hr⟩ := R.root
  refine Ev.wp rfl rfl Try.func13 rfl ?_
  rw [rrow] at hr
  simp -implicitDefEqProofs [Try.f13, hr]
  refine sum27 R.tree ?_
  simp -implicitDefEqProofs
  exact hq
/-- the cell above, and whether it leads to us by its right -/
theorem above {h : AHeap} {f : Frm Str} {c : List (Frm Str)} {n ht : Nat} {x : Str} {l r : Rt Str} (ha : At TS h .nilp (plug (f :: c) (.node n ht x l r))) (hnd : (plug (f :: c) (.node n ht x l r)).ids.Nodup) :
    ∃ psz pall, h.get f.o = some (nrow (upOf c) (if f.left then .ptr n 0 else f.sib.ptr) (if f.left then f.sib.ptr else .ptr n 0) f.ht psz f.x pall) ∧
      At TS h (.ptr f.o 0) f.sib ∧ eqIn (cfgR ro) h 10000 24 (if f.left then f.sib.ptr else .ptr n 0) (.ptr n 0) = .ok (!f.left) := by
  obtain ⟨j1, ⟨psz, pall, ⟨pq, hpq⟩, p1⟩, p2, p3⟩ := At.split ha
  have hall : pall = [.str pq.flatten] := hpq
  rw [hall, nobj_row] at p1
  have hn := (at_node.1 j1).1
  have hns : n ∉ f.sib.ids := fun hm => (apart_tree hnd).2 n (by rw [ids_node]; simp) (cids_cons.2 (.inr (.inl hm)))
  refine ⟨psz, _, by rw [p1]; unfold lptr rptr'; cases f.left <;> rfl, p2, ?_⟩
  cases f.left with
  | true => exact eq_place p2 hns hn
  | false =>
    show eqIn (cfgR ro) h 10000 24 (.ptr n 0) (.ptr n 0) = _
    rw [eq24_pp, ptrEq_self]; rfl
theorem index9 {h : AHeap} {rr : Nat} {T : Rt Str} {a : Nat} {y : Str} {L1 L2 : List (Nat × Str)} (ha : At TS h .nilp T) (hnd : T.ids.Nodup) (hT : T.items = L1 ++ (a, y) :: L2) (hfit : T.items.length < 2 ^ 60) {Q : AVal → AHeap → Prop} (hq : Q (.int .i64 L1.length) h) : Ev (cfgR ro) 9 [.ptr rr 0, .ptr a 0] h Q := by
  obtain ⟨c, ht, l, r, e1, e2⟩ := place hT hnd
  refine Ev.wp rfl rfl Try.func9 rfl ?_
  have h0 := (At.split (t := .node a ht y l r) (e1 ▸ ha)).1
  obtain ⟨ja, jl, jr⟩ := at_node.1 h0
  have ja' := ja
  rw [nrow] at ja'
  simp -implicitDefEqProofs [Try.f9, ja']
  refine len26 jl ?_
  simp -implicitDefEqProofs
  obtain ⟨I, hI⟩ : ∃ I : Nat → List AVal → AHeap → Prop, I = fun m env h' => h' = h ∧ ∃ c n ht x l r acc, m = c.length ∧ T = plug c (.node n ht x l r) ∧ (bef c).length + acc = L1.length ∧ env = (.dead :: .ptr n 0 :: .dead :: .dead :: .dead :: .int .i64 (acc : Nat) :: .dead :: .dead :: .dead :: .dead :: .dead :: .dead :: .dead :: .dead :: .dead :: .dead :: .dead :: .dead :: .dead :: .dead :: .dead :: .dead :: .dead :: .dead :: .dead :: .dead :: .dead :: .dead :: .dead :: .dead :: .dead :: .dead :: .dead :: .dead :: .dead :: .dead :: .dead :: .dead :: .dead :: .dead :: .dead :: []) := ⟨_, rfl⟩
  refine loop_of I ?_ c.length (by rw [hI]; exact ⟨rfl, c, a, ht, y, l, r, l.items.length, rfl, e1, by rw [← e2, List.length_append], rfl⟩)
  intro m env h' hi
  rw [hI] at hi
  obtain ⟨rfl, c, n, ht, x, l, r, acc, rfl, g1, g2, rfl⟩ := hi
  have hA : At TS h' .nilp (plug c (.node n ht x l r)) := g1 ▸ ha
  obtain ⟨ja, jl, jr⟩ := at_node.1 (At.split hA).1
  rw [nrow] at ja
  have hlen : L1.length < 2 ^ 60 := by rw [hT, List.length_append] at hfit; omega
  cases c with
  | nil =>
    rw [upOf] at ja
    simp -implicitDefEqProofs [ja]
    have : acc = L1.length := by simpa [bef] using g2
    rw [this]; exact hq
  | cons f c =>
    obtain ⟨psz, pall, p1, p2, p3⟩ := above (ro := ro) hA (g1 ▸ hnd)
    rw [upOf] at ja
    rw [nrow] at p1
    have hp : ∃ l2 r2, plug1 f (.node n ht x l r) = .node f.o f.ht f.x l2 r2 := by unfold plug1; cases f.left <;> exact ⟨_, _, rfl⟩
    obtain ⟨l2, r2, hp⟩ := hp
    cases hl : f.left with
    | true =>
      rw [hl] at p1 p3
      simp only [if_true] at p1 p3
      simp -implicitDefEqProofs [ja, p1, p3, cells_ptr]
      refine ⟨by cases f.sib <;> simp [Rt.ptr], ?_⟩
      exact .mk (m := c.length) (by simp) (by rw [hI]; exact ⟨rfl, c, f.o, f.ht, f.x, l2, r2, acc, rfl, by rw [g1, plug, hp], by simpa [bef, hl] using g2, rfl⟩)
    | false =>
      rw [hl] at p1 p3
      simp only [Bool.false_eq_true, if_false] at p1 p3
      simp -implicitDefEqProofs [ja, p1, ptrEq_self]
      refine len26 p2 ?_
      have hb : (bef c).length + (acc + (f.sib.items.length + 1)) = L1.length := by
        rw [← g2]; simp [bef, hl]; omega
      have w1 : IntKind.i64.wrap ((f.sib.items.length : Int) + 1) = (f.sib.items.length : Int) + 1 := w64 (by omega) (by omega)
      have w2 : IntKind.i64.wrap ((acc : Int) + ((f.sib.items.length : Int) + 1)) = ((acc + (f.sib.items.length + 1) : Nat) : Int) := by rw [w64 (by omega) (by omega)]; push_cast; rfl
      simp -implicitDefEqProofs [w1, w2, ja, p1]
      exact .mk (m := c.length) (by simp) (by rw [hI]; exact ⟨rfl, c, f.o, f.ht, f.x, l2, r2, _, rfl, by rw [g1, plug, hp], hb, by simp⟩)
end
end Go.Proofs.Ytbnlhhfobgjeaaa
