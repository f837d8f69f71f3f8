/-
  A part of the proof of RopeRows, over the seat Ytbnlhhfobgjeaaa: for every input the law returns true, and the input reads as it did.
-/
import Derived.Test.YtbnlhhfobgjeaaaR2H
set_option linter.all false
set_option maxRecDepth 100000
set_option maxHeartbeats 4000000
namespace Go.Proofs.Ytbnlhhfobgjeaaa
open Go Go.RowKit Go.Proofs
def txs (L : List (Nat × Str)) : Str := (L.map (·.2)).flatten
section
variable {c : Cfg} {f : Nat} {K : List AVal → AHeap → Prop} {E : Nat → List AVal → AHeap → Prop} {R : List AVal → AHeap → Prop} {G : Nat → List AVal → AHeap → Prop}
theorem scope_loop2 {l : Nat} {body rest : Code} (hl : findLabel body l = some (Code.skip.seq rest)) (I : Nat → List AVal → AHeap → Prop)
    (hI : ∀ n env h, (∀ m, m < n → ∀ env h, I m env h → scpG c f K E R G body l env h) → I n env h → wp c f rest K E R (scpG c f K E R G body) env h) (n : Nat) {env : List AVal} {h : AHeap} (h0 : I n env h) :
    wp c f (.label l) (seqK c f K E R (scpG c f K E R G body) rest) E R (scpG c f K E R G body) env h := by
  have key : ∀ n {env : List AVal} {h : AHeap}, I n env h → scpG c f K E R G body l env h := by
    intro n
    induction n using Nat.strongRecOn with
    | _ n ih =>
      intro env h h0
      unfold scpG
      rw [hl]
      exact label_of (rest := Code.skip.seq rest) (hI n env h (fun m hm env h q => ih m hm q) h0)
  exact hI n env h (fun m _ env h q => key m q) h0
end
theorem txs_append (a b : List (Nat × Str)) : txs (a ++ b) = txs a ++ txs b := by simp [txs]
section
variable {ro : Nat → Option (List AVal)}
theorem before10 {h : AHeap} {rr : Nat} {T : Rt Str} {a : Nat} {y : Str} {L1 L2 : List (Nat × Str)} (ha : At TS h .nilp T) (hnd : T.ids.Nodup) (hT : T.items = L1 ++ (a, y) :: L2) (hfit : T.tx.length < 2 ^ 60) {Q : AVal → AHeap → Prop} (hq : Q (.agg [.str (txs L1)]) h) : Ev (cfgR ro) 10 [.ptr rr 0, .ptr a 0] h Q := by
  obtain ⟨c, ht, l, r, e1, e2⟩ := place hT hnd
  refine Ev.wp rfl rfl Try.func10 rfl ?_
  have h0 := (At.split (t := .node a ht y l r) (e1 ▸ ha)).1
  obtain ⟨ja, jl, jr⟩ := at_node.1 h0
  have ja' := ja
  rw [nrow] at ja'
  simp -implicitDefEqProofs [Try.f10, ja']
  refine sum27 jl ?_
  simp -implicitDefEqProofs
  have hlen : (txs L1).length + (txs L2).length < 2 ^ 60 := by
    have : T.tx = txs L1 ++ (y ++ txs L2) := by
      show txs T.items = _
      rw [hT, txs_append]; simp [txs]
    rw [this] at hfit
    simp only [List.length_append] at hfit
    omega
  obtain ⟨I, hI⟩ : ∃ I : Nat → List AVal → AHeap → Prop, I = fun m env h' => h' = h ∧ ∃ c n ht x l r acc, m = c.length ∧ T = plug c (.node n ht x l r) ∧ txs (bef c) ++ acc = txs L1 ∧ env = (.dead :: .ptr n 0 :: .dead :: .dead :: .cell [.str []] :: .cell [.str acc] :: .dead :: .dead :: .dead :: .dead :: .dead :: .dead :: .dead :: .dead :: .dead :: .dead :: .dead :: .dead :: .dead :: .dead :: .dead :: .dead :: .dead :: .dead :: .dead :: .dead :: .dead :: .dead :: .dead :: .dead :: .dead :: .dead :: .dead :: .dead :: .dead :: .dead :: .dead :: .dead :: .dead :: .dead :: .dead :: .dead :: .dead :: .dead :: .dead :: .dead :: .dead :: .dead :: .dead :: .dead :: .dead :: .dead :: []) := ⟨_, rfl⟩
  refine loop_of I ?_ c.length (by rw [hI]; exact ⟨rfl, c, a, ht, y, l, r, l.tx, rfl, e1, by rw [← e2, txs_append]; rfl, rfl⟩)
  intro m env h' hi
  rw [hI] at hi
  obtain ⟨rfl, c, n, ht, x, l, r, acc, rfl, g1, g2, rfl⟩ := hi
  have hA : At TS h' .nilp (plug c (.node n ht x l r)) := g1 ▸ ha
  obtain ⟨ja, jl, jr⟩ := at_node.1 (At.split hA).1
  rw [nrow] at ja
  cases c with
  | nil =>
    rw [upOf] at ja
    simp -implicitDefEqProofs [ja]
    have : acc = txs L1 := by simpa [bef, txs] using g2
    rw [this]; exact hq
  | cons f c =>
    obtain ⟨psz, pall, p1, p2, p3⟩ := above (ro := ro) hA (g1 ▸ hnd)
    rw [upOf] at ja
    rw [nrow] at p1
    have hp : ∃ l2 r2, plug1 f (.node n ht x l r) = .node f.o f.ht f.x l2 r2 := by unfold plug1; cases f.left <;> exact ⟨_, _, rfl⟩
    obtain ⟨l2, r2, hp⟩ := hp
    cases hl : f.left with
    | true =>
      rw [hl] at p1 p3
      simp only [if_true] at p1 p3
      simp -implicitDefEqProofs [ja, p1, p3, cells_ptr]
      refine ⟨by cases f.sib <;> simp [Rt.ptr], ?_⟩
      exact .mk (m := c.length) (by simp) (by rw [hI]; exact ⟨rfl, c, f.o, f.ht, f.x, l2, r2, acc, rfl, by rw [g1, plug, hp], by simpa [bef, hl] using g2, rfl⟩)
    | false =>
      rw [hl] at p1 p3
      simp only [Bool.false_eq_true, if_false] at p1 p3
      have hb : txs (bef c) ++ (f.sib.tx ++ f.x ++ acc) = txs L1 := by
        rw [← g2]
        show _ = txs (bef c ++ _) ++ acc
        rw [txs_append, hl]
        simp [txs, Rt.tx]
      have hbl := congrArg List.length hb
      simp only [List.length_append] at hbl
      simp -implicitDefEqProofs [ja, p1, ptrEq_self]
      refine sum27 p2 ?_
      simp -implicitDefEqProofs [ja, p1, undR, Try.underlying31, Try.underlying32, meth31, meth32]
      refine meas57 ?_
      simp -implicitDefEqProofs [ja, p1, meth32]
      refine plus58 (by omega) ?_
      simp -implicitDefEqProofs [ja, p1, undR, Try.underlying32, meth32]
      refine plus58 (by simp only [List.length_append]; omega) ?_
      simp -implicitDefEqProofs [ja, p1]
      exact .mk (m := c.length) (by simp) (by rw [hI]; exact ⟨rfl, c, f.o, f.ht, f.x, l2, r2, _, rfl, by rw [g1, plug, hp], hb, by simp⟩)
theorem next11 {h : AHeap} {T : Rt Str} {a : Nat} {y : Str} {L1 L2 : List (Nat × Str)} (ha : At TS h .nilp T) (hnd : T.ids.Nodup) (hT : T.items = L1 ++ (a, y) :: L2) {Q : AVal → AHeap → Prop} (hq : Q (headP L2) h) : Ev (cfgR ro) 11 [.ptr a 0] h Q := by
  obtain ⟨c, ht, l, r, e1, e2⟩ := place hT hnd
  refine Ev.wp rfl rfl Try.func11 rfl ?_
  have h0 := (At.split (t := .node a ht y l r) (e1 ▸ ha)).1
  obtain ⟨ja, jl, jr⟩ := at_node.1 h0
  have ja' := ja
  rw [nrow] at ja'
  have hL2 : L2 = r.items ++ aft c := by
    have := plug_items c (.node a ht y l r)
    rw [← e1, hT, ← e2, items_node] at this
    simpa using this
  cases r with
  | node o2 h2 x2 l2 r2 =>
    rw [ptr_node] at ja'
    simp -implicitDefEqProofs [Try.f11, ja']
    rw [← ptr_node (o := o2) (ht := h2) (x := x2) (l := l2) (r := r2)]
    refine leftmost23 jr ?_
    simp -implicitDefEqProofs
    rw [lm_head]
    have : headP (Rt.node o2 h2 x2 l2 r2).items = headP L2 := by
      rw [hL2]
      cases h : (Rt.node o2 h2 x2 l2 r2).items with
      | nil => rw [items_node] at h; simp at h
      | cons p q => rfl
    rw [this]; exact hq
  | nil =>
    rw [ptr_nil] at ja'
    simp -implicitDefEqProofs [Try.f11, ja']
    refine scope_loop2 (by simp [findLabel]) (fun m env h' => h' = h ∧ ∃ c n ht x l r z, m = c.length ∧ T = plug c (.node n ht x l r) ∧ aft c = L2 ∧ env = (.ptr n 0 :: .dead :: .dead :: .dead :: .dead :: .dead :: .dead :: z :: .dead :: .dead :: .dead :: .dead :: .dead :: .dead :: .dead :: .dead :: .dead :: .dead :: .dead :: .dead :: .dead :: .dead :: .dead :: .dead :: .dead :: .dead :: .dead :: .dead :: .dead :: .dead :: .dead :: .dead :: .dead :: .dead :: .dead :: .dead :: .dead :: [])) ?_ c.length ⟨rfl, c, a, ht, y, l, .nil, _, rfl, e1, by rw [hL2]; rfl, rfl⟩
    rintro m env h' ih ⟨rfl, c, n, ht, x, l, r, z, rfl, g1, g2, rfl⟩
    have hA : At TS h' .nilp (plug c (.node n ht x l r)) := g1 ▸ ha
    obtain ⟨ja, jl, jr⟩ := at_node.1 (At.split hA).1
    rw [nrow] at ja
    cases c with
    | nil =>
      rw [upOf] at ja
      simp -implicitDefEqProofs [ja]
      have : L2 = [] := by rw [← g2]; rfl
      rw [this] at hq; exact hq
    | cons f c =>
      obtain ⟨psz, pall, p1, p2, p3⟩ := above (ro := ro) hA (g1 ▸ hnd)
      rw [upOf] at ja
      rw [nrow] at p1
      have hp : ∃ l2 r2, plug1 f (.node n ht x l r) = .node f.o f.ht f.x l2 r2 := by unfold plug1; cases f.left <;> exact ⟨_, _, rfl⟩
      obtain ⟨l2, r2, hp⟩ := hp
      cases hl : f.left with
      | true =>
        rw [hl] at p1 p3
        simp only [if_true] at p1 p3
        simp -implicitDefEqProofs [ja, p1, p3, cells_ptr]
        refine ⟨by cases f.sib <;> simp [Rt.ptr], ?_⟩
        have : headP L2 = .ptr f.o 0 := by rw [← g2]; simp [aft, hl, headP]
        rw [this] at hq; exact hq
      | false =>
        rw [hl] at p1 p3
        simp only [Bool.false_eq_true, if_false] at p1 p3
        simp -implicitDefEqProofs [ja, p1, ptrEq_self]
        refine ih _ ?_ _ _ ⟨rfl, c, f.o, f.ht, f.x, l2, r2, _, rfl, by rw [g1, plug, hp], by rw [← g2]; simp [aft, hl], rfl⟩
        simp
end
end Go.Proofs.Ytbnlhhfobgjeaaa
