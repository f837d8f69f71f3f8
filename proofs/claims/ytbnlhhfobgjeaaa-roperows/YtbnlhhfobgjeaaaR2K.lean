/-
  A part of the proof of RopeRows, over the seat Ytbnlhhfobgjeaaa: for every input the law returns true, and the input reads as it did.
-/
import Derived.Test.YtbnlhhfobgjeaaaR2J
set_option linter.all false
set_option maxRecDepth 100000
set_option maxHeartbeats 4000000
namespace Go.Proofs.Ytbnlhhfobgjeaaa
open Go Go.RowKit Go.Proofs
/-- a rope of one's own -/
structure RpO (h0 h : AHeap) (rr : Nat) (t : Rt Str) : Prop where
  rp : Rp h rr t
  lo : h0.next ≤ rr
  los : ∀ o ∈ t.ids, h0.next ≤ o
  old : Old h0 h
theorem new27 {h0 h : AHeap} (k : Old h0 h) : RpO h0 (h.push (.row 0 false [.nilp, .int .u64 0])) h.next .nil :=
  ⟨⟨⟨0, by rw [get_push_next]; rfl⟩, trivial, List.nodup_nil, by simp [Rt.ids, Rt.items], by simp, by simp [Rt.ids, Rt.items]⟩, k.1, by simp [Rt.ids, Rt.items], k.push _⟩
theorem tx_items {t : Rt Str} {L : List (Nat × Str)} (h : t.items = L) : t.tx = txs L := by unfold Rt.tx txs; rw [h]
section
variable {ro : Nat → Option (List AVal)}
theorem putO {h0 h : AHeap} {rr : Nat} {t : Rt Str} {x : Str} {after : AVal} {L1 L2 : List (Nat × Str)} (R : RpO h0 h rr t) (hit : t.items = L1 ++ L2)
    (hfit : t.items.length + 1 < 2 ^ 60 ∧ t.tx.length + x.length < 2 ^ 60) (haft : (L1 = [] ∧ after = .nilp) ∨ ∃ L0 a y, L1 = L0 ++ [(a, y)] ∧ after = .ptr a 0)
    {Q : AVal → AHeap → Prop}
    (hq : ∀ n h' t', RpO h0 h' rr t' → t'.items = L1 ++ (n, x) :: L2 → h.next ≤ n → (∀ o, o < h.next → o ≠ rr → o ∉ t.ids → h'.get o = h.get o) → h.next ≤ h'.next → Q (.ptr n 0) h') : Ev (cfgR ro) 7 [.ptr rr 0, after, .agg [.str x]] h Q := by
  refine put R.rp hit hfit haft (fun n h' t' r1 r2 r3 r4 r5 => ?_)
  refine hq n h' t' ⟨r1, R.lo, ?_, Nat.le_trans R.old.1 r5, fun o ho => ?_⟩ r2 r3 r4 r5
  · intro o ho
    have : o = n ∨ o ∈ t.ids := by
      unfold Rt.ids at ho ⊢
      rw [r2] at ho
      rw [hit]
      simp only [List.map_append, List.map_cons, List.mem_append, List.mem_cons] at ho ⊢
      rcases ho with h1 | h1 | h1
      · exact .inr (.inl h1)
      · exact .inl h1
      · exact .inr (.inr h1)
    rcases this with rfl | h1
    · exact Nat.le_trans R.old.1 r3
    · exact R.los o h1
  · rw [r4 o (Nat.lt_of_lt_of_le ho R.old.1) (fun e => by have := R.lo; omega) (fun hm => by have := R.los o hm; omega), R.old.2 o ho]
theorem anchor6 {h : AHeap} {Q : AVal → AHeap → Prop} (hq : ∀ h', Old h h' → Q (.bool true) h') : Ev (cfgR ro) 6 [] h Q := by
  refine Ev.wp rfl rfl Try.func6 rfl ?_
  simp -implicitDefEqProofs [Try.f6]
  refine putO (new27 (Old.refl h)) (L1 := []) (L2 := []) rfl (by simp [Rt.items, Rt.tx]) (.inl ⟨rfl, rfl⟩) (fun a h1 t1 r1 i1 n1 k1 m1 => ?_)
  simp -implicitDefEqProofs
  refine putO r1 (L1 := [(a, [97])]) (L2 := []) i1 (by rw [tx_items i1, i1]; simp [txs]) (.inr ⟨[], a, _, rfl, rfl⟩) (fun c h2 t2 r2 i2 n2 k2 m2 => ?_)
  simp -implicitDefEqProofs
  refine putO r2 (L1 := [(a, [97])]) (L2 := [(c, [99])]) i2 (by rw [tx_items i2, i2]; simp [txs]) (.inr ⟨[], a, _, rfl, rfl⟩) (fun b h3 t3 r3 i3 n3 k3 m3 => ?_)
  simp -implicitDefEqProofs
  refine all13 r3.rp ?_
  rw [tx_items i3]
  simp -implicitDefEqProofs [txs]
  refine before10 r3.rp.tree r3.rp.nd (L1 := [(a, [97]), (b, [98])]) (a := c) (y := [99]) (L2 := []) i3 (by rw [tx_items i3]; simp [txs]) ?_
  simp -implicitDefEqProofs [txs]
  exact hq h3 r3.old
end
end Go.Proofs.Ytbnlhhfobgjeaaa
