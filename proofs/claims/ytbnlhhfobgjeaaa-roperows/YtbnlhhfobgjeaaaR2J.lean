/-
  A part of the proof of RopeRows, over the seat Ytbnlhhfobgjeaaa: for every input the law returns true, and the input reads as it did.
-/
import Derived.Test.YtbnlhhfobgjeaaaR2I
set_option linter.all false
set_option maxRecDepth 100000
set_option maxHeartbeats 4000000
namespace Go.Proofs.Ytbnlhhfobgjeaaa
open Go Go.RowKit Go.Proofs
section
variable {ro : Nat → Option (List AVal)}
theorem put {h : AHeap} {rr : Nat} {t : Rt Str} {x : Str} {after : AVal} {L1 L2 : List (Nat × Str)} (R : Rp h rr t) (hit : t.items = L1 ++ L2)
    (hfit : t.items.length + 1 < 2 ^ 60 ∧ t.tx.length + x.length < 2 ^ 60) (haft : (L1 = [] ∧ after = .nilp) ∨ ∃ L0 a y, L1 = L0 ++ [(a, y)] ∧ after = .ptr a 0)
    {Q : AVal → AHeap → Prop}
    (hq : ∀ n h' t', Rp h' rr t' → t'.items = L1 ++ (n, x) :: L2 → h.next ≤ n → (∀ o, o < h.next → o ≠ rr → o ∉ t.ids → h'.get o = h.get o) → h.next ≤ h'.next → Q (.ptr n 0) h') : Ev (cfgR ro) 7 [.ptr rr 0, after, .agg [.str x]] h Q := by
  refine put7 R hit hfit ?_ hq
  cases ht : t with
  | nil => exact .inl rfl
  | node o0 ht0 x0 l0 r0 =>
    rw [← ht]
    refine .inr ?_
    have hne : t ≠ .nil := by rw [ht]; simp
    have hp : ∃ o, t.ptr = .ptr o 0 := ⟨o0, by rw [ht]; rfl⟩
    rcases haft with ⟨rfl, rfl⟩ | ⟨L0, a, y, rfl, rfl⟩
    · obtain ⟨f, c, h1, h2, h3, h4⟩ := hole_left t hne
      exact ⟨f, c, h1, h2, hp, .inl ⟨rfl, h3, h4⟩⟩
    · obtain ⟨c0, aht, l, r, e1, e2⟩ := place (L1 := L0) (o := a) (x := y) (L2 := L2) (by rw [hit]; simp) R.nd
      cases hr : r with
      | nil =>
        rw [hr] at e1
        refine ⟨⟨a, aht, y, false, l⟩, c0, e1.symm, ?_, hp, .inr ⟨c0, a, aht, y, l, .nil, rfl, e1, .inl ⟨rfl, rfl, rfl⟩⟩⟩
        show bef c0 ++ (l.items ++ [(a, y)]) = _
        rw [← e2]; simp
      | node o2 h2 x2 l2 r2 =>
        obtain ⟨f, c, k1, k2, k3, k4⟩ := hole_left r (by rw [hr]; simp)
        refine ⟨f, c ++ ⟨a, aht, y, false, l⟩ :: c0, ?_, ?_, hp, .inr ⟨c0, a, aht, y, l, r, rfl, e1, .inr ⟨o2, by rw [hr]; rfl, k3, k4⟩⟩⟩
        · rw [← List.cons_append, plug_append, k1, e1]; rfl
        · rw [← List.cons_append, bef_append, k2, List.append_nil]
          show bef c0 ++ (l.items ++ [(a, y)]) = _
          rw [← e2]; simp
end
/-- a list of places, in a row of its own -/
def Plc (h : AHeap) (v : AVal) (es : List AVal) (bad : Nat → Prop) : Prop := (es = [] ∧ v = .nils) ∨ ∃ q fz, v = .sl q 0 es.length ∧ q < h.next ∧ h.get q = some (.row 1 fz es) ∧ ¬ bad q
theorem flat1 : ∀ es : List AVal, (es.map fun e => [e]).flatten = es
  | [] => rfl
  | e :: es => by simp [flat1 es]
theorem Plc.mine {h : AHeap} {v : AVal} {es : List AVal} {bad : Nat → Prop} (p : Plc h v es bad) : ∃ h0, Mine h0 h 1 (es.map fun e => [e]) v := by
  refine ⟨⟨h.objs, 0⟩, by simp, ?_⟩
  rcases p with ⟨rfl, rfl⟩ | ⟨q, fz, rfl, h1, h2, h3⟩
  · exact .inl ⟨rfl, rfl⟩
  · exact .inr ⟨q, fz, by simp, Nat.zero_le _, h1, by rw [flat1]; exact h2⟩
theorem Plc.app {h : AHeap} {v e : AVal} {es : List AVal} {bad : Nat → Prop} (p : Plc h v es bad) (hb : ∀ o, bad o → o < h.next) (hl : es.length < 2 ^ 40) :
    ∃ v' h', appCore 1 8 h v 1 [e] = .ok (v', h') ∧ Plc h' v' (es ++ [e]) bad ∧ h.next ≤ h'.next ∧ ∀ o, bad o → h'.get o = h.get o := by
  rcases p with ⟨rfl, rfl⟩ | ⟨q, fz, rfl, h1, h2, h3⟩
  · refine ⟨.sl h.next 0 1, h.push (.row 1 false [e]), by unfold appCore; simp, .inr ⟨h.next, false, rfl, by simp, by simp, fun hb' => by have := hb _ hb'; omega⟩, by simp, fun o ho => ?_⟩
    have := hb o ho
    rw [AHeap.get_push, if_neg (by omega)]
  · refine ⟨.sl h.next 0 (es.length + 1), (h.del q).push (.row 1 true (es ++ [e])), ?_, .inr ⟨h.next, true, by simp, by simp, by have := get_push_next (h.del q) (.row 1 true (es ++ [e])); simpa using this, fun hb' => by have := hb _ hb'; omega⟩, by simp, fun o ho => ?_⟩
    · unfold appCore
      simp only [h2, if_true]
      rw [if_neg (by omega), if_neg (by omega)]
      have : takeR es 0 (es.length * 1) = .ok es := by
        unfold takeR
        rw [if_pos (by omega), List.drop_zero, Nat.mul_one, List.take_length]
      rw [this]; rfl
    · have h4 := hb o ho
      have h5 : o ≠ q := fun e => h3 (by rw [← e]; exact ho)
      rw [AHeap.get_push, if_neg (by simp; omega), AHeap.get_del, if_neg h5]
theorem Plc.keep {h h' : AHeap} {v : AVal} {es : List AVal} {bad bad' : Nat → Prop} (p : Plc h v es bad) (hn : h.next ≤ h'.next) (hk : ∀ o, o < h.next → ¬ bad o → h'.get o = h.get o) (hb : ∀ o, bad' o → bad o ∨ h.next ≤ o) : Plc h' v es bad' := by
  rcases p with ⟨rfl, rfl⟩ | ⟨q, fz, rfl, h1, h2, h3⟩
  · exact .inl ⟨rfl, rfl⟩
  · refine .inr ⟨q, fz, rfl, by omega, by rw [hk q h1 h3]; exact h2, fun hm => ?_⟩
    rcases hb q hm with h4 | h4
    · exact h3 h4
    · omega
end Go.Proofs.Ytbnlhhfobgjeaaa
