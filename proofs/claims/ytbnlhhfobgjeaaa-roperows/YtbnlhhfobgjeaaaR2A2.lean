/-
  A part of the proof of RopeRows, over the seat Ytbnlhhfobgjeaaa: for every input the law returns true, and the input reads as it did.
-/
import Derived.Test.YtbnlhhfobgjeaaaR2A
set_option linter.all false
set_option maxRecDepth 100000
set_option maxHeartbeats 4000000
namespace Go.Proofs.Ytbnlhhfobgjeaaa
open Go Go.RowKit Go.Proofs
/-- what stands in and below a frame's place, with `it` in its hole -/
def itf (f : Frm Str) (it : List (Nat × Str)) : List (Nat × Str) := match f.left with
  | true => it ++ (f.o, f.x) :: f.sib.items
  | false => f.sib.items ++ (f.o, f.x) :: it
/-- a way up whose sums are those of `it` in the hole -/
def CX (h : AHeap) : List (Frm Str) → List (Nat × Str) → AVal → Prop
  | [], _, _ => True
  | f :: c, it, p => h.get f.o = some (nrow (upOf c) (lptr f p) (rptr' f p) f.ht (itf f it).length f.x ((itf f it).map (·.2)).flatten) ∧ At TS h (.ptr f.o 0) f.sib ∧ CX h c (itf f it) (.ptr f.o 0)
theorem CX.congr {h h' : AHeap} : ∀ {c : List (Frm Str)} {it : List (Nat × Str)} {p : AVal}, (∀ o ∈ cids c, h'.get o = h.get o) → CX h c it p → CX h' c it p
  | [], _, _, _, _ => trivial
  | f :: c, it, p, hg, ha => by
    obtain ⟨h1, h2, h3⟩ := ha
    exact ⟨by rw [hg f.o (cids_cons.2 (.inl rfl))]; exact h1, At.congr (fun q hq => hg q (cids_cons.2 (.inr (.inl hq)))) h2, CX.congr (fun q hq => hg q (cids_cons.2 (.inr (.inr hq)))) h3⟩
theorem CX.ca {h : AHeap} : ∀ {c : List (Frm Str)} {it : List (Nat × Str)} {p : AVal}, CX h c it p → CA TS h c p
  | [], _, _, _ => trivial
  | f :: c, it, p, ⟨h1, h2, h3⟩ => ⟨⟨_, _, ⟨(itf f it).map (fun x => x.2), rfl⟩, by rw [h1]; rfl⟩, h2, CX.ca h3⟩
theorem itf_items (f : Frm Str) (t : Rt Str) : itf f t.items = (plug1 f t).items := by
  unfold itf plug1
  cases f.left <;> rfl
theorem CX.join {h : AHeap} : ∀ {c : List (Frm Str)} {t : Rt Str}, At TS h (upOf c) t → CX h c t.items t.ptr → At TS h .nilp (plug c t)
  | [], t, ha, _ => ha
  | f :: c, t, ha, ⟨h1, h2, h3⟩ => by
    rw [itf_items] at h1 h3
    unfold plug
    refine CX.join (c := c) (t := plug1 f t) ?_ ?_
    · unfold plug1 at h1 ⊢
      cases hf : f.left with
      | true =>
        have e1 : lptr f t.ptr = t.ptr := by simp only [lptr, hf]
        have e2 : rptr' f t.ptr = f.sib.ptr := by simp only [rptr', hf]
        rw [hf] at h1
        simp only at h1 ⊢
        rw [e1, e2] at h1
        refine at_node.2 ⟨?_, ha, h2⟩
        rw [h1, Rt.items, List.length_append, List.length_cons]
        simp [nrow, Rt.tx]
        omega
      | false =>
        have e1 : lptr f t.ptr = f.sib.ptr := by simp only [lptr, hf]
        have e2 : rptr' f t.ptr = t.ptr := by simp only [rptr', hf]
        rw [hf] at h1
        simp only at h1 ⊢
        rw [e1, e2] at h1
        refine at_node.2 ⟨?_, h2, ha⟩
        rw [h1, Rt.items, List.length_append, List.length_cons]
        simp [nrow, Rt.tx]
        omega
    · have hp : (plug1 f t).ptr = .ptr f.o 0 := by unfold plug1; cases f.left <;> rfl
      rw [hp]; exact h3
theorem CX.split {h : AHeap} : ∀ {c : List (Frm Str)} {t : Rt Str}, At TS h .nilp (plug c t) → At TS h (upOf c) t ∧ CX h c t.items t.ptr
  | [], t, ha => ⟨ha, trivial⟩
  | f :: c, t, ha => by
    obtain ⟨h1, h2⟩ := CX.split (c := c) (t := plug1 f t) ha
    have hp : (plug1 f t).ptr = .ptr f.o 0 := by unfold plug1; cases f.left <;> rfl
    rw [hp] at h2
    rw [← itf_items] at h2
    unfold plug1 at h1
    cases hf : f.left with
    | true =>
      have e1 : lptr f t.ptr = t.ptr := by simp only [lptr, hf]
      have e2 : rptr' f t.ptr = f.sib.ptr := by simp only [rptr', hf]
      rw [hf] at h1
      obtain ⟨a1, a2, a3⟩ := at_node.1 h1
      refine ⟨a2, ?_, a3, h2⟩
      rw [e1, e2, a1, itf_items]
      unfold plug1
      rw [hf]
      simp [Rt.items, nrow, Rt.tx]
      omega
    | false =>
      have e1 : lptr f t.ptr = f.sib.ptr := by simp only [lptr, hf]
      have e2 : rptr' f t.ptr = t.ptr := by simp only [rptr', hf]
      rw [hf] at h1
      obtain ⟨a1, a2, a3⟩ := at_node.1 h1
      refine ⟨a3, ?_, a2, h2⟩
      rw [e1, e2, a1, itf_items]
      unfold plug1
      rw [hf]
      simp [Rt.items, nrow, Rt.tx]
      omega
end Go.Proofs.Ytbnlhhfobgjeaaa
