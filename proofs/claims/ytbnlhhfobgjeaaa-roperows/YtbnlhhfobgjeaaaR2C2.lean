/-
  A part of the proof of RopeRows, over the seat Ytbnlhhfobgjeaaa: for every input the law returns true, and the input reads as it did.
-/
import Derived.Test.YtbnlhhfobgjeaaaR2C
set_option linter.all false
set_option maxRecDepth 100000
set_option maxHeartbeats 4000000
namespace Go.Proofs.Ytbnlhhfobgjeaaa
open Go Go.RowKit Go.Proofs
theorem cells_ptr (t : Rt Str) : cellsV t.ptr = .ok [t.ptr] := by cases t <;> rfl
theorem guard_ptr (t : Rt Str) : (match t.ptr, AVal.nilp with
              | .dead, x => false
              | x, .dead => false
              | .nili, .nili => true
              | .agg vs, .agg vs_1 => eqL 24
              | x, x_1 => true) = true := by cases t <;> rfl
theorem ptr_nil : (Rt.nil : Rt Str).ptr = .nilp := rfl
theorem ptr_node {o ht : Nat} {x : Str} {l r : Rt Str} : (Rt.node o ht x l r).ptr = .ptr o 0 := rfl
section
variable {ro : Nat → Option (List AVal)}
theorem fit_node2 {n p ht pht : Nat} {x px : Str} {C A B : Rt Str} (h : Fit (.node n ht x C (.node p pht px A B))) : Fit (.node p pht px A B) := by
  unfold Fit at *
  rw [tx_node, items_node] at h
  simp at h
  exact ⟨by omega, by omega⟩
theorem fit_node1 {n p ht pht : Nat} {x px : Str} {C A B : Rt Str} (h : Fit (.node n ht x (.node p pht px A B) C)) : Fit (.node p pht px A B) := by
  unfold Fit at *
  rw [tx_node, items_node] at h
  simp at h
  exact ⟨by omega, by omega⟩
theorem two37r {H : AHeap} {up : AVal} {p n pht ht psz nsz : Nat} {px x pall nall : Str} {A B C : Rt Str}
    (h1 : H.get p = some (nrow (.ptr n 0) A.ptr B.ptr pht psz px pall)) (h2 : H.get n = some (nrow up C.ptr (.ptr p 0) ht nsz x nall))
    (a1 : At TS H (.ptr p 0) A) (a2 : At TS H (.ptr p 0) B) (a3 : At TS H (.ptr n 0) C) (d1 : p ∉ A.ids) (d2 : p ∉ B.ids) (d3 : p ∉ C.ids) (d4 : n ≠ p) (d5 : n ∉ A.ids) (d6 : n ∉ B.ids) (d7 : n ∉ C.ids)
    (hfit : Fit (.node n ht x C (.node p pht px A B))) {Q : AVal → AHeap → Prop}
    (hq : ∀ h', At TS h' up (.node n ht x C (.node p pht px A B)) → (∀ o, o ≠ p → o ≠ n → h'.get o = H.get o) → h'.next = H.next → Q (.tuple []) h') :
    Ev (cfgR ro) 37 [.ptr p 0] H (fun v h2 => v = .tuple [] ∧ Ev (cfgR ro) 37 [.ptr n 0] h2 Q) := by
  have f1 := Fit.node (fit_node2 hfit)
  have f2 := Fit.node hfit
  refine renew37 h1 a1 a2 d1 d2 f1.1 f1.2 (fun h3 b1 b2 b3 => ⟨rfl, ?_⟩)
  have c0 : At TS h3 (.ptr n 0) (.node p pht px A B) := at_node.2 ⟨b1, At.congr (fun o ho => b2 o (fun e => d1 (by rw [← e]; exact ho))) a1, At.congr (fun o ho => b2 o (fun e => d2 (by rw [← e]; exact ho))) a2⟩
  have c1 : At TS h3 (.ptr n 0) C := At.congr (fun o ho => b2 o (fun e => d3 (by rw [← e]; exact ho))) a3
  have np : n ∉ (Rt.node p pht px A B).ids := by rw [ids_node]; simp [d4, d5, d6]
  have h2' : h3.get n = some (nrow up C.ptr (Rt.node p pht px A B).ptr ht nsz x nall) := by rw [b2 n d4, h2]; rfl
  refine renew37 h2' c1 c0 d7 np f2.1 f2.2 (fun h4 e1 e2 e3 => ?_)
  refine hq h4 (at_node.2 ⟨e1, At.congr (fun o ho => e2 o (fun e => d7 (by rw [← e]; exact ho))) c1, At.congr (fun o ho => e2 o (fun e => np (by rw [← e]; exact ho))) c0⟩) (fun o g1 g2 => by rw [e2 o g2, b2 o g1]) (by rw [e3, b3])
theorem two37l {H : AHeap} {up : AVal} {p n pht ht psz nsz : Nat} {px x pall nall : Str} {A B C : Rt Str}
    (h1 : H.get p = some (nrow (.ptr n 0) A.ptr B.ptr pht psz px pall)) (h2 : H.get n = some (nrow up (.ptr p 0) C.ptr ht nsz x nall))
    (a1 : At TS H (.ptr p 0) A) (a2 : At TS H (.ptr p 0) B) (a3 : At TS H (.ptr n 0) C) (d1 : p ∉ A.ids) (d2 : p ∉ B.ids) (d3 : p ∉ C.ids) (d4 : n ≠ p) (d5 : n ∉ A.ids) (d6 : n ∉ B.ids) (d7 : n ∉ C.ids)
    (hfit : Fit (.node n ht x (.node p pht px A B) C)) {Q : AVal → AHeap → Prop}
    (hq : ∀ h', At TS h' up (.node n ht x (.node p pht px A B) C) → (∀ o, o ≠ p → o ≠ n → h'.get o = H.get o) → h'.next = H.next → Q (.tuple []) h') :
    Ev (cfgR ro) 37 [.ptr p 0] H (fun v h2 => v = .tuple [] ∧ Ev (cfgR ro) 37 [.ptr n 0] h2 Q) := by
  have f1 := Fit.node (fit_node1 hfit)
  have f2 := Fit.node hfit
  refine renew37 h1 a1 a2 d1 d2 f1.1 f1.2 (fun h3 b1 b2 b3 => ⟨rfl, ?_⟩)
  have c0 : At TS h3 (.ptr n 0) (.node p pht px A B) := at_node.2 ⟨b1, At.congr (fun o ho => b2 o (fun e => d1 (by rw [← e]; exact ho))) a1, At.congr (fun o ho => b2 o (fun e => d2 (by rw [← e]; exact ho))) a2⟩
  have c1 : At TS h3 (.ptr n 0) C := At.congr (fun o ho => b2 o (fun e => d3 (by rw [← e]; exact ho))) a3
  have np : n ∉ (Rt.node p pht px A B).ids := by rw [ids_node]; simp [d4, d5, d6]
  have h2' : h3.get n = some (nrow up (Rt.node p pht px A B).ptr C.ptr ht nsz x nall) := by rw [b2 n d4, h2]; rfl
  refine renew37 h2' c0 c1 np d7 f2.1 f2.2 (fun h4 e1 e2 e3 => ?_)
  refine hq h4 (at_node.2 ⟨e1, At.congr (fun o ho => e2 o (fun e => np (by rw [← e]; exact ho))) c0, At.congr (fun o ho => e2 o (fun e => d7 (by rw [← e]; exact ho))) c1⟩) (fun o g1 g2 => by rw [e2 o g2, b2 o g1]) (by rw [e3, b3])
end
end Go.Proofs.Ytbnlhhfobgjeaaa
