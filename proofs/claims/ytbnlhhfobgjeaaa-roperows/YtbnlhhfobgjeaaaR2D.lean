/-
  A part of the proof of RopeRows, over the seat Ytbnlhhfobgjeaaa: for every input the law returns true, and the input reads as it did.
-/
import Derived.Test.YtbnlhhfobgjeaaaR2C2
set_option linter.all false
set_option maxRecDepth 100000
set_option maxHeartbeats 4000000
namespace Go.Proofs.Ytbnlhhfobgjeaaa
open Go Go.RowKit Go.Proofs
section
variable {ro : Nat → Option (List AVal)}
theorem turned_join {h : AHeap} {c : List (Frm Str)} {f : Frm Str} {n ht : Nat} {x : Str} {l r : Rt Str} (h1 : At TS h (upOf c) (turned f n ht x l r)) (h2 : CX h c (itf f (Rt.node n ht x l r).items) (.ptr n 0)) : At TS h .nilp (plug c (turned f n ht x l r)) ∧ (plug c (turned f n ht x l r)).ptr = rootOf c (.ptr n 0) := by
  have e : (turned f n ht x l r).ptr = .ptr n 0 := by unfold turned; cases f.left <;> rfl
  refine ⟨CX.join h1 ?_, by rw [plug_ptr, e]⟩
  rw [turned_items, ← itf_items, e]
  exact h2
theorem turned_fit {c : List (Frm Str)} {f : Frm Str} {n ht : Nat} {x : Str} {l r : Rt Str} (h : Fit (plug (f :: c) (.node n ht x l r))) : Fit (turned f n ht x l r) := by
  have h1 : Fit (plug1 f (.node n ht x l r)) := Fit.sub (c := c) h
  unfold Fit Rt.tx at *
  rw [turned_items]
  exact h1
theorem rise25 {h : AHeap} {c : List (Frm Str)} {f : Frm Str} {rr n ht : Nat} {s : Int} {x : Str} {l r : Rt Str}
    (hat : At TS h .nilp (plug (f :: c) (.node n ht x l r))) (hroot : h.get rr = some (rrow (plug (f :: c) (.node n ht x l r)).ptr s)) (F : RiseF c f rr n ht x l r)
    (hfit : Fit (plug (f :: c) (.node n ht x l r))) {Q : AVal → AHeap → Prop}
    (hq : ∀ h', At TS h' .nilp (plug c (turned f n ht x l r)) → h'.get rr = some (rrow (plug c (turned f n ht x l r)).ptr s) → (∀ o, o ≠ rr → o ∉ (plug (f :: c) (.node n ht x l r)).ids → h'.get o = h.get o) → h'.next = h.next → Q (.tuple []) h') :
    Ev (cfgR ro) 25 [.ptr rr 0, .ptr n 0] h Q := by
  refine Ev.wp rfl rfl Try.func25 rfl ?_
  obtain ⟨hn, hc⟩ := CX.split hat
  obtain ⟨n1, n2, n3⟩ := at_node.1 hn
  obtain ⟨p1, p2, p3⟩ := hc
  obtain ⟨J, hJ⟩ : ∃ J, J = itf f (Rt.node n ht x l r).items := ⟨_, rfl⟩
  obtain ⟨psz, hsz⟩ : ∃ sz, sz = J.length := ⟨_, rfl⟩
  obtain ⟨pall, hall⟩ : ∃ all, all = (J.map (·.2)).flatten := ⟨_, rfl⟩
  obtain ⟨nsz, hnsz⟩ : ∃ sz, sz = l.items.length + 1 + r.items.length := ⟨_, rfl⟩
  obtain ⟨nall, hnall⟩ : ∃ all, all = l.tx ++ x ++ r.tx := ⟨_, rfl⟩
  rw [← hJ, ← hsz, ← hall] at p1
  rw [← hJ] at p3
  rw [← hnsz, ← hnall] at n1
  rw [plug_ptr, rootOf] at hroot
  simp [Try.f25, n1, nrow, upOf]
  refine hang38 (n := n) (old := f.o) hroot p1 n1 p3 F.dnp F.dpc F.dnc F.rc F.rn F.rp F.ndc (fun h1 g1 g2 g3 g4 g5 => ?_)
  have q1 : h1.get f.o = some (nrow (upOf c) (lptr f (.ptr n 0)) (rptr' f (.ptr n 0)) f.ht psz f.x pall) := by rw [g4 _ (Ne.symm F.dnp) (Ne.symm F.rp) F.dpc]; exact p1
  have kl : At TS h1 (.ptr n 0) l := At.congr (fun o ho => g4 o (F.subl o ho).1 (F.subl o ho).2.2.2.2 (F.subl o ho).2.2.2.1) n2
  have kr : At TS h1 (.ptr n 0) r := At.congr (fun o ho => g4 o (F.subr o ho).1 (F.subr o ho).2.2.2 (F.subr o ho).2.2.1) n3
  have ks : At TS h1 (.ptr f.o 0) f.sib := At.congr (fun o ho => g4 o (F.sib o ho).1 (F.sib o ho).2.2.2.2.2 (F.sib o ho).2.2.2.2.1) p2
  have np := F.dnp
  have memp : ∀ o, o ∉ (plug (f :: c) (.node n ht x l r)).ids → o ≠ f.o ∧ o ≠ n ∧ o ∉ l.ids ∧ o ∉ r.ids ∧ o ∉ cids c := by
    intro o ho
    rw [plug_mem, ids_node, cids_cons] at ho
    simp at ho
    refine ⟨ho.2.1, ho.1.2.1, ho.1.1, ho.1.2.2, ho.2.2.2⟩
  have tf := turned_fit hfit
  have hsibp : f.o ∉ f.sib.ids := fun hm => (F.sib _ hm).2.2.2.1 rfl
  have hlp : f.o ∉ l.ids := fun hm => (F.subl _ hm).2.2.1 rfl
  have hrp : f.o ∉ r.ids := fun hm => (F.subr _ hm).2.1 rfl
  have hsn : n ∉ f.sib.ids := fun hm => (F.sib _ hm).1 rfl
  have fin : ∀ H h' : AHeap, (∀ o, o ≠ f.o → o ≠ n → o ∉ l.ids → o ∉ r.ids → H.get o = h1.get o) → H.next = h1.next → At TS h' (upOf c) (turned f n ht x l r) → (∀ o, o ≠ f.o → o ≠ n → h'.get o = H.get o) → h'.next = H.next → Q (.tuple []) h' := by
    intro H h' k1 k2 k3 k4 k5
    have g3' : CX h' c J (.ptr n 0) := CX.congr (fun o ho => by rw [k4 o (fun e => F.dpc (by rw [← e]; exact ho)) (fun e => F.dnc (by rw [← e]; exact ho)), k1 o (fun e => F.dpc (by rw [← e]; exact ho)) (fun e => F.dnc (by rw [← e]; exact ho)) (fun hm => (F.subl o hm).2.2.2.1 ho) (fun hm => (F.subr o hm).2.2.1 ho)]) g3
    obtain ⟨j1, j2⟩ := turned_join k3 (hJ ▸ g3')
    refine hq h' j1 ?_ (fun o a1 a2 => ?_) (by rw [k5, k2, g5])
    · rw [j2, k4 rr F.rp F.rn, k1 rr F.rp F.rn (fun hm => (F.subl _ hm).2.2.2.2 rfl) (fun hm => (F.subr _ hm).2.2.2 rfl), g2]
    · obtain ⟨b1, b2, b3, b4, b5⟩ := memp o a2
      rw [k4 o b1 b2, k1 o b1 b2 b3 b4, g4 o b2 a1 b5]
  cases hl : f.left with
  | true =>
    have e1 : lptr f (.ptr n 0) = .ptr n 0 := by simp only [lptr, hl]
    have e2 : rptr' f (.ptr n 0) = f.sib.ptr := by simp only [rptr', hl]
    have et : turned f n ht x l r = .node n ht x l (.node f.o f.ht f.x r f.sib) := by unfold turned; rw [hl]
    rw [et] at fin tf
    have go : ∀ H : AHeap, H.get f.o = some (nrow (.ptr n 0) r.ptr f.sib.ptr f.ht psz f.x pall) → H.get n = some (nrow (upOf c) l.ptr (.ptr f.o 0) ht nsz x nall) → At TS H (.ptr f.o 0) r → (∀ o, o ≠ f.o → o ≠ n → o ∉ r.ids → H.get o = h1.get o) → H.next = h1.next →
        Ev (cfgR ro) 37 [.ptr f.o 0] H (fun v h2 => v = .tuple [] ∧ Ev (cfgR ro) 37 [.ptr n 0] h2 (fun v h3 => v = .tuple [] ∧ Q (.tuple []) h3)) := by
      intro H b1 b2 b3 b4 b5
      refine two37r b1 b2 b3 (At.congr (fun o ho => b4 o (fun e => hsibp (by rw [← e]; exact ho)) (fun e => hsn (by rw [← e]; exact ho)) (F.sib o ho).2.2.1) ks) (At.congr (fun o ho => b4 o (fun e => hlp (by rw [← e]; exact ho)) (fun e => F.dl (by rw [← e]; exact ho)) (F.subl o ho).2.1) kl) hrp hsibp hlp np F.dr hsn F.dl tf (fun h' c1 c2 c3 => ⟨rfl, ?_⟩)
      exact fin H h' (fun o t1 t2 t3 t4 => b4 o t1 t2 t4) b5 c1 c2 c3
    rw [e1, e2, nrow] at q1
    rw [nrow] at g1
    cases r with
    | nil =>
      rw [ptr_nil] at g1
      simp -implicitDefEqProofs [q1, ptrEq_self, g1, get_set_ne (Ne.symm np), get_set_ne np]
      refine Ev.mono (go _ ?_ ?_ ?_ ?_ ?_) ?_
      · rw [get_set_self]; rfl
      · rw [get_set_ne (Ne.symm np), get_set_self, nrow]
      · trivial
      · intro o o1 o2 _
        rw [get_set_ne (Ne.symm o1), get_set_ne (Ne.symm o2), get_set_ne (Ne.symm o1)]
      · rfl
      · rintro v h2 ⟨rfl, q⟩
        simp -implicitDefEqProofs
        refine Ev.mono q ?_
        rintro v h3 ⟨rfl, q3⟩
        simp -implicitDefEqProofs
        exact q3
    | node m mt mx ml mr =>
      have km : m ∈ (Rt.node m mt mx ml mr).ids := by rw [ids_node]; simp
      obtain ⟨mn, mp, mc, mr'⟩ := F.subr m km
      obtain ⟨kr1, kr2, kr3⟩ := at_node.1 kr
      rw [nrow] at kr1
      rw [ptr_node] at g1
      simp -implicitDefEqProofs [q1, ptrEq_self, g1, kr1, get_set_ne (Ne.symm np), get_set_ne np, get_set_ne (Ne.symm mn), get_set_ne mn, get_set_ne (Ne.symm mp), get_set_ne mp]
      refine Ev.mono (go _ ?_ ?_ ?_ ?_ ?_) ?_
      · rw [get_set_self]; rfl
      · rw [get_set_ne (Ne.symm np), get_set_self, nrow]
      · refine At.reup kr F.ndr ?_ ?_
        · rw [get_set_ne (Ne.symm mp), get_set_ne (Ne.symm mn), get_set_self]; simp [nrow]
        · intro o ho om
          obtain ⟨on, op⟩ : o ≠ n ∧ o ≠ f.o := ⟨(F.subr o ho).1, (F.subr o ho).2.1⟩
          rw [get_set_ne (Ne.symm op), get_set_ne (Ne.symm on), get_set_ne (Ne.symm om), get_set_ne (Ne.symm op)]
      · intro o o1 o2 o3
        have om : o ≠ m := fun e => o3 (by rw [e]; exact km)
        rw [get_set_ne (Ne.symm o1), get_set_ne (Ne.symm o2), get_set_ne (Ne.symm om), get_set_ne (Ne.symm o1)]
      · rfl
      · rintro v h2 ⟨rfl, q⟩
        simp -implicitDefEqProofs
        refine Ev.mono q ?_
        rintro v h3 ⟨rfl, q3⟩
        simp -implicitDefEqProofs
        exact q3
  | false =>
    have e1 : lptr f (.ptr n 0) = f.sib.ptr := by simp only [lptr, hl]
    have e2 : rptr' f (.ptr n 0) = .ptr n 0 := by simp only [rptr', hl]
    have et : turned f n ht x l r = .node n ht x (.node f.o f.ht f.x f.sib l) r := by unfold turned; rw [hl]
    rw [et] at fin tf
    have go : ∀ H : AHeap, H.get f.o = some (nrow (.ptr n 0) f.sib.ptr l.ptr f.ht psz f.x pall) → H.get n = some (nrow (upOf c) (.ptr f.o 0) r.ptr ht nsz x nall) → At TS H (.ptr f.o 0) l → (∀ o, o ≠ f.o → o ≠ n → o ∉ l.ids → H.get o = h1.get o) → H.next = h1.next →
        Ev (cfgR ro) 37 [.ptr f.o 0] H (fun v h2 => v = .tuple [] ∧ Ev (cfgR ro) 37 [.ptr n 0] h2 (fun v h3 => v = .tuple [] ∧ Q (.tuple []) h3)) := by
      intro H b1 b2 b3 b4 b5
      refine two37l b1 b2 (At.congr (fun o ho => b4 o (fun e => hsibp (by rw [← e]; exact ho)) (fun e => hsn (by rw [← e]; exact ho)) (F.sib o ho).2.1) ks) b3 (At.congr (fun o ho => b4 o (fun e => hrp (by rw [← e]; exact ho)) (fun e => F.dr (by rw [← e]; exact ho)) (fun hm => (F.subl o hm).2.1 ho)) kr) hsibp hlp hrp np hsn F.dl F.dr tf (fun h' c1 c2 c3 => ⟨rfl, ?_⟩)
      exact fin H h' (fun o t1 t2 t3 t4 => b4 o t1 t2 t3) b5 c1 c2 c3
    rw [e1, e2, nrow] at q1
    rw [nrow] at g1
    have heq := eq_place (ro := ro) ks (fun hm => (F.sib n hm).1 rfl) g1
    cases l with
    | nil =>
      rw [ptr_nil] at g1
      simp -implicitDefEqProofs [q1, heq, guard_ptr, cells_ptr, ptrEq_self, g1, get_set_ne (Ne.symm np), get_set_ne np]
      refine ⟨by cases f.sib <;> simp [Rt.ptr], ?_⟩
      refine Ev.mono (go _ ?_ ?_ ?_ ?_ ?_) ?_
      · rw [get_set_self]; rfl
      · rw [get_set_ne (Ne.symm np), get_set_self, nrow]
      · trivial
      · intro o o1 o2 _
        rw [get_set_ne (Ne.symm o1), get_set_ne (Ne.symm o2), get_set_ne (Ne.symm o1)]
      · rfl
      · rintro v h2 ⟨rfl, q⟩
        simp -implicitDefEqProofs
        refine Ev.mono q ?_
        rintro v h3 ⟨rfl, q3⟩
        simp -implicitDefEqProofs
        exact q3
    | node m mt mx ml mr =>
      have km : m ∈ (Rt.node m mt mx ml mr).ids := by rw [ids_node]; simp
      obtain ⟨mn, _, mp, mc, mr'⟩ := F.subl m km
      obtain ⟨kr1, kr2, kr3⟩ := at_node.1 kl
      rw [nrow] at kr1
      rw [ptr_node] at g1
      simp -implicitDefEqProofs [q1, heq, guard_ptr, cells_ptr, ptrEq_self, g1, kr1, get_set_ne (Ne.symm np), get_set_ne np, get_set_ne (Ne.symm mn), get_set_ne mn, get_set_ne (Ne.symm mp), get_set_ne mp]
      refine ⟨by cases f.sib <;> simp [Rt.ptr], ?_⟩
      refine Ev.mono (go _ ?_ ?_ ?_ ?_ ?_) ?_
      · rw [get_set_self]; rfl
      · rw [get_set_ne (Ne.symm np), get_set_self, nrow]
      · refine At.reup kl F.ndl ?_ ?_
        · rw [get_set_ne (Ne.symm mp), get_set_ne (Ne.symm mn), get_set_self]; simp [nrow]
        · intro o ho om
          obtain ⟨on, op⟩ : o ≠ n ∧ o ≠ f.o := ⟨(F.subl o ho).1, (F.subl o ho).2.2.1⟩
          rw [get_set_ne (Ne.symm op), get_set_ne (Ne.symm on), get_set_ne (Ne.symm om), get_set_ne (Ne.symm op)]
      · intro o o1 o2 o3
        have om : o ≠ m := fun e => o3 (by rw [e]; exact km)
        rw [get_set_ne (Ne.symm o1), get_set_ne (Ne.symm o2), get_set_ne (Ne.symm om), get_set_ne (Ne.symm o1)]
      · rfl
      · rintro v h2 ⟨rfl, q⟩
        simp -implicitDefEqProofs
        refine Ev.mono q ?_
        rintro v h3 ⟨rfl, q3⟩
        simp -implicitDefEqProofs
        exact q3
end
end Go.Proofs.Ytbnlhhfobgjeaaa
