/-
  A part of the proof of RopeRows, over the seat Ytbnlhhfobgjeaaa: for every input the law returns true, and the input reads as it did.
-/
import Derived.Test.YtbnlhhfobgjeaaaR2E
set_option linter.all false
set_option maxRecDepth 100000
set_option maxHeartbeats 4000000
namespace Go.Proofs.Ytbnlhhfobgjeaaa
open Go Go.RowKit Go.Proofs
/-- a rope, in memory -/
structure Rp (h : AHeap) (rr : Nat) (t : Rt Str) : Prop where
  root : ∃ s, h.get rr = some (rrow t.ptr s)
  tree : At TS h .nilp t
  nd : t.ids.Nodup
  rt : rr ∉ t.ids
  lr : rr < h.next
  lt : ∀ o ∈ t.ids, o < h.next
theorem plug_append : ∀ (c1 c2 : List (Frm Str)) (t : Rt Str), plug (c1 ++ c2) t = plug c2 (plug c1 t)
  | [], _, _ => rfl
  | f :: c1, c2, t => plug_append c1 c2 (plug1 f t)
theorem bef_append : ∀ (c1 c2 : List (Frm Str)), bef (c1 ++ c2) = bef c2 ++ bef c1
  | [], c2 => by simp [bef]
  | f :: c1, c2 => by
    show bef (c1 ++ c2) ++ _ = bef c2 ++ (bef c1 ++ _)
    rw [bef_append c1 c2, List.append_assoc]
/-- the hole at the far left -/
theorem hole_left : ∀ (t : Rt Str), t ≠ .nil → ∃ f c, plug (f :: c) Rt.nil = t ∧ bef (f :: c) = [] ∧ f.left = true ∧ t.lm = .ptr f.o 0
  | .nil, h => (h rfl).elim
  | .node o ht x .nil r, _ => ⟨⟨o, ht, x, true, r⟩, [], rfl, rfl, rfl, rfl⟩
  | .node o ht x (.node o2 h2 x2 l2 r2) r, _ => by
    obtain ⟨f, c, h1, h2', h3, h4⟩ := hole_left (.node o2 h2 x2 l2 r2) (by simp)
    refine ⟨f, c ++ [⟨o, ht, x, true, r⟩], ?_, ?_, h3, h4⟩
    · rw [← List.cons_append, plug_append, h1]; rfl
    · rw [← List.cons_append, bef_append, h2']; rfl
/-- a place in a tree -/
theorem place : ∀ {t : Rt Str} {o : Nat} {x : Str} {L1 L2 : List (Nat × Str)}, t.items = L1 ++ (o, x) :: L2 → t.ids.Nodup → ∃ c ht l r, t = plug c (.node o ht x l r) ∧ bef c ++ l.items = L1 := by
  intro t
  induction t with
  | nil => intro o x L1 L2 h _; cases L1 <;> cases h
  | node q ht y l r ihl ihr =>
    intro o x L1 L2 h hnd
    rw [items_node] at h
    rw [List.append_eq_append_iff] at h
    obtain ⟨ndl, ndr, _, _, _⟩ := apart_node hnd
    rcases h with ⟨us, h1, h2⟩ | ⟨bs, h1, h2⟩
    · cases us with
      | nil =>
        cases h2
        exact ⟨[], ht, l, r, rfl, by simpa [bef] using h1.symm⟩
      | cons a us =>
        simp only [List.cons_append, List.cons.injEq] at h2
        obtain ⟨rfl, h2⟩ := h2
        obtain ⟨c, ht', l', r', e1, e2⟩ := ihr h2 ndr
        refine ⟨c ++ [⟨q, ht, y, false, l⟩], ht', l', r', ?_, ?_⟩
        · rw [plug_append, ← e1]; rfl
        · rw [bef_append, List.append_assoc, e2, h1]
          show ([] ++ (l.items ++ [(q, y)])) ++ us = _
          simp
    · cases bs with
      | nil =>
        cases h2
        exact ⟨[], ht, l, r, rfl, by simpa [bef] using h1⟩
      | cons b bs =>
        simp only [List.cons_append, List.cons.injEq] at h2
        obtain ⟨rfl, h2⟩ := h2
        obtain ⟨c, ht', l', r', e1, e2⟩ := ihl h1 ndl
        refine ⟨c ++ [⟨q, ht, y, true, r⟩], ht', l', r', ?_, ?_⟩
        · rw [plug_append, ← e1]; rfl
        · rw [bef_append, List.append_assoc, e2]; rfl
section
variable {ro : Nat → Option (List AVal)}
theorem first8 {h : AHeap} {rr : Nat} {s : Int} {t : Rt Str} (hr : h.get rr = some (rrow t.ptr s)) (ha : At TS h .nilp t) {Q : AVal → AHeap → Prop} (hq : Q t.lm h) : Ev (cfgR ro) 8 [.ptr rr 0] h Q := by
  refine Ev.wp rfl rfl Try.func8 rfl ?_
  rw [rrow] at hr
  simp -implicitDefEqProofs [Try.f8, hr]
  refine leftmost23 ha ?_
  simp -implicitDefEqProofs
  exact hq
/-- a new place hung into a hole -/
theorem hung {h h' : AHeap} {f : Frm Str} {c : List (Frm Str)} {n v : Nat} {x : Str} {u l r : AVal} {ht sz : Nat} {mx mall : Str}
    (ha : At TS h .nilp (plug (f :: c) Rt.nil)) (hnd : (plug (f :: c) (Rt.nil : Rt Str)).ids.Nodup) (hn : n ∉ (plug (f :: c) (Rt.nil : Rt Str)).ids) (hm : h.get f.o = some (nrow u l r ht sz mx mall))
    (g1 : h'.get n = some (nrow (.ptr f.o 0) .nilp .nilp v 0 x [])) (g2 : h'.get f.o = some (nrow u (if f.left then .ptr n 0 else l) (if f.left then r else .ptr n 0) ht sz mx mall)) (g3 : ∀ o, o ≠ n → o ≠ f.o → h'.get o = h.get o) : Stl h' (f :: c) n v x .nil .nil := by
  obtain ⟨_, ⟨sz', all, ⟨q, hq0⟩, p1⟩, p2, p3⟩ := At.split (t := Rt.nil) ha
  have hall : all = [.str q.flatten] := hq0
  rw [hall, nobj_row, hm] at p1
  have hnd' : (plug c (plug1 f (Rt.nil : Rt Str))).ids.Nodup := hnd
  obtain ⟨nd1, nd2⟩ := apart_tree hnd'
  have hfs : f.o ∉ f.sib.ids := by
    intro hm
    unfold plug1 at nd1
    cases hl : f.left with
    | true => rw [hl] at nd1; exact (apart_node nd1).2.2.2.1 hm
    | false => rw [hl] at nd1; exact (apart_node nd1).2.2.1 hm
  have hfc : f.o ∉ cids c := nd2 _ (plug1_mem.2 (.inl rfl))
  have hn' : n ∉ cids (f :: c) := fun hm => hn (plug_mem.2 (.inr hm))
  refine ⟨⟨0, [], g1⟩, trivial, trivial, ⟨sz', all, ⟨q, hq0⟩, ?_⟩, ?_, ?_⟩
  · rw [hall, nobj_row, g2]
    simp only [nrow, Option.some.injEq, AObj.row.injEq, List.cons.injEq, true_and, and_true] at p1 ⊢
    obtain ⟨q1, q2, q3, q4, q5, q6, q7⟩ := p1
    refine ⟨q1, ?_, ?_, q4, q5, q6, q7⟩
    · unfold lptr at q2 ⊢; cases hl : f.left <;> simp [hl] at q2 ⊢; exact q2
    · unfold rptr' at q3 ⊢; cases hl : f.left <;> simp [hl] at q3 ⊢; exact q3
  · exact At.congr (fun o ho => g3 o (fun e => hn' (cids_cons.2 (.inr (.inl (by rw [← e]; exact ho))))) (fun e => hfs (by rw [← e]; exact ho))) p2
  · exact CA.congr (fun o ho => g3 o (fun e => hn' (cids_cons.2 (.inr (.inr (by rw [← e]; exact ho))))) (fun e => hfc (by rw [← e]; exact ho))) p3
end
end Go.Proofs.Ytbnlhhfobgjeaaa
