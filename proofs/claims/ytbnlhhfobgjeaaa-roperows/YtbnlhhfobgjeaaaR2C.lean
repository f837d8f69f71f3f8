/-
  A part of the proof of RopeRows, over the seat Ytbnlhhfobgjeaaa: for every input the law returns true, and the input reads as it did.
-/
import Derived.Test.YtbnlhhfobgjeaaaR2B
set_option linter.all false
set_option maxRecDepth 100000
set_option maxHeartbeats 4000000
namespace Go.Proofs.Ytbnlhhfobgjeaaa
open Go Go.RowKit Go.Proofs

/-- the tree behind a turn -/
def turned (f : Frm Str) (n ht : Nat) (x : Str) (l r : Rt Str) : Rt Str := match f.left with
  | true => .node n ht x l (.node f.o f.ht f.x r f.sib)
  | false => .node n ht x (.node f.o f.ht f.x f.sib l) r
theorem plug1_mem {f : Frm Str} {t : Rt Str} {o : Nat} : o ∈ (plug1 f t).ids ↔ o = f.o ∨ o ∈ f.sib.ids ∨ o ∈ t.ids := by
  have h := plug_mem (c := [f]) (t := t) (o := o)
  rw [cids_cons] at h
  have h0 : cids ([] : List (Frm Str)) = [] := rfl
  rw [h0] at h
  have h1 : plug [f] t = plug1 f t := rfl
  rw [h1] at h
  rw [h]
  constructor
  · rintro (h | h | h | h)
    · exact .inr (.inr h)
    · exact .inl h
    · exact .inr (.inl h)
    · cases h
  · rintro (h | h | h)
    · exact .inr (.inl h)
    · exact .inr (.inr (.inl h))
    · exact .inl h
theorem turned_items (f : Frm Str) (n ht : Nat) (x : Str) (l r : Rt Str) : (turned f n ht x l r).items = (plug1 f (.node n ht x l r)).items := by
  unfold turned plug1
  cases f.left <;> simp [Rt.items]
theorem plug_nd {c : List (Frm Str)} {t : Rt Str} (h : (plug c t).ids.Nodup) : (plug c (Rt.nil : Rt Str)).ids.Nodup := by
  rw [plug_ids] at h ⊢
  refine h.sublist ?_
  refine List.Sublist.append (List.Sublist.append (List.Sublist.refl _) ?_) (List.Sublist.refl _)
  exact List.nil_sublist _
theorem plug_items_congr {c : List (Frm Str)} {t u : Rt Str} (h : t.items = u.items) : (plug c t).items = (plug c u).items := by rw [plug_items, plug_items, h]

theorem At.reup {h h' : AHeap} {up up' : AVal} {m mt : Nat} {x : Str} {l r : Rt Str} (ha : At TS h up (.node m mt x l r)) (hnd : (Rt.node m mt x l r).ids.Nodup)
    (h1 : h'.get m = some (nrow up' l.ptr r.ptr mt (l.items.length + 1 + r.items.length) x (l.tx ++ x ++ r.tx))) (h2 : ∀ o ∈ (Rt.node m mt x l r).ids, o ≠ m → h'.get o = h.get o) : At TS h' up' (.node m mt x l r) := by
  obtain ⟨a1, a2, a3⟩ := at_node.1 ha
  obtain ⟨_, _, b1, b2, _⟩ := apart_node hnd
  exact at_node.2 ⟨h1, At.congr (fun o ho => h2 o (by rw [ids_node]; simp [ho]) (fun e => b1 (by rw [← e]; exact ho))) a2, At.congr (fun o ho => h2 o (by rw [ids_node]; simp [ho]) (fun e => b2 (by rw [← e]; exact ho))) a3⟩


structure RiseF (c : List (Frm Str)) (f : Frm Str) (rr n ht : Nat) (x : Str) (l r : Rt Str) : Prop where
  ndl : l.ids.Nodup
  ndr : r.ids.Nodup
  dl : n ∉ l.ids
  dr : n ∉ r.ids
  ndc : (plug c (Rt.nil : Rt Str)).ids.Nodup
  dnp : n ≠ f.o
  dpc : f.o ∉ cids c
  dnc : n ∉ cids c
  rc : rr ∉ cids c
  rn : rr ≠ n
  rp : rr ≠ f.o
  sib : ∀ o ∈ f.sib.ids, o ≠ n ∧ o ∉ l.ids ∧ o ∉ r.ids ∧ o ≠ f.o ∧ o ∉ cids c ∧ o ≠ rr
  subl : ∀ o ∈ l.ids, o ≠ n ∧ o ∉ r.ids ∧ o ≠ f.o ∧ o ∉ cids c ∧ o ≠ rr
  subr : ∀ o ∈ r.ids, o ≠ n ∧ o ≠ f.o ∧ o ∉ cids c ∧ o ≠ rr

theorem riseF {c : List (Frm Str)} {f : Frm Str} {rr n ht : Nat} {x : Str} {l r : Rt Str} (hnd : (plug (f :: c) (.node n ht x l r)).ids.Nodup) (hrr : rr ∉ (plug (f :: c) (.node n ht x l r)).ids) : RiseF c f rr n ht x l r := by
  obtain ⟨nd1, nd2⟩ := apart_tree hnd
  obtain ⟨ndl, ndr, dl, dr, dlr⟩ := apart_node nd1
  have hnd' : (plug c (plug1 f (.node n ht x l r))).ids.Nodup := hnd
  obtain ⟨ndp, ndp2⟩ := apart_tree hnd'
  have mem : ∀ o, o ∈ (plug1 f (.node n ht x l r)).ids ↔ o = f.o ∨ o ∈ f.sib.ids ∨ o ∈ (Rt.node n ht x l r).ids := fun o => plug1_mem
  have hmemn : n ∈ (Rt.node n ht x l r).ids := by rw [ids_node]; simp
  have inl : ∀ o ∈ l.ids, o ∈ (Rt.node n ht x l r).ids := fun o ho => by rw [ids_node]; simp [ho]
  have inr : ∀ o ∈ r.ids, o ∈ (Rt.node n ht x l r).ids := fun o ho => by rw [ids_node]; simp [ho]
  have fo : f.o ∈ cids (f :: c) := cids_cons.2 (.inl rfl)
  have fs : ∀ o ∈ f.sib.ids, o ∈ cids (f :: c) := fun o ho => cids_cons.2 (.inr (.inl ho))
  have fc : ∀ o ∈ cids c, o ∈ cids (f :: c) := fun o ho => cids_cons.2 (.inr (.inr ho))
  rw [plug_mem] at hrr
  have r1 : ∀ o ∈ (Rt.node n ht x l r).ids, o ≠ rr := fun o ho e => hrr (.inl (by rw [← e]; exact ho))
  have r2 : ∀ o ∈ cids (f :: c), o ≠ rr := fun o ho e => hrr (.inr (by rw [← e]; exact ho))
  have sf : f.o ∉ f.sib.ids := by
    intro hm
    unfold plug1 at ndp
    cases hl : f.left with
    | true => rw [hl] at ndp; exact (apart_node ndp).2.2.2.1 hm
    | false => rw [hl] at ndp; exact (apart_node ndp).2.2.1 hm
  exact {
    ndl := ndl, ndr := ndr, dl := dl, dr := dr, ndc := plug_nd hnd'
    dnp := fun e => nd2 n hmemn (by rw [e]; exact fo)
    dpc := ndp2 _ ((mem _).2 (.inl rfl))
    dnc := ndp2 _ ((mem _).2 (.inr (.inr hmemn)))
    rc := fun h => r2 _ (fc _ h) rfl
    rn := fun e => r1 n hmemn e.symm
    rp := fun e => r2 _ fo e.symm
    sib := fun o ho => ⟨fun e => nd2 n hmemn (by rw [← e]; exact fs o ho), fun h => nd2 o (inl o h) (fs o ho), fun h => nd2 o (inr o h) (fs o ho), fun e => sf (by rw [← e]; exact ho), ndp2 _ ((mem _).2 (.inr (.inl ho))), r2 _ (fs o ho)⟩
    subl := fun o ho => ⟨fun e => dl (by rw [← e]; exact ho), dlr o ho, fun e => nd2 o (inl o ho) (by rw [e]; exact fo), ndp2 _ ((mem _).2 (.inr (.inr (inl o ho)))), r1 _ (inl o ho)⟩
    subr := fun o ho => ⟨fun e => dr (by rw [← e]; exact ho), fun e => nd2 o (inr o ho) (by rw [e]; exact fo), ndp2 _ ((mem _).2 (.inr (.inr (inr o ho)))), r1 _ (inr o ho)⟩ }
end Go.Proofs.Ytbnlhhfobgjeaaa
