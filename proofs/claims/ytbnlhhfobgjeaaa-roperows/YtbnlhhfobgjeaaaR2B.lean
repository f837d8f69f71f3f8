/-
  A part of the proof of RopeRows, over the seat Ytbnlhhfobgjeaaa: for every input the law returns true, and the input reads as it did.
-/
import Derived.Test.YtbnlhhfobgjeaaaR2A2
set_option linter.all false
set_option maxRecDepth 100000
set_option maxHeartbeats 4000000
namespace Go.Proofs.Ytbnlhhfobgjeaaa
open Go Go.RowKit Go.Proofs

def rrow (p : AVal) (s : Int) : AObj := .row 0 false [p, .int .u64 s]
/-- the place above, if there is one -/
def topO : List (Frm Str) → List Nat
  | [] => []
  | f :: _ => [f.o]
/-- a pointer to a place, or nil -/
def PtrTo (h : AHeap) (q : AVal) : Prop := q = .nilp ∨ ∃ n u l r ht sz x all, q = .ptr n 0 ∧ h.get n = some (nrow u l r ht sz x all)
theorem At.ptrTo {h : AHeap} {up : AVal} {t : Rt Str} (ha : At TS h up t) : PtrTo h t.ptr := by
  cases t with
  | nil => exact .inl rfl
  | node o ht x l r => exact .inr ⟨o, _, _, _, _, _, _, _, rfl, (at_node.1 ha).1⟩
theorem ptrEq_ne {h : AHeap} {o f o' f' : Nat} {e e' : Nat} {vs vs' : List AVal} (hne : o ≠ o') (h1 : h.get o = some (.row e false vs)) (h2 : h.get o' = some (.row e' false vs')) : ptrEq h o f o' f' = .ok false := by
  unfold ptrEq; rw [if_neg hne, h1, h2]
theorem ptrEq_self {h : AHeap} {o f : Nat} : ptrEq h o f o f = .ok true := by unfold ptrEq; simp

section
variable {ro : Nat → Option (List AVal)}
/-- is a pointer that of a place? -/
theorem eq_place {h : AHeap} {t : Rt Str} {up : AVal} {o e : Nat} {vs : List AVal} (ha : At TS h up t) (ho : o ∉ t.ids) (hg : h.get o = some (.row e false vs)) : eqIn (cfgR ro) h 10000 24 t.ptr (.ptr o 0) = .ok false := by
  cases t with
  | nil => exact eq24_np h o 0
  | node q ht x l r =>
    have hq := (at_node.1 ha).1
    show eqIn (cfgR ro) h 10000 24 (.ptr q 0) (.ptr o 0) = _
    rw [eq24_pp]
    exact ptrEq_ne (fun e => ho (by rw [ids_node, e]; simp)) hq hg

theorem hang38 {h : AHeap} {c : List (Frm Str)} {rr n old : Nat} {s : Int} {nu nl nr ol or_ : AVal} {nht nsz oht osz : Nat} {nx nall ox oall : Str} {it : List (Nat × Str)}
    (hroot : h.get rr = some (rrow (rootOf c (.ptr old 0)) s)) (hold : h.get old = some (nrow (upOf c) ol or_ oht osz ox oall)) (hn : h.get n = some (nrow nu nl nr nht nsz nx nall)) (hc : CX h c it (.ptr old 0))
    (d1 : n ≠ old) (d2 : old ∉ cids c) (d3 : n ∉ cids c) (d4 : rr ∉ cids c) (d5 : rr ≠ n) (d6 : rr ≠ old) (d7 : (plug c (Rt.nil : Rt Str)).ids.Nodup) {Q : AVal → AHeap → Prop}
    (hq : ∀ h', h'.get n = some (nrow (upOf c) nl nr nht nsz nx nall) → h'.get rr = some (rrow (rootOf c (.ptr n 0)) s) → CX h' c it (.ptr n 0) → (∀ o, o ≠ n → o ≠ rr → o ∉ cids c → h'.get o = h.get o) → h'.next = h.next → Q (.tuple []) h') :
    Ev (cfgR ro) 38 [.ptr rr 0, .ptr old 0, .ptr n 0] h Q := by
  refine Ev.wp rfl rfl Try.func38 rfl ?_
  cases c with
  | nil =>
    simp only [upOf, rootOf] at *
    simp [Try.f38, hold, nrow, hn, d5, hroot, rrow, get_set_ne (Ne.symm d5)]
    refine hq _ ?_ ?_ trivial (fun o a b _ => ?_) rfl
    · rw [get_set_ne d5, get_set_self]; rfl
    · rw [get_set_self]; rfl
    · rw [get_set_ne (Ne.symm b), get_set_ne (Ne.symm a)]
  | cons f c =>
    simp only [upOf, rootOf] at *
    obtain ⟨h1, h2, h3⟩ := hc
    obtain ⟨J, hJ⟩ : ∃ J, J = itf f it := ⟨_, rfl⟩
    obtain ⟨sz, hsz⟩ : ∃ sz, sz = J.length := ⟨_, rfl⟩
    obtain ⟨all, hall⟩ : ∃ all, all = (J.map (·.2)).flatten := ⟨_, rfl⟩
    rw [← hJ, ← hsz, ← hall] at h1
    rw [← hJ] at h3
    have df : f.o ∈ cids (f :: c) := cids_cons.2 (.inl rfl)
    have n1 : n ≠ f.o := fun e => d3 (by rw [e]; exact df)
    have n2 : old ≠ f.o := fun e => d2 (by rw [e]; exact df)
    have n3 : rr ≠ f.o := fun e => d4 (by rw [e]; exact df)
    have hsibn : n ∉ f.sib.ids := fun hm => d3 (cids_cons.2 (.inr (.inl hm)))
    have hsibo : old ∉ f.sib.ids := fun hm => d2 (cids_cons.2 (.inr (.inl hm)))
    have hsibr : rr ∉ f.sib.ids := fun hm => d4 (cids_cons.2 (.inr (.inl hm)))
    have dd : f.o ∉ f.sib.ids ∧ f.o ∉ cids c := by
      rw [plug] at d7
      obtain ⟨q1, q2⟩ := apart_tree d7
      unfold plug1 at q1 q2
      cases hl : f.left with
      | true =>
        rw [hl] at q1 q2
        obtain ⟨_, _, _, q3, _⟩ := apart_node q1
        exact ⟨q3, q2 _ (by rw [ids_node]; simp)⟩
      | false =>
        rw [hl] at q1 q2
        obtain ⟨_, _, q3, _, _⟩ := apart_node q1
        exact ⟨q3, q2 _ (by rw [ids_node]; simp)⟩
    obtain ⟨hA, hhA⟩ : ∃ hA, hA = h.set n (nrow (.ptr f.o 0) nl nr nht nsz nx nall) := ⟨_, rfl⟩
    have gA : ∀ o, o ≠ n → hA.get o = h.get o := fun o ho => by rw [hhA, get_set_ne (Ne.symm ho)]
    have h1' := h1
    rw [← gA _ (Ne.symm n1)] at h1'
    have hold' := hold
    rw [← gA _ (Ne.symm d1)] at hold'
    have hsib' : At TS hA (.ptr f.o 0) f.sib := At.congr (fun o ho => gA o (fun e => hsibn (by rw [← e]; exact ho))) h2
    have fin : ∀ h', h'.get f.o = some (nrow (upOf c) (lptr f (.ptr n 0)) (rptr' f (.ptr n 0)) f.ht sz f.x all) → (∀ o, o ≠ f.o → h'.get o = hA.get o) → h'.next = h.next → Q (.tuple []) h' := by
      intro h' g1 g2 g3
      refine hq h' ?_ ?_ ⟨by rw [← hJ, ← hsz, ← hall, g1], ?_, hJ ▸ ?_⟩ (fun o a b hcd => ?_) g3
      · rw [g2 n n1, hhA, get_set_self]
      · rw [g2 rr n3, gA rr d5]; exact hroot
      · exact At.congr (fun o ho => by rw [g2 o (fun e => dd.1 (by rw [← e]; exact ho)), gA o (fun e => hsibn (by rw [← e]; exact ho))]) h2
      · exact CX.congr (fun o ho => by rw [g2 o (fun e => dd.2 (by rw [← e]; exact ho)), gA o (fun e => d3 (cids_cons.2 (.inr (.inr (by rw [← e]; exact ho)))))]) h3
      · rw [g2 o (fun e => hcd (by rw [e]; exact df)), gA o a]
    have hnA : hA.next = h.next := by rw [hhA]; rfl
    simp [Try.f38, hold, nrow, hn]
    simp only [nrow] at hhA
    rw [← hhA]
    cases hl : f.left with
    | true =>
      have e1 : lptr f (.ptr old 0) = .ptr old 0 := by simp only [lptr, hl]
      have e2 : rptr' f (.ptr old 0) = f.sib.ptr := by simp only [rptr', hl]
      rw [e1, e2, nrow] at h1'
      simp [h1', ptrEq_self]
      exact fin _ (by rw [get_set_self, lptr, rptr', hl]; rfl) (fun o ho => get_set_ne (Ne.symm ho)) hnA
    | false =>
      have e1 : lptr f (.ptr old 0) = f.sib.ptr := by simp only [lptr, hl]
      have e2 : rptr' f (.ptr old 0) = .ptr old 0 := by simp only [rptr', hl]
      rw [e1, e2, nrow] at h1'
      have heq := eq_place (ro := ro) hsib' hsibo hold'
      simp [h1', heq]
      refine ⟨by cases f.sib <;> simp [Rt.ptr], ?_⟩
      exact fin _ (by rw [get_set_self, lptr, rptr', hl]; rfl) (fun o ho => get_set_ne (Ne.symm ho)) hnA
end
end Go.Proofs.Ytbnlhhfobgjeaaa
