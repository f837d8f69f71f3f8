/-
  Trees of places in memory: what a rope is.
-/
import Derived.Test.YtbnlhhfobgjeaaaZzCrc
set_option linter.all false
namespace Go.Proofs.Ytbnlhhfobgjeaaa
open Go Go.RowKit

inductive Rt (α : Type) where
  | nil
  | node (o ht : Nat) (x : α) (l r : Rt α)
structure Frm (α : Type) where
  o : Nat
  ht : Nat
  x : α
  left : Bool
  sib : Rt α
/-- how things stand in memory -/
structure Sig (α : Type) where
  ic : α → List AVal
  sm : List α → List AVal

section
variable {α : Type}
def Rt.items : Rt α → List (Nat × α)
  | .nil => []
  | .node o _ x l r => l.items ++ (o, x) :: r.items
def Rt.ids (t : Rt α) : List Nat := t.items.map (·.1)
def Rt.ptr : Rt α → AVal
  | .nil => .nilp
  | .node o _ _ _ _ => .ptr o 0
def plug1 (f : Frm α) (t : Rt α) : Rt α := match f.left with
  | true => .node f.o f.ht f.x t f.sib
  | false => .node f.o f.ht f.x f.sib t
def plug : List (Frm α) → Rt α → Rt α
  | [], t => t
  | f :: c, t => plug c (plug1 f t)
def bef : List (Frm α) → List (Nat × α)
  | [] => []
  | f :: c => bef c ++ match f.left with
    | true => []
    | false => f.sib.items ++ [(f.o, f.x)]
def aft : List (Frm α) → List (Nat × α)
  | [] => []
  | f :: c => (match f.left with
    | true => (f.o, f.x) :: f.sib.items
    | false => []) ++ aft c
theorem plug_items : ∀ (c : List (Frm α)) (t : Rt α), (plug c t).items = bef c ++ t.items ++ aft c
  | [], t => by simp [plug, bef, aft]
  | f :: c, t => by
    rw [plug, plug_items c]
    unfold plug1
    cases h : f.left <;> simp [bef, aft, h, Rt.items]
theorem items_node (o ht : Nat) (x : α) (l r : Rt α) : (Rt.node o ht x l r).items = l.items ++ (o, x) :: r.items := rfl
theorem ids_node (o ht : Nat) (x : α) (l r : Rt α) : (Rt.node o ht x l r).ids = l.ids ++ o :: r.ids := by simp [Rt.ids, Rt.items]
theorem plug_ids (c : List (Frm α)) (t : Rt α) : (plug c t).ids = (bef c).map (·.1) ++ t.ids ++ (aft c).map (·.1) := by simp [Rt.ids, plug_items]
/-- the numbers of a way down, with all beside it -/
def cids (c : List (Frm α)) : List Nat := (bef c).map (·.1) ++ (aft c).map (·.1)
theorem cids_cons {f : Frm α} {c : List (Frm α)} {o : Nat} : o ∈ cids (f :: c) ↔ o = f.o ∨ o ∈ f.sib.ids ∨ o ∈ cids c := by
  unfold cids Rt.ids
  cases h : f.left <;> simp [bef, aft, h] <;> constructor <;> intro hh <;> (repeat' (rcases hh with hh | hh)) <;> simp_all
theorem plug_mem {c : List (Frm α)} {t : Rt α} {o : Nat} : o ∈ (plug c t).ids ↔ o ∈ t.ids ∨ o ∈ cids c := by
  rw [plug_ids]; unfold cids
  simp only [List.mem_append]
  constructor <;> intro h <;> (repeat' (rcases h with h | h)) <;> simp_all

/-- all numbers are apart -/
structure Apart (c : List (Frm α)) (t : Rt α) : Prop where
  nd : (plug c t).ids.Nodup

theorem nodup_mid {a b c : List Nat} (h : (a ++ b ++ c).Nodup) : b.Nodup ∧ ∀ o ∈ b, o ∉ a ∧ o ∉ c := by
  rw [List.nodup_append, List.nodup_append] at h
  obtain ⟨⟨h1, h2, h3⟩, h4, h5⟩ := h
  exact ⟨h2, fun o ho => ⟨fun ha => h3 o ha o ho rfl, fun hc => h5 o (List.mem_append.2 (.inr ho)) o hc rfl⟩⟩
theorem apart_tree {c : List (Frm α)} {t : Rt α} (h : (plug c t).ids.Nodup) : t.ids.Nodup ∧ ∀ o ∈ t.ids, o ∉ cids c := by
  rw [plug_ids] at h
  obtain ⟨h1, h2⟩ := nodup_mid h
  refine ⟨h1, fun o ho hc => ?_⟩
  unfold cids at hc
  rcases List.mem_append.1 hc with hc | hc
  · exact (h2 o ho).1 hc
  · exact (h2 o ho).2 hc
theorem apart_node {o ht : Nat} {x : α} {l r : Rt α} (h : (Rt.node o ht x l r).ids.Nodup) : l.ids.Nodup ∧ r.ids.Nodup ∧ o ∉ l.ids ∧ o ∉ r.ids ∧ ∀ q ∈ l.ids, q ∉ r.ids := by
  rw [ids_node, List.nodup_append, List.nodup_cons] at h
  obtain ⟨h1, ⟨h2, h3⟩, h4⟩ := h
  exact ⟨h1, h3, fun ho => h4 o ho o (by simp) rfl, h2, fun q hq hr => h4 q hq q (by simp [hr]) rfl⟩

/-! ### in memory -/
variable (S : Sig α)
def nobj (up l r : AVal) (ht sz : Nat) (x : α) (all : List AVal) : AObj := .row 0 false ([up, l, r, .int .u64 ht, .int .i64 sz] ++ S.ic x ++ all)
def Rt.sum (t : Rt α) : List AVal := S.sm (t.items.map (·.2))
def At (h : AHeap) : AVal → Rt α → Prop
  | _, .nil => True
  | up, .node o ht x l r => h.get o = some (nobj S up l.ptr r.ptr ht (l.items.length + 1 + r.items.length) x ((Rt.node o ht x l r).sum S)) ∧ At h (.ptr o 0) l ∧ At h (.ptr o 0) r
def upOf : List (Frm α) → AVal
  | [] => .nilp
  | f :: _ => .ptr f.o 0
def lptr (f : Frm α) (p : AVal) : AVal := match f.left with | true => p | false => f.sib.ptr
def rptr' (f : Frm α) (p : AVal) : AVal := match f.left with | true => f.sib.ptr | false => p
/-- a way up, whose sums may be stale -/
def CA (h : AHeap) : List (Frm α) → AVal → Prop
  | [], _ => True
  | f :: c, p => (∃ sz all, (∃ q : List α, all = S.sm q) ∧ h.get f.o = some (nobj S (upOf c) (lptr f p) (rptr' f p) f.ht sz f.x all)) ∧ At S h (.ptr f.o 0) f.sib ∧ CA h c (.ptr f.o 0)
/-- where the root's pointer goes -/
def rootOf : List (Frm α) → AVal → AVal
  | [], p => p
  | f :: c, _ => rootOf c (.ptr f.o 0)

variable {S}
theorem At.congr {h h' : AHeap} : ∀ {t : Rt α} {up : AVal}, (∀ o ∈ t.ids, h'.get o = h.get o) → At S h up t → At S h' up t
  | .nil, _, _, _ => trivial
  | .node o ht x l r, up, hg, ha => by
    obtain ⟨h1, h2, h3⟩ := ha
    rw [ids_node] at hg
    exact ⟨by rw [hg o (by simp)]; exact h1, At.congr (fun q hq => hg q (by simp [hq])) h2, At.congr (fun q hq => hg q (by simp [hq])) h3⟩
theorem CA.congr {h h' : AHeap} : ∀ {c : List (Frm α)} {p : AVal}, (∀ o ∈ cids c, h'.get o = h.get o) → CA S h c p → CA S h' c p
  | [], _, _, _ => trivial
  | f :: c, p, hg, ha => by
    obtain ⟨⟨sz, all, h0, h1⟩, h2, h3⟩ := ha
    exact ⟨⟨sz, all, h0, by rw [hg f.o (cids_cons.2 (.inl rfl))]; exact h1⟩, At.congr (fun q hq => hg q (cids_cons.2 (.inr (.inl hq)))) h2, CA.congr (fun q hq => hg q (cids_cons.2 (.inr (.inr hq)))) h3⟩
theorem plug_ptr : ∀ (c : List (Frm α)) (t : Rt α), (plug c t).ptr = rootOf c t.ptr
  | [], t => rfl
  | f :: c, t => by
    rw [plug, plug_ptr c, rootOf]
    unfold plug1
    cases f.left <;> rfl
/-- a whole tree, at a place in it -/
theorem At.split {h : AHeap} : ∀ {c : List (Frm α)} {t : Rt α}, At S h .nilp (plug c t) → At S h (upOf c) t ∧ CA S h c t.ptr
  | [], t, ha => ⟨ha, trivial⟩
  | f :: c, t, ha => by
    obtain ⟨h1, h2⟩ := At.split (c := c) ha
    unfold plug1 at h1 h2
    cases hf : f.left with
    | true =>
      rw [hf] at h1 h2
      obtain ⟨a1, a2, a3⟩ := h1
      have e1 : lptr f t.ptr = t.ptr := by simp only [lptr, hf]
      have e2 : rptr' f t.ptr = f.sib.ptr := by simp only [rptr', hf]
      refine ⟨a2, ⟨t.items.length + 1 + f.sib.items.length, (Rt.node f.o f.ht f.x t f.sib).sum S, ⟨_, rfl⟩, ?_⟩, a3, h2⟩
      rw [e1, e2]; exact a1
    | false =>
      rw [hf] at h1 h2
      obtain ⟨a1, a2, a3⟩ := h1
      have e1 : lptr f t.ptr = f.sib.ptr := by simp only [lptr, hf]
      have e2 : rptr' f t.ptr = t.ptr := by simp only [rptr', hf]
      refine ⟨a3, ⟨f.sib.items.length + 1 + t.items.length, (Rt.node f.o f.ht f.x f.sib t).sum S, ⟨_, rfl⟩, ?_⟩, a2, h2⟩
      rw [e1, e2]; exact a1
end
@[simp] theorem same_self (v : AVal) : sameRes (.ok v) v = true := AVal.beq_refl v
end Go.Proofs.Ytbnlhhfobgjeaaa
