/-
  How a state of the abstract machine stands to a world of the model.
-/
import Derived.Test.YtbnlhhfobgjeaaaZzDef
import Derived.Laws.Sem
import Derived.Laws.Cells
import Derived.Laws.Tables
import Derived.Laws.Entries
set_option linter.all false
namespace Go.Proofs.Ytbnlhhfobgjeaaa
open Go Go.RowKit

/-- where an object lies: its block, its first cell there, how many cells from there on, and the size of its elements -/
structure Ent where
  blk : Nat
  base : Nat
  K : Nat
  esz : Nat

abbrev Inj := Nat → Option Ent
abbrev RoMap := Nat → Option (Nat × Nat)

def oneC : Value → Bool
  | .agg _ | .tuple _ => false
  | _ => true

theorem oneC_eq (v : Value) : v.oneCell' = oneC v := by cases v <;> rfl

mutual
def VRel (ι : Inj) (ρ : RoMap) : AVal → Value → Prop
  | .dead, _ => True
  | .cell _, _ => False
  | .loc _ _, _ => False
  | .bool b, v => v = .bool b
  | .int k n, v => v = .int k n
  | .float k b, v => v = .float k b
  | .cplx k a b, v => v = .complex k a b
  | .str s, v => v = .string ⟨s.toArray⟩
  | .nilp, v => v = .pointer none
  | .ptr o off, v => ∃ e, ι o = some e ∧ v = .pointer (some ⟨e.blk, e.base + off, none⟩)
  | .rptr r off, v => ∃ e, ρ r = some e ∧ v = .pointer (some ⟨e.1, e.2 + off, none⟩)
  | .nils, v => v = .slice none 0 0
  | .sl o off len, v => ∃ e x cap, ι o = some e ∧ v = .slice (some ⟨e.blk, x, none⟩) len cap ∧ cap * e.esz + off = e.K ∧ len ≤ cap ∧ (x = e.base + off ∨ cap = 0)
  | .slc o off len cap, v => ∃ e x, ι o = some e ∧ v = .slice (some ⟨e.blk, x, none⟩) len cap ∧ len ≤ cap ∧ (x = e.base + off ∨ cap = 0)
  | .rsl r off len, v => ∃ e x cap, ρ r = some e ∧ v = .slice (some ⟨e.1, x, none⟩) len cap ∧ len ≤ cap ∧ (x = e.2 + off ∨ len = 0)
  | .nilm, v => v = .map none
  | .map o, v => ∃ e, ι o = some e ∧ v = .map (some e.blk)
  | .func f a b, v => ∃ a' b', v = .func (.func f) a' b' ∧ VRels ι ρ a a'.toList ∧ VRels ι ρ b b'.toList
  | .nilf, v => v = .nilFunc
  | .iface t x, v => ∃ y, v = .iface t y ∧ VRel ι ρ x y
  | .nili, v => v = .nilIface
  | .agg l, v => ∃ a, v = .agg a ∧ VRels ι ρ l a.toList ∧ ∀ x ∈ a.toList, oneC x = true
  | .tuple l, v => ∃ a, v = .tuple a ∧ VRels ι ρ l a.toList
def VRels (ι : Inj) (ρ : RoMap) : List AVal → List Value → Prop
  | [], l => l = []
  | a :: as, l => ∃ v vs, l = v :: vs ∧ VRel ι ρ a v ∧ VRels ι ρ as vs
end

def Sub (ι ι' : Inj) : Prop := ∀ o e, ι o = some e → ι' o = some e

theorem Sub.refl (ι : Inj) : Sub ι ι := fun _ _ h => h
theorem Sub.trans {a b c : Inj} (h : Sub a b) (k : Sub b c) : Sub a c := fun o e x => k o e (h o e x)

mutual
theorem VRel.mono {ι ι' : Inj} {ρ : RoMap} (hs : Sub ι ι') : ∀ (a : AVal) (v : Value), VRel ι ρ a v → VRel ι' ρ a v
  | .dead, _, _ => by simp [VRel]
  | .cell _, _, h => by simp [VRel] at h
  | .loc _ _, _, h => by simp [VRel] at h
  | .bool _, _, h => by simpa [VRel] using h
  | .int _ _, _, h => by simpa [VRel] using h
  | .float _ _, _, h => by simpa [VRel] using h
  | .cplx _ _ _, _, h => by simpa [VRel] using h
  | .str _, _, h => by simpa [VRel] using h
  | .nilp, _, h => by simpa [VRel] using h
  | .ptr _ _, _, h => by obtain ⟨e, he, r⟩ := h; exact ⟨e, hs _ _ he, r⟩
  | .rptr _ _, _, h => h
  | .nils, _, h => by simpa [VRel] using h
  | .sl _ _ _, _, h => by obtain ⟨e, x, cap, he, r⟩ := h; exact ⟨e, x, cap, hs _ _ he, r⟩
  | .slc _ _ _ _, _, h => by obtain ⟨e, x, he, r⟩ := h; exact ⟨e, x, hs _ _ he, r⟩
  | .rsl _ _ _, _, h => h
  | .nilm, _, h => by simpa [VRel] using h
  | .map _, _, h => by obtain ⟨e, he, r⟩ := h; exact ⟨e, hs _ _ he, r⟩
  | .func _ a b, _, h => by obtain ⟨a', b', r, h1, h2⟩ := h; exact ⟨a', b', r, VRels.mono hs a _ h1, VRels.mono hs b _ h2⟩
  | .nilf, _, h => by simpa [VRel] using h
  | .iface _ x, _, h => by obtain ⟨y, r, h1⟩ := h; exact ⟨y, r, VRel.mono hs x _ h1⟩
  | .nili, _, h => by simpa [VRel] using h
  | .agg l, _, h => by obtain ⟨a, r, h1, h2⟩ := h; exact ⟨a, r, VRels.mono hs l _ h1, h2⟩
  | .tuple l, _, h => by obtain ⟨a, r, h1⟩ := h; exact ⟨a, r, VRels.mono hs l _ h1⟩
theorem VRels.mono {ι ι' : Inj} {ρ : RoMap} (hs : Sub ι ι') : ∀ (l : List AVal) (vs : List Value), VRels ι ρ l vs → VRels ι' ρ l vs
  | [], _, h => h
  | a :: as, _, h => by obtain ⟨v, vs, r, h1, h2⟩ := h; exact ⟨v, vs, r, VRel.mono hs a v h1, VRels.mono hs as vs h2⟩
end

/-! ### lists of values -/
theorem VRels.length {ι : Inj} {ρ : RoMap} : ∀ {l : List AVal} {vs : List Value}, VRels ι ρ l vs → l.length = vs.length
  | [], _, h => by simp [VRels] at h; simp [h]
  | _ :: as, _, h => by obtain ⟨v, vs, rfl, _, h2⟩ := h; simp [VRels.length h2]

theorem VRels.get {ι : Inj} {ρ : RoMap} : ∀ {l : List AVal} {vs : List Value}, VRels ι ρ l vs → ∀ {j : Nat} {a : AVal}, l[j]? = some a → ∃ v, vs[j]? = some v ∧ VRel ι ρ a v
  | [], _, _, j, a, h => by simp at h
  | b :: as, _, h, j, a, hj => by
    obtain ⟨v, vs, rfl, h1, h2⟩ := h
    cases j with
    | zero => simp at hj; subst hj; exact ⟨v, by simp, h1⟩
    | succ j => simp at hj; obtain ⟨u, hu, hr⟩ := h2.get hj; exact ⟨u, by simpa using hu, hr⟩

theorem VRels.of_get {ι : Inj} {ρ : RoMap} : ∀ {l : List AVal} {vs : List Value}, l.length = vs.length → (∀ (j : Nat) (a : AVal), l[j]? = some a → ∃ v, vs[j]? = some v ∧ VRel ι ρ a v) → VRels ι ρ l vs
  | [], vs, hl, _ => by simp at hl; simp [VRels]; exact List.eq_nil_of_length_eq_zero hl.symm
  | a :: as, [], hl, _ => by simp at hl
  | a :: as, v :: vs, hl, h => by
    refine ⟨v, vs, rfl, ?_, VRels.of_get (by simpa using hl) ?_⟩
    · obtain ⟨u, hu, hr⟩ := h 0 a rfl; simp at hu; subst hu; exact hr
    · intro j b hb; obtain ⟨u, hu, hr⟩ := h (j + 1) b (by simpa using hb); exact ⟨u, by simpa using hu, hr⟩

theorem VRels.append {ι : Inj} {ρ : RoMap} : ∀ {l m : List AVal} {vs ws : List Value}, VRels ι ρ l vs → VRels ι ρ m ws → VRels ι ρ (l ++ m) (vs ++ ws)
  | [], m, _, ws, h, k => by simp [VRels] at h; subst h; simpa using k
  | a :: as, m, _, ws, h, k => by obtain ⟨v, vs, rfl, h1, h2⟩ := h; exact ⟨v, vs ++ ws, rfl, h1, h2.append k⟩

theorem VRels.take {ι : Inj} {ρ : RoMap} {l : List AVal} {vs : List Value} (h : VRels ι ρ l vs) (n : Nat) : VRels ι ρ (l.take n) (vs.take n) := by
  refine VRels.of_get (by simp [h.length]) fun j a hj => ?_
  rw [List.getElem?_take] at hj ⊢
  split at hj
  · rename_i hlt; simp only [hlt, if_true]; exact h.get hj
  · simp at hj

theorem VRels.drop {ι : Inj} {ρ : RoMap} {l : List AVal} {vs : List Value} (h : VRels ι ρ l vs) (n : Nat) : VRels ι ρ (l.drop n) (vs.drop n) := by
  refine VRels.of_get (by simp [h.length]) fun j a hj => ?_
  rw [List.getElem?_drop] at hj ⊢
  exact h.get hj

/-- what may stand in one cell is one cell -/
theorem VRel.one {ι : Inj} {ρ : RoMap} {a : AVal} {v : Value} (h : VRel ι ρ a v) (hc : a.isCell = true) : oneC v = true := by
  cases a <;> simp [AVal.isCell] at hc <;> simp only [VRel] at h
  all_goals first
    | (subst h; rfl)
    | (obtain ⟨_, _, rfl⟩ := h; rfl)
    | (obtain ⟨_, _, _, _, rfl, _⟩ := h; rfl)
    | (obtain ⟨_, _, _, rfl, _⟩ := h; rfl)
    | (obtain ⟨_, _, rfl, _⟩ := h; rfl)
    | (obtain ⟨_, rfl, _⟩ := h; rfl)

theorem VRel.cells {ι : Inj} {ρ : RoMap} {a : AVal} {v : Value} {cs : List AVal} (h : VRel ι ρ a v) (hc : cellsV a = .ok cs) :
    VRels ι ρ cs v.cells.toList ∧ ∀ x ∈ v.cells.toList, oneC x = true := by
  by_cases ha : ∃ l, a = .agg l
  · obtain ⟨l, rfl⟩ := ha
    simp [cellsV] at hc; subst hc
    obtain ⟨b, rfl, h1, h2⟩ := h
    exact ⟨h1, h2⟩
  · have hcell : a.isCell = true ∧ cs = [a] := by
      cases a <;> simp_all [cellsV, AVal.isCell]
    obtain ⟨hcell, rfl⟩ := hcell
    have ho := h.one hcell
    have hv : v.cells = #[v] := by cases v <;> simp_all [Value.cells, oneC]
    rw [hv]
    exact ⟨⟨v, [], rfl, h, rfl⟩, by simp [ho]⟩

/-! ### slots -/
theorem nth_eq (l : List AVal) (n : Nat) : nth l n = l[n]?.getD .dead := by
  induction l generalizing n with
  | nil => simp [nth]
  | cons a l ih => cases n <;> simp [nth, ih]

theorem setN_eq (l : List AVal) (n : Nat) (v : AVal) : setN l n v = l.set n v := by
  induction l generalizing n with
  | nil => simp [setN]
  | cons a l ih => cases n <;> simp [setN, ih]

theorem nth_setN (l : List AVal) (n m : Nat) (v : AVal) : nth (setN l n v) m = if n = m ∧ n < l.length then v else nth l m := by
  rw [nth_eq, nth_eq, setN_eq, List.getElem?_set]
  by_cases h : n = m
  · subst h
    by_cases h2 : n < l.length <;> simp [h2]
  · simp [h]

theorem length_setN (l : List AVal) (n : Nat) (v : AVal) : (setN l n v).length = l.length := by rw [setN_eq]; simp

theorem length_clearAll (ns : List Nat) (l : List AVal) : (clearAll ns l).length = l.length := by
  induction ns generalizing l with
  | nil => rfl
  | cons n ns ih => simp [clearAll, ih, length_setN]

theorem nth_clearAll (ns : List Nat) (l : List AVal) (m : Nat) : nth (clearAll ns l) m = .dead ∨ (nth (clearAll ns l) m = nth l m ∧ m ∉ ns) := by
  induction ns generalizing l with
  | nil => right; simp [clearAll]
  | cons n ns ih =>
    simp only [clearAll]
    rcases ih (setN l n .dead) with h | ⟨h, hm⟩
    · exact .inl h
    · rw [nth_setN] at h
      split at h
      · exact .inl h
      · rename_i hn
        by_cases hnm : n = m
        · subst hnm
          left
          rw [h, nth_eq]
          have : ¬ n < l.length := fun hl => hn ⟨rfl, hl⟩
          simp [Nat.not_lt.1 this]
        · exact .inr ⟨h, by simp [hm]; omega⟩

/-! ### objects -/
def ObjRel (ι : Inj) (ρ : RoMap) (w : World) (e : Ent) : AObj → Prop
  | .row esz fz vs => ∃ c T fr, w.heap[e.blk]? = some (.cells c T fr) ∧ e.esz = esz ∧ c.size = e.base + e.K ∧ vs.length ≤ e.K ∧ (fz = false → fr = (0, 0)) ∧
      (fr = (0, 0) ∨ c.size ≤ fr.1) ∧ (∀ v ∈ c.toList, oneC v = true) ∧ ∀ (j : Nat) (a : AVal), vs[j]? = some a → ∃ v, c[e.base + j]? = some v ∧ VRel ι ρ a v
  | .map es => ∃ ents clock, w.heap[e.blk]? = some (.map ents clock) ∧ ents.size = es.length ∧ e.base = 0 ∧
      ∀ (j : Nat) (x : AVal × AVal), es[j]? = some x → ∃ y : MapEntry, ents[j]? = some y ∧ VRel ι ρ x.1 y.key ∧ VRel ι ρ x.2 y.val

theorem ObjRel.mono {ι ι' : Inj} {ρ : RoMap} {w w' : World} {e : Ent} {x : AObj} (hs : Sub ι ι') (hw : w'.heap[e.blk]? = w.heap[e.blk]?) (h : ObjRel ι ρ w e x) : ObjRel ι' ρ w' e x := by
  cases x with
  | row esz fz vs =>
    obtain ⟨c, T, fr, h1, h2, h3, h4, h5, h6, h7, h8⟩ := h
    exact ⟨c, T, fr, by rw [hw, h1], h2, h3, h4, h5, h6, h7, fun j a hj => let ⟨v, hv, hr⟩ := h8 j a hj; ⟨v, hv, hr.mono hs⟩⟩
  | map es =>
    obtain ⟨ents, clock, h1, h2, h3, h4⟩ := h
    exact ⟨ents, clock, by rw [hw, h1], h2, h3, fun j x hj => let ⟨y, hy, hr, hr'⟩ := h4 j x hj; ⟨y, hy, hr.mono hs, hr'.mono hs⟩⟩

theorem ObjRel.lt {ι : Inj} {ρ : RoMap} {w : World} {e : Ent} {x : AObj} (h : ObjRel ι ρ w e x) : e.blk < w.heap.size := by
  cases x with
  | row esz fz vs => obtain ⟨c, T, fr, h1, _⟩ := h; exact (Array.getElem?_eq_some_iff.1 h1).1
  | map es => obtain ⟨_, _, h1, _⟩ := h; exact (Array.getElem?_eq_some_iff.1 h1).1

/-- the blocks that belong to the heap's objects -/
def Own (ι : Inj) (h : AHeap) (b : Nat) : Prop := ∃ o x e, h.get o = some x ∧ ι o = some e ∧ e.blk = b

/-- what is fixed through a run: the program's reading, the read-only memory, and where the call's own memory begins -/
structure Fix where
  c : Cfg
  ρ : RoMap
  w0 : World

def Fix.N (F : Fix) : Nat := F.w0.heap.size

structure Fix.Ok (F : Fix) : Prop where
  eqs : ∀ t, F.c.eqOk t = true → F.c.P.stoodInHeld t = false ∧ F.c.P.eqGuardType F.c.P.depth t = false
  glob : ∀ g, g < 1000000 → F.ρ g = some (g, 0)
  ro : ∀ r vs, F.c.ro r = some vs → ∃ e, F.ρ r = some e ∧ e.1 < F.N ∧ ∀ (j : Nat) (a : AVal), vs[j]? = some a → ∃ v, F.w0.cell? ⟨e.1, e.2 + j, none⟩ = some v ∧ oneC v = true ∧ VRel (fun _ => none) F.ρ a v

structure Rel (F : Fix) (ι : Inj) (h : AHeap) (w : World) : Prop where
  below : Below F.N F.w0 w
  obj : ∀ o x, h.get o = some x → ∃ e, ι o = some e ∧ F.N ≤ e.blk ∧ ObjRel ι F.ρ w e x
  inj : ∀ o o' x x' e e', h.get o = some x → h.get o' = some x' → ι o = some e → ι o' = some e' → e.blk = e'.blk → o = o'
  lt : ∀ o x, h.get o = some x → o < h.next

/-- what stays: all but some blocks -/
structure Keep (B : Nat → Prop) (w w' : World) : Prop where
  os : w'.os = w.os
  tape : w'.tape = w.tape
  output : w'.output = w.output
  size : w.heap.size ≤ w'.heap.size
  block : ∀ k, k < w.heap.size → ¬ B k → w'.heap[k]? = w.heap[k]?

theorem Keep.refl (B : Nat → Prop) (w : World) : Keep B w w := ⟨rfl, rfl, rfl, Nat.le_refl _, fun _ _ _ => rfl⟩

theorem Keep.trans {B B' : Nat → Prop} {a b c : World} (h : Keep B a b) (k : Keep B' b c) (hB : ∀ j, B' j → B j ∨ a.heap.size ≤ j) : Keep B a c :=
  ⟨k.os.trans h.os, k.tape.trans h.tape, k.output.trans h.output, Nat.le_trans h.size k.size, fun j hj hb =>
    (k.block j (Nat.lt_of_lt_of_le hj h.size) fun hb' => (hB j hb').elim hb (fun h => by omega)).trans (h.block j hj hb)⟩

theorem Keep.mono {B B' : Nat → Prop} {a b : World} (h : Keep B a b) (hB : ∀ j, j < a.heap.size → B j → B' j) : Keep B' a b :=
  ⟨h.os, h.tape, h.output, h.size, fun j hj hb => h.block j hj fun hx => hb (hB j hj hx)⟩

theorem Keep.below {B : Nat → Prop} {N : Nat} {w0 a b : World} (h : Keep B a b) (hb : Below N w0 a) (hN : N ≤ w0.heap.size) (hB : ∀ j, B j → N ≤ j) : Below N w0 b :=
  ⟨h.os.trans hb.os, h.tape.trans hb.tape, h.output.trans hb.output, Nat.le_trans hb.size h.size, fun j hj =>
    (h.block j (Nat.lt_of_lt_of_le (Nat.lt_of_lt_of_le hj hN) hb.size) fun hx => by have := hB j hx; omega).trans (hb.block j hj)⟩

/-- between two states of the heap: what new numbers there are, and how the blocks that belong to it grow -/
structure Step (ι : Inj) (h : AHeap) (w : World) (ι' : Inj) (h' : AHeap) (w' : World) : Prop where
  sub : Sub ι ι'
  dom : ∀ o : Nat, ι' o = none ∨ ι o = ι' o ∨ (h.next ≤ o ∧ o < h'.next)
  next : h.next ≤ h'.next
  keep : Keep (Own ι h) w w'
  own : ∀ b, Own ι' h' b → Own ι h b ∨ w.heap.size ≤ b

/-- no number that is to come has a place -/
def Fresh (ι : Inj) (lo hi : Nat) : Prop := ∀ o, lo ≤ o → o < hi → ι o = none

theorem Step.refl (ι : Inj) (h : AHeap) (w : World) : Step ι h w ι h w :=
  ⟨Sub.refl _, fun _ => .inr (.inl rfl), Nat.le_refl _, Keep.refl _ _, fun _ hb => .inl hb⟩

theorem Step.trans {ι₁ ι₂ ι₃ : Inj} {h₁ h₂ h₃ : AHeap} {w₁ w₂ w₃ : World} (a : Step ι₁ h₁ w₁ ι₂ h₂ w₂) (b : Step ι₂ h₂ w₂ ι₃ h₃ w₃) : Step ι₁ h₁ w₁ ι₃ h₃ w₃ := by
  refine ⟨a.sub.trans b.sub, fun o => ?_, Nat.le_trans a.next b.next, a.keep.trans b.keep a.own, fun k hk => ?_⟩
  · rcases b.dom o with h | h | h
    · exact .inl h
    · rcases a.dom o with h' | h' | h'
      · left; rw [← h]; exact h'
      · right; left; rw [h', h]
      · exact .inr (.inr ⟨h'.1, Nat.lt_of_lt_of_le h'.2 b.next⟩)
    · exact .inr (.inr ⟨Nat.le_trans a.next h.1, h.2⟩)
  · rcases b.own k hk with h | h
    · exact a.own k h
    · exact .inr (Nat.le_trans a.keep.size h)

theorem Fresh.left {ι : Inj} {a b c : Nat} (h : Fresh ι a c) (hb : b ≤ c) : Fresh ι a b := fun o h1 h2 => h o h1 (by omega)

theorem Step.fresh {ι₁ ι₂ : Inj} {h₁ h₂ : AHeap} {w₁ w₂ : World} {c : Nat} (a : Step ι₁ h₁ w₁ ι₂ h₂ w₂) (h : Fresh ι₁ h₁.next c) : Fresh ι₂ h₂.next c := by
  intro o h1 h2
  rcases a.dom o with h' | h' | h'
  · exact h'
  · rw [← h']; exact h o (Nat.le_trans a.next h1) h2
  · omega

theorem Rel.own_ge {F : Fix} {ι : Inj} {h : AHeap} {w : World} (r : Rel F ι h w) : ∀ b, Own ι h b → F.N ≤ b := by
  rintro b ⟨o, x, e, h1, h2, rfl⟩
  obtain ⟨e', h3, h4, _⟩ := r.obj o x h1
  rw [h2] at h3; cases h3; exact h4

theorem Rel.own_lt {F : Fix} {ι : Inj} {h : AHeap} {w : World} (r : Rel F ι h w) : ∀ b, Own ι h b → b < w.heap.size := by
  rintro b ⟨o, x, e, h1, h2, rfl⟩
  obtain ⟨e', h3, _, h4⟩ := r.obj o x h1
  rw [h2] at h3; cases h3; exact h4.lt

end Go.Proofs.Ytbnlhhfobgjeaaa
