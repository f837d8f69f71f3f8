/-
  A region whose order is drawn: every order leads where the text's does.
-/
import Derived.Test.YtbnlhhfobgjeaaaZzTrace
set_option linter.all false
namespace Go.Proofs.Ytbnlhhfobgjeaaa
open Go Go.RowKit

/-! ### what comes before -/
def bv (B : Array Nat) (o : Oper) : Nat := o.after.foldl (fun s e => if Region.binds .any e then s ||| 2 ^ e.on ||| B.getD e.on 0 else s) 0

theorem bv_bits (B : Array Nat) (k : Nat) : ∀ (l : List Edge) (s : Nat), (l.foldl (fun s e => if Region.binds .any e then s ||| 2 ^ e.on ||| B.getD e.on 0 else s) s).testBit k = true →
    s.testBit k = true ∨ ∃ e ∈ l, Region.binds .any e = true ∧ (e.on = k ∨ (B.getD e.on 0).testBit k = true)
  | [], s, h => .inl h
  | e :: l, s, h => by
    simp only [List.foldl_cons] at h
    rcases bv_bits B k l _ h with h1 | ⟨e', h2, h3⟩
    · split at h1
      · rename_i hb
        simp only [Nat.testBit_or, Bool.or_eq_true, Nat.testBit_two_pow] at h1
        rcases h1 with (h1 | h1) | h1
        · exact .inl h1
        · exact .inr ⟨e, by simp, hb, .inl (by simpa using h1)⟩
        · exact .inr ⟨e, by simp, hb, .inr h1⟩
      · exact .inl h1
    · exact .inr ⟨e', by simp [h2], h3⟩

theorem before_fold : ∀ (l : List Oper) (acc : Array Nat),
    (∀ j, j < acc.size → (l.foldl (fun acc o => acc.push (bv acc o)) acc)[j]? = acc[j]?) ∧
    ∀ m o, l[m]? = some o → ∃ B : Array Nat, B.size = acc.size + m ∧ (∀ j, j < B.size → (l.foldl (fun acc o => acc.push (bv acc o)) acc)[j]? = B[j]?) ∧ (l.foldl (fun acc o => acc.push (bv acc o)) acc)[acc.size + m]? = some (bv B o)
  | [], acc => ⟨fun _ _ => rfl, fun m o h => by simp at h⟩
  | o :: l, acc => by
    obtain ⟨h1, h2⟩ := before_fold l (acc.push (bv acc o))
    have hpre : ∀ j, j < acc.size → ((o :: l).foldl (fun acc o => acc.push (bv acc o)) acc)[j]? = acc[j]? := by
      intro j hj
      rw [List.foldl_cons, h1 j (by simp; omega)]
      simp [Array.getElem?_push, Nat.ne_of_lt hj]
    refine ⟨hpre, fun m o' hm => ?_⟩
    cases m with
    | zero =>
      simp at hm; subst hm
      refine ⟨acc, rfl, hpre, ?_⟩
      rw [List.foldl_cons, Nat.add_zero, h1 acc.size (by simp)]
      simp
    | succ m =>
      simp at hm
      obtain ⟨B, b1, b2, b3⟩ := h2 m o' hm
      simp only [Array.size_push] at b1 b3
      refine ⟨B, by omega, b2, ?_⟩
      rw [List.foldl_cons, show acc.size + (m + 1) = acc.size + 1 + m by omega]
      exact b3

theorem before_spec {ops : Array Oper} {i k : Nat} {o : Oper} (ho : ops[i]? = some o) (hR : ∀ e ∈ o.after.toList, Region.binds .any e = true → e.on < i) (hb : befB (Region.before ops) k i = true) :
    ∃ e ∈ o.after.toList, Region.binds .any e = true ∧ (e.on = k ∨ befB (Region.before ops) k e.on = true) := by
  have heq : Region.before ops = ops.toList.foldl (fun acc o => acc.push (bv acc o)) #[] := by
    unfold Region.before; rw [← Array.foldl_toList]; rfl
  obtain ⟨_, h2⟩ := before_fold ops.toList #[]
  obtain ⟨B, b1, b2, b3⟩ := h2 i o (by simpa using ho)
  simp only [List.size_toArray, List.length_nil, Nat.zero_add] at b1 b3
  rw [← heq] at b2 b3
  unfold befB at hb
  rw [Array.getD_eq_getD_getElem?, b3] at hb
  simp only [Option.getD_some] at hb
  unfold bv at hb
  rw [← Array.foldl_toList] at hb
  rcases bv_bits B k _ _ hb with h | ⟨e, e1, e2, e3⟩
  · simp at h
  · refine ⟨e, e1, e2, e3.imp id fun h => ?_⟩
    have hlt := hR e e1 e2
    unfold befB
    rw [Array.getD_eq_getD_getElem?, b2 e.on (by omega), ← Array.getD_eq_getD_getElem?]
    exact h

theorem before_closed {ops : Array Oper} {D : Nat → Prop} (hR : ∀ i o, ops[i]? = some o → ∀ e ∈ o.after.toList, Region.binds .any e = true → e.on < i)
    (hD : ∀ i o, D i → ops[i]? = some o → ∀ e ∈ o.after.toList, Region.binds .any e = true → D e.on) :
    ∀ (i : Nat) (o : Oper), ops[i]? = some o → (∀ e ∈ o.after.toList, Region.binds .any e = true → D e.on) → ∀ k, befB (Region.before ops) k i = true → D k := by
  intro i
  induction i using Nat.strongRecOn with
  | _ i ih =>
    intro o ho he k hk
    obtain ⟨e, e1, e2, e3⟩ := before_spec ho (hR i o ho) hk
    rcases e3 with e3 | e3
    · rw [← e3]; exact he e e1 e2
    · have hlt := hR i o ho e e1 e2
      have hsz : e.on < ops.size := by have := (Array.getElem?_eq_some_iff.1 ho).1; omega
      have ho' : ops[e.on]? = some ops[e.on] := by simp [hsz]
      exact ih e.on hlt _ ho' (hD e.on _ (he e e1 e2) ho') k e3

/-! ### what is so on the way -/
section
variable {F : Fix} {C : CallR} {loc : List Nat} {al : List (Nat × Nat)} {bad : List Nat} {ops : Array Oper} {bef : Array Nat} {en : Nat → List AVal} {hs ba : Nat → AHeap}

/-- the slots, where some operations are done -/
def EAt (loc : List Nat) (al : List (Nat × Nat)) (ops : Array Oper) (en : Nat → List AVal) (D : Nat → Prop) (E : List AVal) : Prop :=
  ∀ t, (∃ k o, D k ∧ ops[k]? = some o ∧ t ∈ writesOf loc al o ∧ (∀ j o', D j → ops[j]? = some o' → t ∈ writesOf loc al o' → j ≤ k) ∧ nth E t = nth (en (k + 1)) t) ∨
    ((∀ j o', D j → ops[j]? = some o' → t ∉ writesOf loc al o') ∧ nth E t = nth (en 0) t)

theorem EAt.step {D : Nat → Prop} {E E' : List AVal} {i : Nat} {o : Oper} (h : EAt loc al ops en D E) (hl : Like (writesOf loc al o) E E' (en (i + 1))) (ho : ops[i]? = some o)
    (hww : ∀ j o' t, D j → ops[j]? = some o' → t ∈ writesOf loc al o → t ∈ writesOf loc al o' → j < i) : EAt loc al ops en (fun k => D k ∨ k = i) E' := by
  intro t
  have ht := hl.2 t
  by_cases hm : t ∈ writesOf loc al o
  · rw [if_pos hm] at ht
    refine .inl ⟨i, o, .inr rfl, ho, hm, fun j o' hj ho' ht' => ?_, ht⟩
    rcases hj with hj | hj
    · exact Nat.le_of_lt (hww j o' t hj ho' hm ht')
    · exact Nat.le_of_eq hj
  · rw [if_neg hm] at ht
    have hi : ∀ j o', j = i → ops[j]? = some o' → t ∉ writesOf loc al o' := by
      rintro j o' rfl ho'
      rw [ho] at ho'; cases ho'; exact hm
    rcases h t with ⟨k, ok, h1, h2, h3, h4, h5⟩ | ⟨h1, h2⟩
    · refine .inl ⟨k, ok, .inl h1, h2, h3, fun j o' hj ho' ht' => ?_, by rw [ht, h5]⟩
      rcases hj with hj | hj
      · exact h4 j o' hj ho' ht'
      · exact absurd ht' (hi j o' hj ho')
    · refine .inr ⟨fun j o' hj ho' => ?_, by rw [ht, h2]⟩
      rcases hj with hj | hj
      · exact h1 j o' hj ho'
      · exact hi j o' hj ho'

theorem frame_run (tr : Trace C F.c loc al bad ops bef en hs ba) {t : Nat} : ∀ (m a : Nat), a + m ≤ ops.size → (∀ j o', a ≤ j → j < a + m → ops[j]? = some o' → t ∉ writesOf loc al o') → nth (en (a + m)) t = nth (en a) t
  | 0, a, _, _ => rfl
  | m + 1, a, ha, h => by
    have hlt : a + m < ops.size := by omega
    have ho : ops[a + m]? = some ops[a + m] := by simp [hlt]
    have hf := (tr.frame (a + m) _ ho).2 t
    rw [if_neg (h (a + m) _ (by omega) (by omega) ho)] at hf
    rw [← Nat.add_assoc, hf]
    exact frame_run tr m a (by omega) fun j o' h1 h2 => h j o' h1 (by omega)

theorem EAt.names (tr : Trace C F.c loc al bad ops bef en hs ba) {D : Nat → Prop} {E : List AVal} {i t : Nat} (h : EAt loc al ops en D E) (hi : i ≤ ops.size)
    (h1 : ∀ k o', k < i → ops[k]? = some o' → t ∈ writesOf loc al o' → D k) (h2 : ∀ j o', D j → ops[j]? = some o' → t ∈ writesOf loc al o' → j < i) : nth E t = nth (en i) t := by
  rcases h t with ⟨k, ok, a1, a2, a3, a4, a5⟩ | ⟨a1, a2⟩
  · have hk := h2 k ok a1 a2 a3
    have := frame_run tr (t := t) (i - (k + 1)) (k + 1) (by omega) fun j o' b1 b2 b3 b4 => by
      have := a4 j o' (h1 j o' (by omega) b3 b4) b3 b4
      omega
    rw [show k + 1 + (i - (k + 1)) = i by omega] at this
    rw [a5, this]
  · have := frame_run tr (t := t) i 0 (by omega) fun j o' b1 b2 b3 b4 => a1 j o' (h1 j o' (by omega) b3 b4) b3 b4
    rw [Nat.zero_add] at this
    rw [a2, this]

theorem next_run (tr : Trace C F.c loc al bad ops bef en hs ba) : ∀ (m a : Nat), a + m ≤ ops.size → (hs a).next ≤ (hs (a + m)).next
  | 0, a, _ => Nat.le_refl _
  | m + 1, a, ha => Nat.le_trans (next_run tr m a (by omega)) (tr.next (a + m) (by omega))

theorem next_le (tr : Trace C F.c loc al bad ops bef en hs ba) {a b : Nat} (hab : a ≤ b) (hb : b ≤ ops.size) : (hs a).next ≤ (hs b).next := by
  have := next_run tr (b - a) a (by omega)
  rwa [show a + (b - a) = b by omega] at this

theorem len_run (tr : Trace C F.c loc al bad ops bef en hs ba) : ∀ (m : Nat), m ≤ ops.size → (en m).length = (en 0).length
  | 0, _ => rfl
  | m + 1, hm => by
    have hlt : m < ops.size := by omega
    have ho : ops[m]? = some ops[m] := by simp [hlt]
    rw [(tr.frame m _ ho).1, len_run tr m (by omega)]

/-- what stands in the heap of the text's run -/
theorem hs_get (tr : Trace C F.c loc al bad ops bef en hs ba) {p o : Nat} {x : AObj} : ∀ (m : Nat), p + m ≤ ops.size → (∀ k op, p ≤ k → k < p + m → ops[k]? = some op → kindOf F.c.P loc al op ≠ .imp) → (hs (p + m)).get o = some x →
    (hs p).get o = some x ∨ ∃ k op, p ≤ k ∧ k < p + m ∧ ops[k]? = some op ∧ kindOf F.c.P loc al op = .alloc ∧ o = (hs k).next ∧ hs (k + 1) = (hs k).push x
  | 0, _, _, h => .inl h
  | m + 1, hm, hi, h => by
    have hlt : p + m < ops.size := by omega
    have ho : ops[p + m]? = some ops[p + m] := by simp [hlt]
    have ih := fun h => hs_get tr m (by omega) (fun k op h1 h2 => hi k op h1 (by omega)) (o := o) (x := x) h
    have up : ((hs p).get o = some x ∨ ∃ k op, p ≤ k ∧ k < p + m ∧ ops[k]? = some op ∧ kindOf F.c.P loc al op = .alloc ∧ o = (hs k).next ∧ hs (k + 1) = (hs k).push x) →
        ((hs p).get o = some x ∨ ∃ k op, p ≤ k ∧ k < p + (m + 1) ∧ ops[k]? = some op ∧ kindOf F.c.P loc al op = .alloc ∧ o = (hs k).next ∧ hs (k + 1) = (hs k).push x) := by
      rintro (h | ⟨k, op, h1, h2, h3⟩)
      · exact .inl h
      · exact .inr ⟨k, op, h1, by omega, h3⟩
    rw [← Nat.add_assoc] at h
    cases hk : kindOf F.c.P loc al ops[p + m] with
    | pure => rw [(tr.pu _ _ ho hk).1] at h; exact up (ih h)
    | read => rw [(tr.rd _ _ ho hk).1] at h; exact up (ih h)
    | imp => exact absurd hk (hi _ _ (by omega) (by omega) ho)
    | alloc =>
      obtain ⟨y, y1, _⟩ := tr.al_ _ _ ho hk
      rw [y1, AHeap.get_push] at h
      split at h
      · rename_i he
        cases h
        exact .inr ⟨p + m, _, by omega, by omega, ho, hk, he, y1⟩
      · exact up (ih h)

end
end Go.Proofs.Ytbnlhhfobgjeaaa
