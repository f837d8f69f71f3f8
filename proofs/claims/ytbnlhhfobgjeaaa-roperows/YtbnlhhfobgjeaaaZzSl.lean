/-
  Slices that are read, and slices of one's own that grow.
-/
import Derived.Test.YtbnlhhfobgjeaaaZzKit
set_option linter.all false
namespace Go.Proofs.Ytbnlhhfobgjeaaa
open Go Go.RowKit

def elp (v : AVal) (sz i : Nat) : AVal :=
  match v with
  | .sl o f _ => .ptr o (f + i * sz)
  | .slc o f _ _ => .ptr o (f + i * sz)
  | .rsl r f _ => .rptr r (f + i * sz)
  | _ => .dead
def elpo (v : AVal) (sz i d : Nat) : AVal :=
  match v with
  | .sl o f _ => .ptr o (f + i * sz + d)
  | .slc o f _ _ => .ptr o (f + i * sz + d)
  | .rsl r f _ => .rptr r (f + i * sz + d)
  | _ => .dead
def rowOf (c : Cfg) (h : AHeap) (v : AVal) : Option (List AVal × Nat) :=
  match v with
  | .sl o f _ => match h.get o with
    | some (.row _ _ vs) => some (vs, f)
    | _ => none
  | .slc o f _ _ => match h.get o with
    | some (.row _ _ vs) => some (vs, f)
    | _ => none
  | .rsl r f _ => (c.ro r).map fun vs => (vs, f)
  | _ => none
def lowV (h : AHeap) : AVal → Prop
  | .sl o _ _ => o < h.next
  | .slc o _ _ _ => o < h.next
  | _ => True

/-- a slice of elements, each of so many cells -/
structure Sl (c : Cfg) (h : AHeap) (sz : Nat) (v : AVal) (es : List (List AVal)) : Prop where
  len : lenA v = .ok es.length
  noStr : ∀ s, v ≠ .str s
  row : es ≠ [] → ∃ vs f, rowOf c h v = some (vs, f) ∧ ∀ i e, es[i]? = some e → e.length = sz ∧ takeR vs (f + i * sz) sz = .ok e
  low : lowV h v
  room : ∀ o f n, v = .sl o f n → ∃ z vs, h.get o = some (.row sz z vs)

section
variable {c : Cfg} {h : AHeap} {sz : Nat} {v : AVal} {es : List (List AVal)}

theorem Sl.nil {sz : Nat} : Sl c h sz .nils [] := ⟨rfl, (fun s h => by cases h), (fun h => (h rfl).elim), trivial, (fun _ _ _ h => by cases h)⟩
theorem Sl.ro {r f n : Nat} {vs : List AVal} (hr : c.ro r = some vs) (hn : n = es.length) (he : ∀ i e, es[i]? = some e → e.length = sz ∧ takeR vs (f + i * sz) sz = .ok e) : Sl c h sz (.rsl r f n) es :=
  ⟨by rw [hn]; rfl, (fun s h => by cases h), fun _ => ⟨vs, f, by simp [rowOf, hr], he⟩, trivial, (fun _ _ _ h => by cases h)⟩
theorem Sl.old {h' : AHeap} (s : Sl c h sz v es) (ho : Old h h') : Sl c h' sz v es := by
  refine ⟨s.len, s.noStr, fun hne => ?_, ?_, fun o f n hv => ?_⟩
  rotate_left 2
  · subst hv
    obtain ⟨z, vs, h1⟩ := s.room o f n rfl
    exact ⟨z, vs, by rw [ho.2 _ s.low]; exact h1⟩
  · obtain ⟨vs, f, h1, h2⟩ := s.row hne
    refine ⟨vs, f, ?_, h2⟩
    have hl := s.low
    cases v <;> simp only [rowOf, lowV] at h1 hl ⊢ <;> first | exact h1 | (rw [ho.2 _ hl]; exact h1) | cases h1
  · have hl := s.low
    cases v <;> simp only [lowV] at hl ⊢ <;> exact Nat.lt_of_lt_of_le hl ho.1
theorem Sl.lenR (s : Sl c h sz v es) {t e : Nat} (ht : undR c.P t = .ok (.slice e)) : lenR c h t v = .ok (.int .i64 es.length) := by
  have hl := s.len
  unfold Ytbnlhhfobgjeaaa.lenR
  rw [ht, Res.ok_bind]
  cases v <;> simp only [lenA] at hl ⊢ <;> first | (cases hl; done) | (exact absurd rfl (s.noStr _)) | (injection hl with hl; simp [hl])
theorem Sl.idx (s : Sl c h sz v es) {P : Program} {t e : Nat} (ht : undR P t = .ok (.slice e)) (hs : sizeR P e = .ok sz) {k : IntKind} {i : Nat} (hi : i < es.length) : indexAddrR P t v (.int k i) = .ok (elp v sz i) := by
  have hl := s.len
  unfold indexAddrR
  rw [ht, Res.ok_bind]
  simp only [hs, Res.ok_bind]
  cases v <;> simp only [lenA] at hl ⊢ <;> first | (cases hl; done) | (injection hl with hl; subst hl; rw [ix_nat hi]; simp [elp]) | (exact absurd rfl (s.noStr _)) | (injection hl with hl; omega)
theorem Sl.rowR (s : Sl c h sz v es) {i : Nat} {e : List AVal} (he : es[i]? = some e) : ∃ vs f, rowR c h (elp v sz i) = .ok (vs, f) ∧ e.length = sz ∧ takeR vs f sz = .ok e := by
  obtain ⟨vs, f, h1, h2⟩ := s.row (by intro h; subst h; simp at he)
  refine ⟨vs, f + i * sz, ?_, h2 i e he⟩
  cases v <;> simp only [rowOf, elp] at h1 ⊢ <;> try (cases h1; done)
  all_goals unfold Ytbnlhhfobgjeaaa.rowR
  · split at h1
    · rename_i hg; injection h1 with h1; injection h1 with h3 h4; subst h3 h4; simp [hg]
    · cases h1
  · split at h1
    · rename_i hg; injection h1 with h1; injection h1 with h3 h4; subst h3 h4; simp [hg]
    · cases h1
  · rename_i r f' n
    cases hr : c.ro r with
    | none => rw [hr] at h1; cases h1
    | some ws => rw [hr] at h1; simp at h1; obtain ⟨rfl, rfl⟩ := h1; simp [hr]
theorem takeR_nth {vs e : List AVal} {f n d : Nat} (h : takeR vs f n = .ok e) {x : AVal} (hx : e[d]? = some x) : nthR vs (f + d) = .ok x := by
  unfold takeR at h
  split at h
  · injection h with h
    subst h
    apply nthR_get
    rw [List.getElem?_take] at hx
    split at hx
    · rw [List.getElem?_drop] at hx; exact hx
    · cases hx
  · cases h
theorem Sl.load (s : Sl c h sz v es) {i t : Nat} {e : List AVal} (he : es[i]? = some e) (hg : isAggR c.P t = .ok true) (hs : sizeR c.P t = .ok sz) : loadR c h t (elp v sz i) = .ok (.agg e) := by
  obtain ⟨vs, f, h1, _, h2⟩ := s.rowR he
  unfold loadR partR
  rw [h1, Res.ok_bind, hg, Res.ok_bind]
  simp [hs, h2]
theorem Sl.load1 (s : Sl c h sz v es) {i t : Nat} {e : List AVal} {x : AVal} (he : es[i]? = some e) (hx : e[0]? = some x) (hg : isAggR c.P t = .ok false) : loadR c h t (elp v sz i) = .ok x := by
  obtain ⟨vs, f, h1, _, h2⟩ := s.rowR he
  unfold loadR partR
  rw [h1, Res.ok_bind, hg, Res.ok_bind]
  exact takeR_nth (d := 0) h2 hx
theorem elp_off (s : Sl c h sz v es) {i d : Nat} (hi : i < es.length) : addOff (elp v sz i) d = .ok (elpo v sz i d) := by
  obtain ⟨vs, f, h1, _⟩ := s.row (by intro h; subst h; simp at hi)
  cases v <;> simp only [rowOf] at h1 <;> first | (cases h1; done) | rfl
theorem Sl.loadF (s : Sl c h sz v es) {i d t : Nat} {e : List AVal} {x : AVal} (he : es[i]? = some e) (hx : e[d]? = some x) (hg : isAggR c.P t = .ok false) : loadR c h t (elpo v sz i d) = .ok x := by
  obtain ⟨vs, f, h1, _, h2⟩ := s.rowR he
  unfold loadR partR
  have h3 : Ytbnlhhfobgjeaaa.rowR c h (elpo v sz i d) = .ok (vs, f + d) := by
    cases v <;> simp only [elp, elpo] at h1 ⊢ <;> unfold Ytbnlhhfobgjeaaa.rowR at h1 ⊢ <;> first | (cases h1; done) | skip
    all_goals (simp only at h1 ⊢; split at h1)
    all_goals first | (injection h1 with h1; injection h1 with h4 h5; subst h4 h5; rfl) | (cases h1; done)
  rw [h3, Res.ok_bind, hg, Res.ok_bind]
  exact takeR_nth h2 hx
theorem Sl.get (s : Sl c h sz v es) {i : Nat} (hi : i < es.length) : ∃ e, es[i]? = some e ∧ e.length = sz := by
  obtain ⟨vs, f, h1, h2⟩ := s.row (by intro h; subst h; simp at hi)
  exact ⟨es[i], by simp [hi], (h2 i es[i] (by simp [hi])).1⟩
end

/-! ### a slice of one's own -/
/-- all of a row of one's own, made behind h0 -/
def Mine (h0 h : AHeap) (sz : Nat) (es : List (List AVal)) (v : AVal) : Prop :=
  (∀ e ∈ es, e.length = sz) ∧ ((es = [] ∧ v = .nils) ∨ ∃ q fz, v = .sl q 0 es.length ∧ h0.next ≤ q ∧ q < h.next ∧ h.get q = some (.row sz fz es.flatten))

theorem flat_len {sz : Nat} : ∀ {es : List (List AVal)}, (∀ e ∈ es, e.length = sz) → es.flatten.length = es.length * sz
  | [], _ => by simp
  | e :: es, h => by
    have h1 := h e (by simp)
    have h2 := flat_len (es := es) (fun x hx => h x (by simp [hx]))
    simp only [List.flatten_cons, List.length_append, List.length_cons, h1, h2, Nat.succ_mul]; omega
theorem flat_take {sz : Nat} : ∀ {es : List (List AVal)}, (∀ e ∈ es, e.length = sz) → ∀ {i : Nat} {e : List AVal}, es[i]? = some e → takeR es.flatten (i * sz) sz = .ok e
  | [], _, i, e, h => by simp at h
  | x :: es, hs, 0, e, h => by
    simp at h; subst h
    have := hs x (by simp)
    unfold takeR
    rw [if_pos (by simp [this])]
    simp [← this]
  | x :: es, hs, i + 1, e, h => by
    have h1 := hs x (by simp)
    have h2 := flat_take (es := es) (fun y hy => hs y (by simp [hy])) (i := i) (e := e) (by simpa using h)
    unfold takeR at h2 ⊢
    split at h2
    · rename_i hle
      injection h2 with h2
      rw [if_pos (by rw [List.flatten_cons, List.length_append, h1, Nat.succ_mul]; omega)]
      rw [List.flatten_cons, List.drop_append, h1, Nat.succ_mul, show i * sz + sz - sz = i * sz by omega, List.drop_of_length_le (by omega), List.nil_append, h2]
    · cases h2

theorem Mine.sl {c : Cfg} {h0 h : AHeap} {sz : Nat} {es : List (List AVal)} {v : AVal} (o : Mine h0 h sz es v) : Sl c h sz v es := by
  obtain ⟨hs, ⟨rfl, rfl⟩ | ⟨q, fz, rfl, h1, h2, h3⟩⟩ := o
  · exact Sl.nil
  · exact ⟨rfl, (fun s h => by cases h), fun _ => ⟨es.flatten, 0, by simp [rowOf, h3], fun i e he => ⟨hs e (List.mem_of_getElem? he), by rw [Nat.zero_add]; exact flat_take hs he⟩⟩, h2, (fun o f n hv => by cases hv; exact ⟨_, _, h3⟩)⟩
theorem Mine.nil (h0 h : AHeap) (sz : Nat) : Mine h0 h sz [] .nils := ⟨by simp, .inl ⟨rfl, rfl⟩⟩
/-- what happens behind leaves it -/
theorem Mine.keep {h0 h h' : AHeap} {sz : Nat} {es : List (List AVal)} {v : AVal} (o : Mine h0 h sz es v) (k : Old h h') : Mine h0 h' sz es v := by
  obtain ⟨hs, ⟨rfl, rfl⟩ | ⟨q, fz, rfl, h1, h2, h3⟩⟩ := o
  · exact Mine.nil _ _ _
  · exact ⟨hs, .inr ⟨q, fz, rfl, h1, Nat.lt_of_lt_of_le h2 k.1, by rw [k.2 q h2]; exact h3⟩⟩
theorem Mine.appendG {h0 h : AHeap} {sz bytes : Nat} {es new : List (List AVal)} {v : AVal} (o : Mine h0 h sz es v) (hsz : 0 < sz) (hn : ∀ e ∈ new, e.length = sz) (hb : (es.length + new.length) * bytes ≤ 2 ^ 47) (k : h0.next ≤ h.next) :
    ∃ v' h', appCore sz bytes h v new.length new.flatten = .ok (v', h') ∧ Mine h0 h' sz (es ++ new) v' ∧ h.next ≤ h'.next ∧ ∀ o, o < h0.next → h'.get o = h.get o := by
  have hs' : ∀ e ∈ es ++ new, e.length = sz := by
    intro e he
    rcases List.mem_append.1 he with h | h
    · exact o.1 e h
    · exact hn e h
  obtain ⟨hs, ⟨rfl, rfl⟩ | ⟨q, fz, rfl, h1, h2, h3⟩⟩ := o
  · by_cases h0' : new.length = 0
    · have : new = [] := List.length_eq_zero_iff.1 h0'
      subst this
      exact ⟨.nils, h, by simp [appCore], Mine.nil _ _ _, Nat.le_refl _, fun _ _ => rfl⟩
    · have hb' : ¬ new.length * bytes > 2 ^ 47 := by simp at hb; omega
      refine ⟨_, _, by unfold appCore; simp only []; rw [if_neg h0', if_neg hb'], ⟨hs', .inr ⟨h.next, false, by simp, k, by simp, by simp⟩⟩, by simp, fun o ho => by rw [AHeap.get_push, if_neg (by omega)]⟩
  · have hf := flat_len hs
    have hf2 := flat_len hn
    by_cases h0' : new.length = 0
    · have : new = [] := List.length_eq_zero_iff.1 h0'
      subst this
      refine ⟨.sl q 0 es.length, h.set q (.row sz fz es.flatten), ?_, ⟨hs', .inr ⟨q, fz, by simp, h1, by simpa using h2, by rw [AHeap.get_set]; simp⟩⟩, by simp, fun o ho => by rw [AHeap.get_set, if_neg (by omega)]⟩
      unfold appCore
      simp only [h3, if_true]
      rw [if_pos (by simp [hf])]
      have : overR es.flatten (0 + es.length * sz) [] = .ok es.flatten := by
        unfold overR
        rw [if_pos (by simp [hf])]
        simp [← hf]
      simp [this] at *
      simp [this]
    · refine ⟨.sl (h.del q).next 0 (es.length + new.length), (h.del q).push (.row sz true (es.flatten ++ new.flatten)), ?_, ⟨hs', .inr ⟨(h.del q).next, true, by simp, by simpa using k, by simp, by rw [get_push_next]; simp⟩⟩, by simp, fun o ho => by rw [AHeap.get_push, if_neg (by simp; omega), AHeap.get_del, if_neg (by omega)]⟩
      unfold appCore
      simp only [h3, if_true]
      have hpos : 0 < new.length * sz := Nat.mul_pos (by omega) hsz
      rw [if_neg (by rw [Nat.zero_add, hf, Nat.add_mul]; omega), if_neg (by omega)]
      have : takeR es.flatten 0 (es.length * sz) = .ok es.flatten := by
        unfold takeR
        rw [if_pos (by rw [hf]; omega), ← hf, List.drop_zero, List.take_length]
      rw [this]; rfl
theorem Mine.append {h0 h : AHeap} {sz bytes : Nat} {es new : List (List AVal)} {v : AVal} (o : Mine h0 h sz es v) (hsz : 0 < sz) (hn : ∀ e ∈ new, e.length = sz) (hb : (es.length + new.length) * bytes ≤ 2 ^ 47) (k : Old h0 h) :
    ∃ v' h', appCore sz bytes h v new.length new.flatten = .ok (v', h') ∧ Mine h0 h' sz (es ++ new) v' ∧ Old h0 h' := by
  obtain ⟨v', h', h1, h2, h3, h4⟩ := o.appendG hsz hn hb k.1
  exact ⟨v', h', h1, h2, Nat.le_trans k.1 h3, fun o ho => (h4 o ho).trans (k.2 o ho)⟩
theorem Mine.append1 {h0 h : AHeap} {sz bytes : Nat} {es : List (List AVal)} {v : AVal} {e : List AVal} (o : Mine h0 h sz es v) (hsz : 0 < sz) (hn : e.length = sz) (hb : (es.length + 1) * bytes ≤ 2 ^ 47) (k : Old h0 h) :
    ∃ v' h', appCore sz bytes h v 1 e = .ok (v', h') ∧ Mine h0 h' sz (es ++ [e]) v' ∧ Old h0 h' := by
  have := o.append (new := [e]) hsz (by simpa using hn) hb k
  simpa using this
theorem Mine.append1G {h0 h : AHeap} {sz bytes : Nat} {es : List (List AVal)} {v : AVal} {e : List AVal} (o : Mine h0 h sz es v) (hsz : 0 < sz) (hn : e.length = sz) (hb : (es.length + 1) * bytes ≤ 2 ^ 47) (k : h0.next ≤ h.next) :
    ∃ v' h', appCore sz bytes h v 1 e = .ok (v', h') ∧ Mine h0 h' sz (es ++ [e]) v' ∧ h.next ≤ h'.next ∧ ∀ o, o < h0.next → h'.get o = h.get o := by
  have := o.appendG (new := [e]) hsz (by simpa using hn) hb k
  simpa using this

/-! ### all of a slice, and a part -/
theorem takes_flat {vs : List AVal} {sz : Nat} : ∀ {es : List (List AVal)} {f : Nat}, f ≤ vs.length → (∀ i e, es[i]? = some e → e.length = sz ∧ takeR vs (f + i * sz) sz = .ok e) → takeR vs f (es.length * sz) = .ok es.flatten
  | [], f, hf, _ => by simp [takeR, hf]
  | e :: es, f, hf, h => by
    obtain ⟨h1, h2⟩ := h 0 e rfl
    rw [Nat.zero_mul, Nat.add_zero] at h2
    have hf2 : f + sz ≤ vs.length := by
      unfold takeR at h2
      split at h2
      · assumption
      · cases h2
    have h3 := takes_flat (es := es) (f := f + sz) hf2 (fun i e' he => by
      have := h (i + 1) e' (by simpa using he)
      rw [Nat.succ_mul] at this
      rw [show f + sz + i * sz = f + (i * sz + sz) by omega]; exact this)
    unfold takeR at h2 h3 ⊢
    rw [if_pos hf2] at h2
    injection h2 with h2
    split at h3
    · rename_i hle
      injection h3 with h3
      have hle2 : f + (es.length + 1) * sz ≤ vs.length := by rw [Nat.succ_mul]; omega
      rw [List.length_cons, if_pos hle2]
      congr 1
      rw [List.flatten_cons, ← h2, ← h3, ← List.drop_drop, Nat.succ_mul, Nat.add_comm (es.length * sz) sz, List.take_add]
    · cases h3

section
variable {c : Cfg} {h : AHeap} {sz : Nat} {v : AVal} {es : List (List AVal)}
theorem Sl.read (s : Sl c h sz v es) : readSl c h sz es.length v = .ok es.flatten := by
  have hl := s.len
  by_cases hne : es = []
  · subst hne
    cases v <;> simp only [lenA] at hl <;> first | (cases hl; done) | (exact absurd rfl (s.noStr _)) | rfl
  · obtain ⟨vs, f, h1, h2⟩ := s.row hne
    have hf : f ≤ vs.length := by
      cases es with
      | nil => exact absurd rfl hne
      | cons e es =>
        obtain ⟨_, h3⟩ := h2 0 e rfl
        unfold takeR at h3
        split at h3
        · omega
        · cases h3
    have h3 := takes_flat hf h2
    cases v <;> simp only [rowOf] at h1 <;> try (cases h1; done)
    · split at h1
      · rename_i hg; injection h1 with h1; injection h1 with h4 h5; subst h4 h5; simp [hg, h3, hne]
      · cases h1
    · split at h1
      · rename_i hg; injection h1 with h1; injection h1 with h4 h5; subst h4 h5; simp [hg, h3, hne]
      · cases h1
    · rename_i r f' n
      cases hr : c.ro r with
      | none => rw [hr] at h1; cases h1
      | some ws => rw [hr] at h1; simp at h1; obtain ⟨rfl, rfl⟩ := h1; simp [hr, h3, hne]
end
end Go.Proofs.Ytbnlhhfobgjeaaa
