/-
  A part of the proof of ConsoleParses, over the seat YtofnbldbggddmaaGreatDoor: for every input the law returns true, and the input reads as it did.
-/
import Derived.Test.YtofnbldbggddmaaGreatDoorGb
set_option linter.all false
set_option autoImplicit true
set_option relaxedAutoImplicit true
namespace Go.Proofs.YtofnbldbggddmaaGreatDoor
open Go Go.RowKit

section
variable {F : Fix} {ι : Inj} {h : AHeap} {w : World} {loc : List Nat} {al : List (Nat × Nat)} {env : List AVal} {tm : Array Value}

/-- a slot holds what it is said to hold -/
def SlotOk (F : Fix) (ι : Inj) (h : AHeap) (loc : List Nat) (al : List (Nat × Nat)) (env : List AVal) (tm : Array Value) (w : World) (t : Nat) : Prop :=
  match nth env t with
  | .cell vs => loc.contains t = true ∧ ∃ b c T, tm[t]? = some (.pointer (some ⟨b, 0, none⟩)) ∧ F.N ≤ b ∧ ¬ Own ι h b ∧ w.heap[b]? = some (.cells c T (0, 0)) ∧ VRels ι F.ρ vs c.toList ∧ ∀ v ∈ c.toList, oneC v = true
  | .loc off valid => ∃ s, lookN al t = some s ∧ (valid = true → ∃ b, tm[t]? = some (.pointer (some ⟨b, off, none⟩)) ∧ tm[s]? = some (.pointer (some ⟨b, 0, none⟩)))
  | a => VRel ι F.ρ a (tm.getD t undef)

/-- the blocks of the frame's cells -/
def LocB (env : List AVal) (tm : Array Value) (b : Nat) : Prop := ∃ t vs, nth env t = .cell vs ∧ tm[t]? = some (.pointer (some ⟨b, 0, none⟩))

structure EnvOk (F : Fix) (ι : Inj) (h : AHeap) (loc : List Nat) (al : List (Nat × Nat)) (env : List AVal) (tm : Array Value) (w : World) : Prop where
  size : env.length = tm.size
  slot : ∀ t, SlotOk F ι h loc al env tm w t
  apart : ∀ t t' vs vs' b, nth env t = .cell vs → nth env t' = .cell vs' → tm[t]? = some (.pointer (some ⟨b, 0, none⟩)) → tm[t']? = some (.pointer (some ⟨b, 0, none⟩)) → t = t'

/-- a state and a world -/
structure St (F : Fix) (ι : Inj) (loc : List Nat) (al : List (Nat × Nat)) (env : List AVal) (h : AHeap) (tm : Array Value) (w : World) : Prop where
  rel : Rel F ι h w
  env : EnvOk F ι h loc al env tm w

/-- from a state to another one -/
structure TStep (ι : Inj) (h : AHeap) (env : List AVal) (tm : Array Value) (w : World) (ι' : Inj) (h' : AHeap) (env' : List AVal) (tm' : Array Value) (w' : World) : Prop where
  sub : Sub ι ι'
  dom : ∀ o : Nat, ι' o = none ∨ ι o = ι' o ∨ (h.next ≤ o ∧ o < h'.next)
  next : h.next ≤ h'.next
  keep : Keep (fun b => Own ι h b ∨ LocB env tm b) w w'
  own : ∀ b, Own ι' h' b → Own ι h b ∨ w.heap.size ≤ b
  loc : ∀ b, LocB env' tm' b → LocB env tm b ∨ w.heap.size ≤ b

theorem TStep.refl (ι : Inj) (h : AHeap) (env : List AVal) (tm : Array Value) (w : World) : TStep ι h env tm w ι h env tm w :=
  ⟨Sub.refl _, fun _ => .inr (.inl rfl), Nat.le_refl _, Keep.refl _ _, fun _ hb => .inl hb, fun _ hb => .inl hb⟩

theorem TStep.trans {ι₁ ι₂ ι₃ : Inj} {h₁ h₂ h₃ : AHeap} {e₁ e₂ e₃ : List AVal} {t₁ t₂ t₃ : Array Value} {w₁ w₂ w₃ : World} (a : TStep ι₁ h₁ e₁ t₁ w₁ ι₂ h₂ e₂ t₂ w₂) (b : TStep ι₂ h₂ e₂ t₂ w₂ ι₃ h₃ e₃ t₃ w₃) :
    TStep ι₁ h₁ e₁ t₁ w₁ ι₃ h₃ e₃ t₃ w₃ := by
  refine ⟨a.sub.trans b.sub, fun o => ?_, Nat.le_trans a.next b.next, a.keep.trans b.keep (fun b hb => hb.elim (fun h => (a.own b h).imp .inl id) (fun h => (a.loc b h).imp .inr id)), fun k hk => ?_, fun k hk => ?_⟩
  · rcases b.dom o with h | h | h
    · exact .inl h
    · rcases a.dom o with h' | h' | h'
      · left; rw [← h]; exact h'
      · right; left; rw [h', h]
      · exact .inr (.inr ⟨h'.1, Nat.lt_of_lt_of_le h'.2 b.next⟩)
    · exact .inr (.inr ⟨Nat.le_trans a.next h.1, h.2⟩)
  · rcases b.own k hk with h | h
    · exact a.own k h
    · exact .inr (Nat.le_trans a.keep.size h)
  · rcases b.loc k hk with h | h
    · exact a.loc k h
    · exact .inr (Nat.le_trans a.keep.size h)

theorem TStep.fresh {ι₁ ι₂ : Inj} {h₁ h₂ : AHeap} {e₁ e₂ : List AVal} {t₁ t₂ : Array Value} {w₁ w₂ : World} {c : Nat} (a : TStep ι₁ h₁ e₁ t₁ w₁ ι₂ h₂ e₂ t₂ w₂) (h : Fresh ι₁ h₁.next c) : Fresh ι₂ h₂.next c := by
  intro o h1 h2
  rcases a.dom o with h' | h' | h'
  · exact h'
  · rw [← h']; exact h o (Nat.le_trans a.next h1) h2
  · omega

/-- what the heap does, the frame's slots as they were -/
theorem EnvOk.step {ι' : Inj} {h' : AHeap} {w' : World} (e : EnvOk F ι h loc al env tm w) (s : Step ι h w ι' h' w') : EnvOk F ι' h' loc al env tm w' := by
  refine ⟨e.size, fun t => ?_, e.apart⟩
  have := e.slot t
  unfold SlotOk at this ⊢
  split
  · rename_i vs hv
    simp only [hv] at this
    obtain ⟨h1, b, c, T, h2, h3, h4, h5, h6, h7⟩ := this
    have hlt : b < w.heap.size := (Array.getElem?_eq_some_iff.1 h5).1
    exact ⟨h1, b, c, T, h2, h3, fun ho => (s.own b ho).elim h4 (fun hh => by omega), by rw [s.keep.block b hlt h4]; exact h5, h6.mono s.sub, h7⟩
  · rename_i off valid hv
    simp only [hv] at this
    exact this
  · rename_i a hn1 hn2
    have hcell : ∀ vs, nth env t ≠ .cell vs := hn1
    have hloc : ∀ a b, nth env t ≠ .loc a b := hn2
    have hv : VRel ι F.ρ (nth env t) (tm.getD t undef) := by
      revert this
      cases hx : nth env t <;> simp_all
    exact hv.mono s.sub

theorem SlotOk.val (hs : SlotOk F ι h loc al env tm w t) (h1 : loc.contains t = false) (h2 : lookN al t = none) : VRel ι F.ρ (nth env t) (tm.getD t undef) := by
  unfold SlotOk at hs
  split at hs
  · rw [hs.1] at h1; cases h1
  · obtain ⟨s, hs, _⟩ := hs; rw [h2] at hs; cases hs
  · exact hs

theorem SlotOk.of_val (hv : VRel ι F.ρ (nth env t) (tm.getD t undef)) : SlotOk F ι h loc al env tm w t := by
  unfold SlotOk
  split
  · rename_i vs hc; rw [hc] at hv; exact hv.elim
  · rename_i a b hc; rw [hc] at hv; exact hv.elim
  · exact hv

/-- a value into a slot that is no cell's -/
theorem EnvOk.put (e : EnvOk F ι h loc al env tm w) (hal : ∀ t s, lookN al t = some s → loc.contains s = true) {d : Nat} {a : AVal} {v : Value} (hd : loc.contains d = false) (hv : VRel ι F.ρ a v) :
    EnvOk F ι h loc al (setN env d a) (tm.setIfInBounds d v) w ∧ ∀ b, LocB (setN env d a) (tm.setIfInBounds d v) b → LocB env tm b := by
  have hcell : ∀ t vs, nth (setN env d a) t = .cell vs → nth env t = .cell vs ∧ t ≠ d := by
    intro t vs hn
    rw [nth_setN] at hn
    split at hn
    · subst hn; exact hv.elim
    · rename_i hnd
      refine ⟨hn, fun htd => ?_⟩
      subst htd
      have := e.slot t
      unfold SlotOk at this
      rw [hn] at this
      rw [this.1] at hd; cases hd
  have htm : ∀ t, t ≠ d → (tm.setIfInBounds d v)[t]? = tm[t]? := fun t ht => by simp [Array.getElem?_setIfInBounds, Ne.symm ht]
  refine ⟨⟨by rw [length_setN, Array.size_setIfInBounds]; exact e.size, fun t => ?_, ?_⟩, ?_⟩
  · by_cases ht : d = t ∧ d < env.length
    · apply SlotOk.of_val
      rw [nth_setN, if_pos ht]
      obtain ⟨rfl, hlt⟩ := ht
      have : d < tm.size := by rw [← e.size]; exact hlt
      simpa [Array.getElem?_setIfInBounds, this] using hv
    · have hn : nth (setN env d a) t = nth env t := by rw [nth_setN, if_neg ht]
      have hs := e.slot t
      by_cases htd : t = d
      · subst htd
        have hge : ¬ t < env.length := fun hl => ht ⟨rfl, hl⟩
        apply SlotOk.of_val
        rw [hn, nth_eq]
        simp [Nat.not_lt.1 hge, VRel]
      · unfold SlotOk at hs ⊢
        rw [hn]
        split
        · rename_i vs hc
          simp only [hc] at hs
          obtain ⟨h1, b, c, T, h2, r⟩ := hs
          exact ⟨h1, b, c, T, by rw [htm t htd]; exact h2, r⟩
        · rename_i off valid hc
          simp only [hc] at hs
          obtain ⟨s, h1, h2⟩ := hs
          refine ⟨s, h1, fun hval => ?_⟩
          obtain ⟨b, b1, b2⟩ := h2 hval
          have hsd : s ≠ d := fun hh => by subst hh; rw [hal t s h1] at hd; cases hd
          exact ⟨b, by rw [htm t htd]; exact b1, by rw [htm s hsd]; exact b2⟩
        · rename_i hn1 hn2
          have hx : VRel ι F.ρ (nth env t) (tm.getD t undef) := by
            revert hs
            cases hx : nth env t <;> simp_all
          simpa [htm t htd] using hx
  · intro t t' vs vs' b h1 h2 h3 h4
    obtain ⟨a1, a2⟩ := hcell t vs h1
    obtain ⟨b1, b2⟩ := hcell t' vs' h2
    rw [htm t a2] at h3; rw [htm t' b2] at h4
    exact e.apart t t' vs vs' b a1 b1 h3 h4
  · rintro b ⟨t, vs, h1, h2⟩
    obtain ⟨a1, a2⟩ := hcell t vs h1
    exact ⟨t, vs, a1, by rw [htm t a2] at h2; exact h2⟩

/-- slots that are done with -/
theorem EnvOk.clear (e : EnvOk F ι h loc al env tm w) (ns : List Nat) : EnvOk F ι h loc al (clearAll ns env) tm w ∧ ∀ b, LocB (clearAll ns env) tm b → LocB env tm b := by
  have hcell : ∀ t vs, nth (clearAll ns env) t = .cell vs → nth env t = .cell vs := by
    intro t vs hn
    rcases nth_clearAll ns env t with hh | ⟨hh, _⟩
    · rw [hh] at hn; cases hn
    · rw [← hh]; exact hn
  refine ⟨⟨by rw [length_clearAll]; exact e.size, fun t => ?_, fun t t' vs vs' b h1 h2 => e.apart t t' vs vs' b (hcell _ _ h1) (hcell _ _ h2)⟩, ?_⟩
  · rcases nth_clearAll ns env t with hh | ⟨hh, _⟩
    · apply SlotOk.of_val; rw [hh]; trivial
    · have := e.slot t
      unfold SlotOk at this ⊢
      rw [hh]; exact this
  · rintro b ⟨t, vs, h1, h2⟩
    exact ⟨t, vs, hcell t vs h1, h2⟩

/-- a slot that points into a cell -/
theorem EnvOk.putLoc (e : EnvOk F ι h loc al env tm w) (hal : ∀ t s, lookN al t = some s → loc.contains s = true) {d s off : Nat} {valid : Bool} {v : Value} (hd : loc.contains d = false) (hl : lookN al d = some s)
    (hv : valid = true → ∃ b, v = .pointer (some ⟨b, off, none⟩) ∧ tm[s]? = some (.pointer (some ⟨b, 0, none⟩))) :
    EnvOk F ι h loc al (setN env d (.loc off valid)) (tm.setIfInBounds d v) w ∧ ∀ b, LocB (setN env d (.loc off valid)) (tm.setIfInBounds d v) b → LocB env tm b := by
  have hp := e.put hal (a := .dead) (v := v) hd trivial
  obtain ⟨p1, p2⟩ := hp
  have hsd : s ≠ d := fun hh => by have := hal d s hl; rw [hh, hd] at this; cases this
  have htm : ∀ t, t ≠ d → (tm.setIfInBounds d v)[t]? = tm[t]? := fun t ht => by simp [Array.getElem?_setIfInBounds, Ne.symm ht]
  have hcell : ∀ t vs, nth (setN env d (.loc off valid)) t = .cell vs → nth (setN env d .dead) t = .cell vs := by
    intro t vs hn
    rw [nth_setN] at hn ⊢
    split at hn
    · cases hn
    · rename_i hnd; rw [if_neg hnd]; exact hn
  refine ⟨⟨by rw [length_setN, Array.size_setIfInBounds]; exact e.size, fun t => ?_, fun t t' vs vs' b h1 h2 => p1.apart t t' vs vs' b (hcell _ _ h1) (hcell _ _ h2)⟩, ?_⟩
  · by_cases ht : d = t ∧ d < env.length
    · obtain ⟨hdt, hlt⟩ := ht
      unfold SlotOk
      rw [nth_setN, if_pos ⟨hdt, hlt⟩]
      rw [← hdt]
      refine ⟨s, hl, fun hval => ?_⟩
      obtain ⟨b, rfl, b2⟩ := hv hval
      have : d < tm.size := by rw [← e.size]; exact hlt
      exact ⟨b, by simp [Array.getElem?_setIfInBounds, this], by rw [htm s hsd]; exact b2⟩
    · have := p1.slot t
      unfold SlotOk at this ⊢
      have hn : nth (setN env d (.loc off valid)) t = nth (setN env d .dead) t := by rw [nth_setN, nth_setN, if_neg ht, if_neg ht]
      rw [hn]; exact this
  · rintro b ⟨t, vs, h1, h2⟩
    exact p2 b ⟨t, vs, hcell t vs h1, h2⟩

theorem lookN_mem : ∀ {al : List (Nat × Nat)} {t s : Nat}, lookN al t = some s → (t, s) ∈ al
  | [], _, _, h => by simp [lookN] at h
  | (a, b) :: l, t, s, h => by
    unfold lookN at h
    split at h
    · rename_i ha; cases h; subst ha; simp
    · exact List.mem_cons_of_mem _ (lookN_mem h)

/-- a new cell of the frame -/
theorem EnvOk.make (r : Rel F ι h w) (e : EnvOk F ι h loc al env tm w) {d : Nat} {vs : List AVal} {c : Array Value} {T : TypeId} (hd : loc.contains d = true) (hrel : VRels ι F.ρ vs c.toList) (hone : ∀ v ∈ c.toList, oneC v = true)
    {w' : World} (hw' : w' = { w with heap := w.heap.push (.cells c T) }) :
    EnvOk F ι h loc al (setN (clearAll (aliasTo al d) env) d (.cell vs)) (tm.setIfInBounds d (.pointer (some ⟨w.heap.size, 0, none⟩))) w' ∧
      ∀ b, LocB (setN (clearAll (aliasTo al d) env) d (.cell vs)) (tm.setIfInBounds d (.pointer (some ⟨w.heap.size, 0, none⟩))) b → LocB env tm b ∨ b = w.heap.size := by
  subst hw'
  obtain ⟨ec, lc⟩ := e.clear (aliasTo al d)
  have hold : ∀ k, k < w.heap.size → ({ w with heap := w.heap.push (.cells c T) } : World).heap[k]? = w.heap[k]? := by
    intro k hk; simp [Array.getElem?_push, Nat.ne_of_lt hk]
  have hnew : ({ w with heap := w.heap.push (.cells c T) } : World).heap[w.heap.size]? = some (.cells c T) := by simp
  have htm : ∀ t, t ≠ d → (tm.setIfInBounds d (.pointer (some ⟨w.heap.size, 0, none⟩)))[t]? = tm[t]? := fun t ht => by simp [Array.getElem?_setIfInBounds, Ne.symm ht]
  have hlen : (clearAll (aliasTo al d) env).length = tm.size := by rw [length_clearAll]; exact e.size
  have hcases : ∀ t us, nth (setN (clearAll (aliasTo al d) env) d (.cell vs)) t = .cell us → (t = d ∧ d < tm.size ∧ us = vs) ∨ (t ≠ d ∧ nth (clearAll (aliasTo al d) env) t = .cell us) := by
    intro t us hn
    rw [nth_setN] at hn
    split at hn
    · rename_i hh; left; cases hn; exact ⟨hh.1.symm, by rw [← hlen]; exact hh.2, rfl⟩
    · rename_i hh
      right
      refine ⟨fun htd => hh ⟨htd.symm, ?_⟩, hn⟩
      subst htd
      rcases Nat.lt_or_ge t (clearAll (aliasTo al t) env).length with hl | hl
      · exact hl
      · rw [nth_eq] at hn; simp [hl] at hn
  have hblk : ∀ t us b, nth (clearAll (aliasTo al d) env) t = .cell us → tm[t]? = some (.pointer (some ⟨b, 0, none⟩)) → b < w.heap.size := by
    intro t us b hn hb
    have := ec.slot t
    unfold SlotOk at this
    rw [hn] at this
    obtain ⟨_, b', c', T', h2, _, _, h5, _⟩ := this
    rw [hb] at h2; cases h2
    exact (Array.getElem?_eq_some_iff.1 h5).1
  refine ⟨⟨by rw [length_setN, Array.size_setIfInBounds]; exact hlen, fun t => ?_, ?_⟩, ?_⟩
  · by_cases ht : d = t ∧ d < (clearAll (aliasTo al d) env).length
    · obtain ⟨rfl, hlt⟩ := ht
      unfold SlotOk
      rw [nth_setN, if_pos ⟨rfl, hlt⟩]
      rw [hlen] at hlt
      exact ⟨hd, w.heap.size, c, T, by simp [Array.getElem?_setIfInBounds, hlt], r.below.size, fun ho => by have := r.own_lt _ ho; omega, hnew, hrel, hone⟩
    · have hn : nth (setN (clearAll (aliasTo al d) env) d (.cell vs)) t = nth (clearAll (aliasTo al d) env) t := by rw [nth_setN, if_neg ht]
      have hs := ec.slot t
      by_cases htd : t = d
      · subst htd
        have hge : ¬ t < (clearAll (aliasTo al t) env).length := fun hl => ht ⟨rfl, hl⟩
        apply SlotOk.of_val
        rw [hn, nth_eq]
        simp [Nat.not_lt.1 hge, VRel]
      · unfold SlotOk at hs ⊢
        rw [hn]
        split
        · rename_i us hc
          simp only [hc] at hs
          obtain ⟨h1, b, c', T', h2, h3, h4, h5, h6⟩ := hs
          exact ⟨h1, b, c', T', by rw [htm t htd]; exact h2, h3, h4, by rw [hold b (Array.getElem?_eq_some_iff.1 h5).1]; exact h5, h6⟩
        · rename_i off valid hc
          simp only [hc] at hs
          obtain ⟨s, h1, h2⟩ := hs
          refine ⟨s, h1, fun hval => ?_⟩
          obtain ⟨b, b1, b2⟩ := h2 hval
          have hsd : s ≠ d := by
            rintro rfl
            have hm : t ∈ aliasTo al s := by
              unfold aliasTo
              exact List.mem_map.2 ⟨(t, s), List.mem_filter.2 ⟨lookN_mem h1, by simp⟩, rfl⟩
            rcases nth_clearAll (aliasTo al s) env t with hh | ⟨_, hh⟩
            · rw [hh] at hc; cases hc
            · exact hh hm
          exact ⟨b, by rw [htm t htd]; exact b1, by rw [htm s hsd]; exact b2⟩
        · rename_i hn1 hn2
          have hx : VRel ι F.ρ (nth (clearAll (aliasTo al d) env) t) (tm.getD t undef) := by
            revert hs
            cases hx : nth (clearAll (aliasTo al d) env) t <;> simp_all
          simpa [htm t htd] using hx
  · intro t t' us us' b h1 h2 h3 h4
    rcases hcases t us h1 with ⟨rfl, hlt, _⟩ | ⟨hne, h1'⟩ <;> rcases hcases t' us' h2 with ⟨h6, hlt', _⟩ | ⟨hne', h2'⟩
    · exact h6.symm
    · exfalso
      simp [Array.getElem?_setIfInBounds, hlt] at h3
      rw [htm t' hne'] at h4
      have := hblk t' us' b h2' h4
      omega
    · exfalso
      subst h6
      simp [Array.getElem?_setIfInBounds, hlt'] at h4
      rw [htm t hne] at h3
      have := hblk t us b h1' h3
      omega
    · rw [htm t hne] at h3; rw [htm t' hne'] at h4
      exact ec.apart t t' us us' b h1' h2' h3 h4
  · rintro b ⟨t, us, h1, h2⟩
    rcases hcases t us h1 with ⟨rfl, hlt, _⟩ | ⟨hne, h1'⟩
    · right
      simp [Array.getElem?_setIfInBounds, hlt] at h2
      exact h2.symm
    · left
      rw [htm t hne] at h2
      exact lc b ⟨t, us, h1', h2⟩

end
end Go.Proofs.YtofnbldbggddmaaGreatDoor
