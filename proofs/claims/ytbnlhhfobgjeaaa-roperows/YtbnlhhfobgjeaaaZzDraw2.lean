/-
  A region whose order is drawn: what is so while some of it is done.
-/
import Derived.Test.YtbnlhhfobgjeaaaZzDraw
set_option linter.all false
namespace Go.Proofs.Ytbnlhhfobgjeaaa
open Go Go.RowKit

section
variable {F : Fix} {C : CallR} {loc : List Nat} {al : List (Nat × Nat)} {bad : List Nat} {ops : Array Oper} {bef : Array Nat} {en : Nat → List AVal} {hs ba : Nat → AHeap}

structure DI (F : Fix) (loc : List Nat) (al : List (Nat × Nat)) (ops : Array Oper) (en : Nat → List AVal) (hs ba : Nat → AHeap) (ι0 : Inj) (tm0 : Array Value) (w0 : World)
    (D : Nat → Prop) (ι : Inj) (tm : Array Value) (w : World) (E : List AVal) (p : Nat) : Prop where
  ple : p ≤ ops.size
  pimp : ∀ k op, ops[k]? = some op → kindOf F.c.P loc al op = .imp → (k < p ↔ D k)
  pal : ∀ k op, k < p → ops[k]? = some op → kindOf F.c.P loc al op = .alloc → D k
  php : hs p = ba p
  elen : E.length = (en 0).length
  eat : EAt loc al ops en D E
  st : St F ι loc al E (ba p) tm w
  sub : Sub ι0 ι
  dom : ∀ o : Nat, ι o = none ∨ ι0 o = ι o ∨ ((hs 0).next ≤ o ∧ o < (hs ops.size).next)
  fresh : ∀ o, (ba p).next ≤ o → o < (hs ops.size).next → ι o = none ∨ ∃ k op, D k ∧ p ≤ k ∧ ops[k]? = some op ∧ kindOf F.c.P loc al op = .alloc ∧ o = (hs k).next
  keep : Keep (fun b => Own ι0 (hs 0) b ∨ LocB (en 0) tm0 b) w0 w
  own : ∀ b, Own ι (ba p) b → Own ι0 (hs 0) b ∨ w0.heap.size ≤ b
  lc : ∀ b, LocB E tm b → LocB (en 0) tm0 b ∨ w0.heap.size ≤ b
  pend : ∀ k op x, D k → p ≤ k → ops[k]? = some op → kindOf F.c.P loc al op = .alloc → hs (k + 1) = (hs k).push x →
    ∃ e, ι (hs k).next = some e ∧ F.N ≤ e.blk ∧ ObjRel ι F.ρ w e x ∧ ¬ Own ι (ba p) e.blk ∧ ¬ LocB E tm e.blk ∧ w0.heap.size ≤ e.blk
  pinj : ∀ k k' op op' e e', D k → p ≤ k → ops[k]? = some op → kindOf F.c.P loc al op = .alloc → D k' → p ≤ k' → ops[k']? = some op' → kindOf F.c.P loc al op' = .alloc →
    ι (hs k).next = some e → ι (hs k').next = some e' → e.blk = e'.blk → k = k'

theorem EnvOk.heap {ι : Inj} {h h' : AHeap} {env : List AVal} {tm : Array Value} {w : World} (e : EnvOk F ι h loc al env tm w) (hb : ∀ b, LocB env tm b → ¬ Own ι h' b) : EnvOk F ι h' loc al env tm w := by
  refine ⟨e.size, fun t => ?_, e.apart⟩
  have := e.slot t
  unfold SlotOk at this ⊢
  split
  · rename_i vs hv
    simp only [hv] at this
    obtain ⟨h1, b, c, T, h2, h3, h4, h5⟩ := this
    exact ⟨h1, b, c, T, h2, h3, hb b ⟨t, vs, hv, h2⟩, h5⟩
  · rename_i off valid hv
    simp only [hv] at this
    exact this
  · revert this
    cases hx : nth env t <;> simp_all

theorem EnvOk.notOwn {ι : Inj} {h : AHeap} {env : List AVal} {tm : Array Value} {w : World} (e : EnvOk F ι h loc al env tm w) : ∀ b, LocB env tm b → ¬ Own ι h b := by
  rintro b ⟨t, vs, h1, h2⟩
  have := e.slot t
  unfold SlotOk at this
  simp only [h1] at this
  obtain ⟨_, b', c, T, h3, _, h4, _⟩ := this
  rw [h2] at h3; cases h3
  exact h4

/-- a smaller heap -/
theorem Rel.less {ι : Inj} {h h' : AHeap} {w : World} (r : Rel F ι h w) (hg : ∀ o x, h'.get o = some x → h.get o = some x) (hl : ∀ o x, h'.get o = some x → o < h'.next) : Rel F ι h' w :=
  ⟨r.below, fun o x hx => r.obj o x (hg o x hx), fun o o' x x' e e' h1 h2 => r.inj o o' x x' e e' (hg _ _ h1) (hg _ _ h2), hl⟩

theorem Own.less {ι : Inj} {h h' : AHeap} (hg : ∀ o x, h'.get o = some x → h.get o = some x) {b : Nat} (ho : Own ι h' b) : Own ι h b := by
  obtain ⟨o, x, e, h1, h2, h3⟩ := ho
  exact ⟨o, x, e, hg o x h1, h2, h3⟩

theorem St.less {ι : Inj} {h h' : AHeap} {env : List AVal} {tm : Array Value} {w : World} (st : St F ι loc al env h tm w) (hg : ∀ o x, h'.get o = some x → h.get o = some x) (hl : ∀ o x, h'.get o = some x → o < h'.next) : St F ι loc al env h' tm w :=
  ⟨st.rel.less hg hl, st.env.heap fun b hb ho => st.env.notOwn b hb (Own.less hg ho)⟩

variable {ι0 ι : Inj} {tm0 tm : Array Value} {w0 w : World} {D : Nat → Prop} {E : List AVal} {p : Nat}

/-- the heap of the text's run, at a place ahead of which all is done that matters -/
theorem DI.at (tr : Trace C F.c loc al bad ops bef en hs ba) (d : DI F loc al ops en hs ba ι0 tm0 w0 D ι tm w E p) {i : Nat} (hpi : p ≤ i) (hi : i ≤ ops.size)
    (hni : ∀ k op, p ≤ k → k < i → ops[k]? = some op → kindOf F.c.P loc al op ≠ .imp) (hal : ∀ k op, p ≤ k → k < i → ops[k]? = some op → kindOf F.c.P loc al op = .alloc → D k) :
    St F ι loc al E (hs i) tm w ∧ (∀ b, Own ι (hs i) b → Own ι (ba p) b ∨ ∃ k op e, D k ∧ p ≤ k ∧ k < i ∧ ops[k]? = some op ∧ kindOf F.c.P loc al op = .alloc ∧ ι (hs k).next = some e ∧ e.blk = b) := by
  have hget : ∀ o x, (hs i).get o = some x → (ba p).get o = some x ∨ ∃ k op e, D k ∧ p ≤ k ∧ k < i ∧ ops[k]? = some op ∧ kindOf F.c.P loc al op = .alloc ∧ o = (hs k).next ∧ ι o = some e ∧ F.N ≤ e.blk ∧ ObjRel ι F.ρ w e x ∧ ¬ Own ι (ba p) e.blk ∧ ¬ LocB E tm e.blk := by
    intro o x hx
    have := hs_get tr (p := p) (o := o) (x := x) (i - p) (by omega) (fun k op h1 h2 => hni k op h1 (by omega)) (by rw [show p + (i - p) = i by omega]; exact hx)
    rcases this with h | ⟨k, op, h1, h2, h3, h4, h5, h6⟩
    · rw [d.php] at h; exact .inl h
    · have hD := hal k op h1 (by omega) h3 h4
      obtain ⟨e, e1, e2, e3, e4, e5, _⟩ := d.pend k op x hD h1 h3 h4 h6
      exact .inr ⟨k, op, e, hD, h1, by omega, h3, h4, h5, by rw [h5]; exact e1, e2, e3, e4, e5⟩
  have hown : ∀ b, Own ι (hs i) b → Own ι (ba p) b ∨ ∃ k op e, D k ∧ p ≤ k ∧ k < i ∧ ops[k]? = some op ∧ kindOf F.c.P loc al op = .alloc ∧ ι (hs k).next = some e ∧ e.blk = b := by
    rintro b ⟨o, x, e, h1, h2, h3⟩
    rcases hget o x h1 with h | ⟨k, op, e', a1, a2, a3, a4, a5, a6, a7, _⟩
    · exact .inl ⟨o, x, e, h, h2, h3⟩
    · rw [h2] at a7; cases a7
      exact .inr ⟨k, op, e, a1, a2, a3, a4, a5, by rw [← a6]; exact h2, h3⟩
  refine ⟨⟨⟨d.st.rel.below, fun o x hx => ?_, ?_, fun o x hx => ?_⟩, d.st.env.heap fun b hb ho => ?_⟩, hown⟩
  · rcases hget o x hx with h | ⟨k, op, e, a1, a2, a3, a4, a5, a6, a7, a8, a9, _⟩
    · exact d.st.rel.obj o x h
    · exact ⟨e, a7, a8, a9⟩
  · intro o o' x x' e e' h1 h2 h3 h4 h5
    rcases hget o x h1 with h | ⟨k, op, e1, a1, a2, a3, a4, a5, a6, a7, a8, a9, a10, a11⟩ <;> rcases hget o' x' h2 with h' | ⟨k', op', e1', b1, b2, b3, b4, b5, b6, b7, b8, b9, b10, b11⟩
    · exact d.st.rel.inj o o' x x' e e' h h' h3 h4 h5
    · rw [h4] at b7; cases b7
      exact absurd ⟨o, x, e, h, h3, h5⟩ b10
    · rw [h3] at a7; cases a7
      exact absurd ⟨o', x', e', h', h4, h5.symm⟩ a10
    · have := d.pinj k k' op op' e e' a1 a2 a4 a5 b1 b2 b4 b5 (by rw [← a6]; exact h3) (by rw [← b6]; exact h4) h5
      rw [a6, b6, this]
  · rcases hget o x hx with h | ⟨k, op, e, a1, a2, a3, a4, a5, a6, _⟩
    · have := d.st.rel.lt o x h
      rw [← d.php] at this
      exact Nat.lt_of_lt_of_le this (next_le tr hpi hi)
    · obtain ⟨y, y1, _⟩ := tr.al_ k op a4 a5
      have h1 : (hs (k + 1)).next = (hs k).next + 1 := by rw [y1]; rfl
      have := next_le tr (a := k + 1) (b := i) (by omega) hi
      omega
  · rcases hown b ho with h | ⟨k, op, e, a1, a2, a3, a4, a5, a6, a7⟩
    · exact d.st.env.notOwn b hb h
    · obtain ⟨y, y1, _⟩ := tr.al_ k op a4 a5
      obtain ⟨e', e1, _, _, _, e5, _⟩ := d.pend k op y a1 a2 a4 a5 y1
      rw [a6] at e1; cases e1
      rw [a7] at e5; exact e5 hb

/-- one more operation is done -/
theorem DI.step (tr : Trace C F.c loc al bad ops bef en hs ba) (d : DI F loc al ops en hs ba ι0 tm0 w0 D ι tm w E p) {i : Nat} {o : Oper} (ho : ops[i]? = some o) (hni : ¬ D i)
    {K K' : AHeap} {ι' : Inj} {tm' : Array Value} {w' : World} {E' : List AVal} {p' : Nat}
    (st' : St F ι' loc al E' K' tm' w') (ts : TStep ι K E tm w ι' K' E' tm' w') (hlike : Like (writesOf loc al o) E E' (en (i + 1)))
    (hww : ∀ j o' t, D j → ops[j]? = some o' → t ∈ writesOf loc al o → t ∈ writesOf loc al o' → j < i)
    (hpp : p ≤ p') (hple : p' ≤ ops.size) (hpimp : ∀ k op, ops[k]? = some op → kindOf F.c.P loc al op = .imp → (k < p' ↔ (D k ∨ k = i)))
    (hpal : ∀ k op, k < p' → ops[k]? = some op → kindOf F.c.P loc al op = .alloc → D k ∨ k = i) (hphp : hs p' = ba p')
    (hsub : ∀ o x, (ba p').get o = some x → K'.get o = some x) (hblt : ∀ o x, (ba p').get o = some x → o < (ba p').next)
    (hKown : ∀ b, Own ι K b → Own ι (ba p) b ∨ w0.heap.size ≤ b)
    (hKpend : ∀ k op e, D k → p' ≤ k → ops[k]? = some op → kindOf F.c.P loc al op = .alloc → ι (hs k).next = some e → ¬ Own ι K e.blk)
    (hKn : (hs 0).next ≤ K.next) (hKn' : K'.next ≤ (hs ops.size).next)
    (hnew : kindOf F.c.P loc al o = .alloc → ∃ x, K' = K.push x ∧ hs (i + 1) = (hs i).push x ∧ K.next = (hs i).next ∧ (ba p').next ≤ K.next ∧ ∀ b, Own ι K b → Own ι (ba p') b)
    (hfresh : ∀ o, (ba p').next ≤ o → o < (hs ops.size).next → ι' o = none ∨ ∃ k op, (D k ∨ k = i) ∧ p' ≤ k ∧ ops[k]? = some op ∧ kindOf F.c.P loc al op = .alloc ∧ o = (hs k).next) :
    DI F loc al ops en hs ba ι0 tm0 w0 (fun k => D k ∨ k = i) ι' tm' w' E' p' := by
  have hpo : ∀ k op x, D k → p ≤ k → ops[k]? = some op → kindOf F.c.P loc al op = .alloc → hs (k + 1) = (hs k).push x → p' ≤ k →
      ∃ e, ι (hs k).next = some e ∧ ι' (hs k).next = some e ∧ F.N ≤ e.blk ∧ ObjRel ι' F.ρ w' e x ∧ ¬ Own ι' K' e.blk ∧ ¬ LocB E' tm' e.blk ∧ w0.heap.size ≤ e.blk := by
    intro k op x hD hp hop hk hx hp'
    obtain ⟨e, e1, e2, e3, e4, e5, e6⟩ := d.pend k op x hD hp hop hk hx
    have hnK := hKpend k op e hD hp' hop hk e1
    have hlt := e3.lt
    refine ⟨e, e1, ts.sub _ _ e1, e2, e3.mono ts.sub (ts.keep.block _ hlt (fun hb => hb.elim hnK e5)), fun hb => ?_, fun hb => ?_, e6⟩
    · rcases ts.own _ hb with hb | hb
      · exact hnK hb
      · omega
    · rcases ts.loc _ hb with hb | hb
      · exact e5 hb
      · omega
  have hwsz : w0.heap.size ≤ w.heap.size := d.keep.size
  have hnw : kindOf F.c.P loc al o = .alloc → ∀ x, hs (i + 1) = (hs i).push x → ∃ e, ι' (hs i).next = some e ∧ F.N ≤ e.blk ∧ ObjRel ι' F.ρ w' e x ∧ Own ι' K' e.blk ∧ ¬ Own ι' (ba p') e.blk ∧ ¬ LocB E' tm' e.blk ∧ w0.heap.size ≤ e.blk := by
    intro hk x hx
    obtain ⟨y, y1, y2, y3, y4, y5⟩ := hnew hk
    have hxy : x = y := by
      have h1 : ((hs i).push x).get (hs i).next = some x := by rw [AHeap.get_push, if_pos rfl]
      rw [← hx, y2, AHeap.get_push, if_pos rfl] at h1
      cases h1; rfl
    subst hxy
    have hg : K'.get (hs i).next = some x := by rw [y1, AHeap.get_push, if_pos y3.symm]
    obtain ⟨e, e1, e2, e3⟩ := st'.rel.obj _ _ hg
    have hown : Own ι' K' e.blk := ⟨_, _, e, hg, e1, rfl⟩
    have hnb : ¬ Own ι' (ba p') e.blk := by
      rintro ⟨o2, x2, e4, h1, h2, h3⟩
      have := st'.rel.inj _ _ _ _ _ _ (hsub _ _ h1) hg h2 e1 h3
      have := hblt _ _ h1
      omega
    refine ⟨e, e1, e2, e3, hown, hnb, fun hb => st'.env.notOwn _ hb hown, ?_⟩
    rcases ts.own _ hown with hb | hb
    · exfalso
      obtain ⟨o2, x2, e4, h1, h2, h3⟩ := y5 _ hb
      exact hnb ⟨o2, x2, e4, h1, ts.sub _ _ h2, h3⟩
    · omega
  refine ⟨hple, hpimp, hpal, hphp, by rw [hlike.1, d.elen], d.eat.step hlike ho hww, st'.less hsub hblt, d.sub.trans ts.sub, fun o => ?_, hfresh, ?_, fun b hb => ?_, fun b hb => ?_, ?_, ?_⟩
  · rcases ts.dom o with h | h | h
    · exact .inl h
    · rcases d.dom o with h' | h' | h'
      · left; rw [← h]; exact h'
      · right; left; rw [h', h]
      · exact .inr (.inr h')
    · exact .inr (.inr ⟨Nat.le_trans hKn h.1, Nat.lt_of_lt_of_le h.2 hKn'⟩)
  · refine d.keep.trans ts.keep fun b hb => ?_
    rcases hb with hb | hb
    · rcases hKown b hb with hb | hb
      · exact (d.own b hb).imp .inl id
      · exact .inr hb
    · exact (d.lc b hb).imp .inr id
  · rcases ts.own b (Own.less hsub hb) with hb | hb
    · rcases hKown b hb with hb | hb
      · exact d.own b hb
      · exact .inr hb
    · exact .inr (Nat.le_trans hwsz hb)
  · rcases ts.loc b hb with hb | hb
    · exact d.lc b hb
    · exact .inr (Nat.le_trans hwsz hb)
  · intro k op x hD hp hop hk hx
    rcases hD with hD | rfl
    · obtain ⟨e, e0, e1, e2, e3, e4, e5, e6⟩ := hpo k op x hD (Nat.le_trans hpp hp) hop hk hx hp
      exact ⟨e, e1, e2, e3, fun hb => e4 (Own.less hsub hb), e5, e6⟩
    · rw [ho] at hop; cases hop
      obtain ⟨e, e1, e2, e3, e4, e5, e6, e7⟩ := hnw hk x hx
      exact ⟨e, e1, e2, e3, e5, e6, e7⟩
  · intro k k' op op' e e' hD hp hop hk hD' hp' hop' hk' he he' hee
    rcases hD with hD | rfl <;> rcases hD' with hD' | rfl
    · obtain ⟨x, hx, _⟩ := tr.al_ _ _ hop hk
      obtain ⟨x', hx', _⟩ := tr.al_ _ _ hop' hk'
      obtain ⟨f, f0, f1, _⟩ := hpo k op x hD (Nat.le_trans hpp hp) hop hk hx hp
      obtain ⟨f', f0', f1', _⟩ := hpo k' op' x' hD' (Nat.le_trans hpp hp') hop' hk' hx' hp'
      rw [he] at f1; cases f1
      rw [he'] at f1'; cases f1'
      exact d.pinj k k' op op' e e' hD (Nat.le_trans hpp hp) hop hk hD' (Nat.le_trans hpp hp') hop' hk' f0 f0' hee
    · exfalso
      obtain ⟨x, hx, _⟩ := tr.al_ _ _ hop hk
      obtain ⟨f, f0, f1, _, _, f4, _⟩ := hpo k op x hD (Nat.le_trans hpp hp) hop hk hx hp
      rw [he] at f1; cases f1
      obtain ⟨x', hx', _⟩ := tr.al_ _ _ hop' hk'
      rw [ho] at hop'; cases hop'
      obtain ⟨g, g1, _, _, g4, _⟩ := hnw hk' x' hx'
      rw [he'] at g1; cases g1
      rw [hee] at f4; exact f4 g4
    · exfalso
      obtain ⟨x, hx, _⟩ := tr.al_ _ _ hop' hk'
      obtain ⟨f, f0, f1, _, _, f4, _⟩ := hpo k' op' x hD' (Nat.le_trans hpp hp') hop' hk' hx hp'
      rw [he'] at f1; cases f1
      obtain ⟨x', hx', _⟩ := tr.al_ _ _ hop hk
      rw [ho] at hop; cases hop
      obtain ⟨g, g1, _, _, g4, _⟩ := hnw hk x' hx'
      rw [he] at g1; cases g1
      rw [← hee] at f4; exact f4 g4
    · rfl

end
end Go.Proofs.Ytbnlhhfobgjeaaa
