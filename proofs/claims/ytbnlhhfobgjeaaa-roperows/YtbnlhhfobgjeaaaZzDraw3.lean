/-
  A region whose order is drawn: each operation that may be next.
-/
import Derived.Test.YtbnlhhfobgjeaaaZzDraw2
set_option linter.all false
namespace Go.Proofs.Ytbnlhhfobgjeaaa
open Go Go.RowKit

section
variable {F : Fix} {C : CallR} {loc : List Nat} {al : List (Nat × Nat)} {bad : List Nat} {ops : Array Oper} {en : Nat → List AVal} {hs ba : Nat → AHeap}
variable {ι0 ι : Inj} {tm0 tm : Array Value} {w0 w : World} {D : Nat → Prop} {E : List AVal} {p : Nat}

/-- what the region is like -/
structure Reg (P : Program) (loc : List Nat) (al : List (Nat × Nat)) (ops : Array Oper) : Prop where
  on : ∀ i o, ops[i]? = some o → ∀ e ∈ o.after.toList, Region.binds .any e = true → e.on < i
  two : ∀ i j x y, i < j → ops[i]? = some x → ops[j]? = some y → befB (Region.before ops) i j = true ∨
    ((∀ t ∈ writesOf loc al x, t ∉ namesOf loc al ops y) ∧ (∀ t ∈ writesOf loc al x, t ∉ writesOf loc al y) ∧ (∀ t ∈ writesOf loc al y, t ∉ namesOf loc al ops x) ∧
      ¬ (kindOf P loc al x = .imp ∧ kindOf P loc al y = .imp) ∧ ¬ (kindOf P loc al x = .alloc ∧ kindOf P loc al y = .imp))

theorem reg_of {P : Program} (h : regionOk P loc ops = true) : Reg P loc (aliasPairs loc ops.toList []) ops := by
  unfold regionOk at h
  simp only [Bool.and_eq_true, List.all_eq_true] at h
  obtain ⟨h1, h2⟩ := h
  have hmem : ∀ {i o}, ops[i]? = some o → (o, i) ∈ ops.toList.zipIdx := by
    intro i o ho
    rw [List.mem_zipIdx_iff_getElem?]
    simpa using ho
  refine ⟨fun i o ho e he hb => ?_, fun i j x y hij hx hy => ?_⟩
  · have := h1 _ (hmem ho)
    simp only [Array.all_eq_true'] at this
    have := this e (by simpa using he)
    simpa [hb] using this
  · have := h2 _ (hmem hx) _ (hmem hy)
    simp only [hij, decide_true, Bool.not_true, Bool.false_or, Bool.or_eq_true, Bool.and_eq_true, Bool.not_eq_true', Bool.and_eq_false_iff, decide_eq_false_iff_not] at this
    rcases this with h | ⟨⟨⟨⟨a1, a2⟩, a3⟩, a4⟩, a5⟩
    · exact .inl h
    · refine .inr ⟨fun t ht hn => ?_, fun t ht hn => ?_, fun t ht hn => ?_, fun hh => ?_, fun hh => ?_⟩
      · have := List.all_eq_true.1 a1 t ht; simp at this; exact this hn
      · have := List.all_eq_true.1 a2 t ht; simp at this; exact this hn
      · have := List.all_eq_true.1 a3 t ht; simp at this; exact this hn
      · rcases a4 with a | a
        · exact a hh.1
        · exact a hh.2
      · rcases a5 with a | a
        · exact a hh.1
        · exact a hh.2

theorem draw_common {i : Nat} {o : Oper} {K K' : AHeap} {envi : List AVal} {env' : List AVal} (ok : F.Ok) (hC : CallSound F C)
    (hal : ∀ t s, lookN al t = some s → loc.contains s = true) (hb1 : ∀ t, loc.contains t = true → bad.contains t = true) (hb2 : ∀ t s, lookN al t = some s → bad.contains t = true)
    (ho : ops[i]? = some o) (hop : opOk loc al o = true) (stK : St F ι loc al E K tm w) (hq : stepP C F.c loc al bad ops o envi K = .ok (env', K'))
    (hn : ∀ t ∈ namesOf loc al ops o, nth E t = nth envi t) (hl : E.length = envi.length) (fr : Fresh ι K.next K'.next) :
    ∃ E', Like (writesOf loc al o) E E' env' ∧ StepTo F.c.P ops i tm w fun tm' w' => ∃ ι', St F ι' loc al E' K' tm' w' ∧ TStep ι K E tm w ι' K' E' tm' w' := by
  obtain ⟨E', h1, h2⟩ := stepP_congr hq hn hl
  refine ⟨E', h2, ?_⟩
  have h3 := step1_P C F.c loc al bad ops o (rs0 E K)
  have h4 : stepP C F.c loc al bad ops o (rs0 E K).env (rs0 E K).h = .ok (E', K') := h1
  rw [h4] at h3
  exact step_ok (s := rs0 E K) ok hC hal hb1 hb2 ho hop stK h3 fr

set_option maxHeartbeats 1000000 in
theorem draw_step (ok : F.Ok) (hC : CallSound F C) (hal : ∀ t s, lookN al t = some s → loc.contains s = true) (hb1 : ∀ t, loc.contains t = true → bad.contains t = true) (hb2 : ∀ t s, lookN al t = some s → bad.contains t = true)
    (hops : ∀ o ∈ ops.toList, opOk loc al o = true) (rg : Reg F.c.P loc al ops) (tr : Trace C F.c loc al bad ops (Region.before ops) en hs ba) (d : DI F loc al ops en hs ba ι0 tm0 w0 D ι tm w E p)
    (hV : ∀ i o, D i → ops[i]? = some o → ∀ e ∈ o.after.toList, Region.binds .any e = true → D e.on)
    {i : Nat} {o : Oper} (ho : ops[i]? = some o) (hni : ¬ D i) (hrd : ∀ e ∈ o.after.toList, Region.binds .any e = true → D e.on) :
    StepTo F.c.P ops i tm w fun tm' w' => ∃ ι' E' p', DI F loc al ops en hs ba ι0 tm0 w0 (fun k => D k ∨ k = i) ι' tm' w' E' p' := by
  have hilt : i < ops.size := (Array.getElem?_eq_some_iff.1 ho).1
  have hop : opOk loc al o = true := hops o (by rw [Array.mem_toList_iff]; exact Array.mem_of_getElem? ho)
  have hbk := before_closed rg.on hV i o ho hrd
  have hbd : ∀ j oj, D j → ops[j]? = some oj → befB (Region.before ops) i j = false := by
    intro j oj hj hoj
    cases hb : befB (Region.before ops) i j with
    | false => rfl
    | true => exact absurd (before_closed rg.on hV j oj hoj (hV j oj hj hoj) i hb) hni
  have hne : ∀ j, D j → j ≠ i := fun j hj he => hni (he ▸ hj)
  have hww : ∀ j o' t, D j → ops[j]? = some o' → t ∈ writesOf loc al o → t ∈ writesOf loc al o' → j < i := by
    intro j o' t hj ho' h1 h2
    rcases Nat.lt_or_gt_of_ne (hne j hj) with h | h
    · exact h
    · rcases rg.two i j o o' h ho ho' with h3 | h3
      · rw [hbd j o' hj ho'] at h3; cases h3
      · exact absurd h2 (h3.2.1 t h1)
  have hn : ∀ t ∈ namesOf loc al ops o, nth E t = nth (en i) t := by
    intro t ht
    refine d.eat.names tr (Nat.le_of_lt hilt) (fun k o' hk ho' hw => ?_) (fun j o' hj ho' hw => ?_)
    · rcases rg.two k i o' o hk ho' ho with h3 | h3
      · exact hbk k h3
      · exact absurd ht (h3.1 t hw)
    · rcases Nat.lt_or_gt_of_ne (hne j hj) with h | h
      · exact h
      · rcases rg.two i j o o' h ho ho' with h3 | h3
        · rw [hbd j o' hj ho'] at h3; cases h3
        · exact absurd ht (h3.2.2.1 t hw)
  have hl : E.length = (en i).length := by rw [d.elen, len_run tr i (Nat.le_of_lt hilt)]
  have hpn : (hs 0).next ≤ (ba p).next := by rw [← d.php]; exact next_le tr (Nat.zero_le _) d.ple
  have hpn' : (ba p).next ≤ (hs ops.size).next := by rw [← d.php]; exact next_le tr d.ple (Nat.le_refl _)
  have hid : ∀ k op, ops[k]? = some op → kindOf F.c.P loc al op = .alloc → (hs (k + 1)).next = (hs k).next + 1 := by
    intro k op hk hkk
    obtain ⟨x, hx, _⟩ := tr.al_ k op hk hkk
    rw [hx]; rfl
  -- nothing but the frame changes
  have quiet : kindOf F.c.P loc al o ≠ .imp → kindOf F.c.P loc al o ≠ .alloc → stepP C F.c loc al bad ops o (en i) (ba p) = .ok (en (i + 1), ba p) →
      StepTo F.c.P ops i tm w fun tm' w' => ∃ ι' E' p', DI F loc al ops en hs ba ι0 tm0 w0 (fun k => D k ∨ k = i) ι' tm' w' E' p' := by
    intro hk1 hk2 hq
    obtain ⟨E', h1, h2⟩ := draw_common ok hC hal hb1 hb2 ho hop d.st hq hn hl (fun o h1 h2 => by omega)
    refine h2.mono fun tm' w' ⟨ι', st', ts⟩ => ⟨ι', E', p, ?_⟩
    refine d.step tr ho hni st' ts h1 hww (Nat.le_refl _) d.ple (fun k op hop' hk => ?_) (fun k op h3 h4 h5 => .inl (d.pal k op h3 h4 h5)) d.php (fun _ _ h => h) d.st.rel.lt (fun _ h => .inl h) ?_ hpn hpn' (fun h => absurd h hk2) ?_
    · rw [d.pimp k op hop' hk]
      constructor
      · exact .inl
      · rintro (h | rfl)
        · exact h
        · rw [ho] at hop'; cases hop'; exact absurd hk hk1
    · intro k op e h3 h4 h5 h6 h7
      obtain ⟨x, hx, _⟩ := tr.al_ k op h5 h6
      obtain ⟨e', e1, _, _, e4, _⟩ := d.pend k op x h3 h4 h5 h6 hx
      rw [h7] at e1; cases e1; exact e4
    · intro q h3 h4
      rcases ts.dom q with h | h | h
      · exact .inl h
      · rcases d.fresh q h3 h4 with h' | ⟨k, op, a1, a2⟩
        · left; rw [← h]; exact h'
        · exact .inr ⟨k, op, .inl a1, a2⟩
      · omega
  cases hk : kindOf F.c.P loc al o with
  | pure => exact quiet (by rw [hk]; simp) (by rw [hk]; simp) ((tr.pu i o ho hk).2 (ba p))
  | read =>
    refine quiet (by rw [hk]; simp) (by rw [hk]; simp) ((tr.rd i o ho hk).2 p d.ple (fun k o' h1 h2 h3 => ?_) (fun k o' h1 h2 h3 h4 => ?_))
    · exact hbd k o' ((d.pimp k o' h2 h3).1 h1) h2
    · cases hb : befB (Region.before ops) k i with
      | false => rfl
      | true =>
        have := (d.pimp k o' h3 h4).2 (hbk k hb)
        omega
  | alloc =>
    have hpi : p ≤ i := by
      refine Nat.le_of_not_lt fun h => hni (d.pal i o h ho hk)
    obtain ⟨x, hx, hq⟩ := tr.al_ i o ho hk
    have hle : (ba p).next ≤ (hs i).next := by rw [← d.php]; exact next_le tr hpi (Nat.le_of_lt hilt)
    have hstep := hid i o ho hk
    have hle' : (hs (i + 1)).next ≤ (hs ops.size).next := next_le tr hilt (Nat.le_refl _)
    have stK : St F ι loc al E { ba p with next := (hs i).next } tm w := d.st.less (fun _ _ h => h) (fun q y h => Nat.lt_of_lt_of_le (d.st.rel.lt q y h) hle)
    have fr : Fresh ι (hs i).next ((hs i).next + 1) := by
      intro q h1 h2
      rcases d.fresh q (by omega) (by omega) with h | ⟨k, op, a1, a2, a3, a4, a5⟩
      · exact h
      · exfalso
        have := hid k op a3 a4
        rcases Nat.lt_or_gt_of_ne (hne k a1) with h | h
        · have := next_le tr (a := k + 1) (b := i) (by omega) (Nat.le_of_lt hilt)
          omega
        · have hkl : k < ops.size := (Array.getElem?_eq_some_iff.1 a3).1
          have := next_le tr (a := i + 1) (b := k) (by omega) (Nat.le_of_lt hkl)
          omega
    obtain ⟨E', h1, h2⟩ := draw_common ok hC hal hb1 hb2 ho hop stK (hq { ba p with next := (hs i).next } rfl) hn hl fr
    refine h2.mono fun tm' w' ⟨ι', st', ts⟩ => ⟨ι', E', p, ?_⟩
    refine d.step tr ho hni st' ts h1 hww (Nat.le_refl _) d.ple (fun k op hop' hkk => ?_) (fun k op h3 h4 h5 => .inl (d.pal k op h3 h4 h5)) d.php (fun q y h => ?_) d.st.rel.lt
      (fun b h => .inl (Own.less (fun _ _ h => h) h)) ?_ (next_le tr (Nat.zero_le _) (Nat.le_of_lt hilt)) ?_ (fun _ => ⟨x, rfl, hx, rfl, hle, fun b h => Own.less (fun _ _ h => h) h⟩) ?_
    · rw [d.pimp k op hop' hkk]
      constructor
      · exact .inl
      · rintro (h | rfl)
        · exact h
        · rw [ho] at hop'; cases hop'; rw [hk] at hkk; cases hkk
    · rw [AHeap.get_push, if_neg]
      · exact h
      · have := d.st.rel.lt q y h
        show q ≠ (hs i).next
        omega
    · intro k op e h3 h4 h5 h6 h7
      obtain ⟨x, hx, _⟩ := tr.al_ k op h5 h6
      obtain ⟨e', e1, _, _, e4, _⟩ := d.pend k op x h3 h4 h5 h6 hx
      rw [h7] at e1; cases e1
      exact fun h => e4 (Own.less (fun _ _ h => h) h)
    · show (hs i).next + 1 ≤ _
      omega
    · intro q h3 h4
      rcases ts.dom q with h | h | h
      · exact .inl h
      · rcases d.fresh q h3 h4 with h' | ⟨k, op, a1, a2⟩
        · left; rw [← h]; exact h'
        · exact .inr ⟨k, op, .inl a1, a2⟩
      · have h5 : (hs i).next ≤ q := h.1
        have h6 : q < (hs i).next + 1 := h.2
        exact .inr ⟨i, o, .inr rfl, hpi, ho, hk, by omega⟩
  | imp =>
    have hkD : ∀ k op, k < i → ops[k]? = some op → kindOf F.c.P loc al op = .imp → D k := by
      intro k op h1 h2 h3
      rcases rg.two k i op o h1 h2 ho with h | h
      · exact hbk k h
      · exact absurd ⟨h3, hk⟩ h.2.2.2.1
    have hDk : ∀ k op, D k → ops[k]? = some op → kindOf F.c.P loc al op = .imp → k < i := by
      intro k op h1 h2 h3
      rcases Nat.lt_or_gt_of_ne (hne k h1) with h | h
      · exact h
      · rcases rg.two i k o op h ho h2 with h4 | h4
        · rw [hbd k op h1 h2] at h4; cases h4
        · exact absurd ⟨hk, h3⟩ h4.2.2.2.1
    have haD : ∀ k op, k < i → ops[k]? = some op → kindOf F.c.P loc al op = .alloc → D k := by
      intro k op h1 h2 h3
      rcases rg.two k i op o h1 h2 ho with h | h
      · exact hbk k h
      · exact absurd ⟨h3, hk⟩ h.2.2.2.2
    have hpi : p ≤ i := Nat.le_of_not_lt fun h => hni ((d.pimp i o ho hk).1 h)
    obtain ⟨stK, hown⟩ := d.at tr hpi (Nat.le_of_lt hilt) (fun k op h1 h2 h3 h4 => by have := (d.pimp k op h3 h4).2 (hkD k op h2 h3 h4); omega) (fun k op h1 h2 h3 h4 => haD k op h2 h3 h4)
    obtain ⟨hq, hba⟩ := tr.imp i o ho hk
    have hle : (ba p).next ≤ (hs i).next := by rw [← d.php]; exact next_le tr hpi (Nat.le_of_lt hilt)
    have hle1 : (hs i).next ≤ (hs (i + 1)).next := tr.next i hilt
    have hle' : (hs (i + 1)).next ≤ (hs ops.size).next := next_le tr hilt (Nat.le_refl _)
    have hside : ∀ k op, D k → ops[k]? = some op → kindOf F.c.P loc al op = .alloc → ((hs k).next < (hs i).next ∧ k < i) ∨ ((hs (i + 1)).next ≤ (hs k).next ∧ i + 1 ≤ k) := by
      intro k op h1 h2 h3
      have := hid k op h2 h3
      rcases Nat.lt_or_gt_of_ne (hne k h1) with h | h
      · have := next_le tr (a := k + 1) (b := i) (by omega) (Nat.le_of_lt hilt)
        exact .inl ⟨by omega, h⟩
      · have hkl : k < ops.size := (Array.getElem?_eq_some_iff.1 h2).1
        have := next_le tr (a := i + 1) (b := k) (by omega) (Nat.le_of_lt hkl)
        exact .inr ⟨this, h⟩
    have fr : Fresh ι (hs i).next (hs (i + 1)).next := by
      intro q h1 h2
      rcases d.fresh q (by omega) (by omega) with h | ⟨k, op, a1, a2, a3, a4, a5⟩
      · exact h
      · exfalso
        have := hside k op a1 a3 a4
        omega
    obtain ⟨E', h1, h2⟩ := draw_common ok hC hal hb1 hb2 ho hop stK hq hn hl fr
    refine h2.mono fun tm' w' ⟨ι', st', ts⟩ => ⟨ι', E', i + 1, ?_⟩
    refine d.step tr ho hni st' ts h1 hww (by omega) hilt (fun k op hop' hkk => ?_) (fun k op h3 h4 h5 => ?_) hba.symm (fun q y h => by rw [hba] at h; exact h) (fun q y h => ?_)
      (fun b h => ?_) ?_ (next_le tr (Nat.zero_le _) (Nat.le_of_lt hilt)) hle' (fun h => by rw [hk] at h; cases h) ?_
    · constructor
      · intro h
        by_cases hki : k = i
        · exact .inr hki
        · exact .inl (hkD k op (by omega) hop' hkk)
      · rintro (h | rfl)
        · have := hDk k op h hop' hkk; omega
        · omega
    · by_cases hki : k = i
      · exact .inr hki
      · exact .inl (haD k op (by omega) h4 h5)
    · rw [hba] at h ⊢; exact st'.rel.lt q y h
    · rcases hown b h with h | ⟨k, op, e, a1, a2, a3, a4, a5, a6, a7⟩
      · exact .inl h
      · obtain ⟨x, hx, _⟩ := tr.al_ k op a4 a5
        obtain ⟨e', e1, _, _, _, _, e6⟩ := d.pend k op x a1 a2 a4 a5 hx
        rw [a6] at e1; cases e1
        rw [← a7]; exact .inr e6
    · intro k op e h3 h4 h5 h6 h7 h8
      obtain ⟨x, hx, _⟩ := tr.al_ k op h5 h6
      obtain ⟨e', e1, _, _, e4, _⟩ := d.pend k op x h3 (by omega) h5 h6 hx
      rw [h7] at e1; cases e1
      rcases hown _ h8 with h | ⟨k', op', e'', a1, a2, a3, a4, a5, a6, a7⟩
      · exact e4 h
      · have := d.pinj k k' op op' e e'' h3 (by omega) h5 h6 a1 a2 a4 a5 h7 a6 a7.symm
        omega
    · intro q h3 h4
      rw [hba] at h3
      rcases ts.dom q with h | h | h
      · exact .inl h
      · rcases d.fresh q (by omega) h4 with h' | ⟨k, op, a1, a2, a3, a4, a5⟩
        · left; rw [← h]; exact h'
        · have := hside k op a1 a3 a4
          exact .inr ⟨k, op, .inl a1, by omega, a3, a4, a5⟩
      · omega

end
end Go.Proofs.Ytbnlhhfobgjeaaa
