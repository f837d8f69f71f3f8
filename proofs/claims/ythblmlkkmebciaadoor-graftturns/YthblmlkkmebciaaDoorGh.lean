/-
  A part of the proof of GraftTurns, over the seat YthblmlkkmebciaaDoor: for every input the law returns true, and the input reads as it did.
-/
import Derived.Test.YthblmlkkmebciaaDoorGg
set_option linter.all false
set_option linter.all false
set_option maxRecDepth 100000
set_option maxHeartbeats 4000000
namespace Go.Proofs.YthblmlkkmebciaaDoor
open Go Go.RowKit Go.Proofs
section
variable {ro : Nat → Option (List AVal)}
/-- one more in the index -/
theorem IX.put {h h2 : AHeap} {s q i : Nat} {t : Rt RunV} {M : Nat × RunV → Prop} {ix : Nat → List (Nat × RunV)} {ks : List (Nat × AVal)} {a : Nat} {x : RunV} {v' : AVal} (S : Sx h s (.map q) t M ix) (R : Rok t.items) (hp : (a, x) ∈ t.items) (hM : ¬ M (a, x)) (hg : h.get q = some (.map (entA ks)))
    (hlo : ∀ j k, j < i → ((ix x.r).map (·.2.n))[j]? = some k → k < x.n) (hhi : ∀ j k, i ≤ j → ((ix x.r).map (·.2.n))[j]? = some k → x.n ≤ k)
    (hpl : PL h2 v' (((ix x.r).map (·.1)).take i ++ a :: ((ix x.r).map (·.1)).drop i)) (hk : ∀ o, o < h.next → ¬ vobj (atK ks x.r) o → h2.get o = h.get o) (hn : h.next ≤ h2.next) (hv : ∀ o, vobj v' o → h.next ≤ o ∧ o < h2.next) :
    ∃ ix', Sx (h2.set q (.map (entA (putK ks x.r v')))) s (.map q) t (fun p => M p ∨ p = (a, x)) ix' ∧ Stp h (SOwn h s (.map q) t) (h2.set q (.map (entA (putK ks x.r v')))) (SOwn (h2.set q (.map (entA (putK ks x.r v')))) s (.map q) t) := by
  obtain ⟨q1, ks', hq, x1, x2, x3, x4, x5⟩ := S.ix.obj.resolve_left (fun e => by cases e.1)
  cases hq
  rw [hg] at x2; cases entA_inj (AObj.map.inj (Option.some.inj x2))
  have hqv : ¬ vobj (atK ks x.r) q := fun e => (x4 _ _ e).2 rfl
  have keepO : ∀ o, o < h.next → ¬ vobj (atK ks x.r) o → o ≠ q → (h2.set q (.map (entA (putK ks x.r v')))).get o = h.get o := fun o h1 h2' h3 => by rw [get_set_ne (Ne.symm h3)]; exact hk o h1 h2'
  have hI : ∀ r o, vobj (atK ks r) o → IObj (.map q) h o := fun r o ho => ⟨q, rfl, .inr ⟨ks, r, hg, ho⟩⟩
  have hIq : IObj (.map q) h q := ⟨q, rfl, .inl rfl⟩
  have hgq : (h2.set q (.map (entA (putK ks x.r v')))).get q = some (.map (entA (putK ks x.r v'))) := get_set_self _ _ _
  have hI2 : ∀ o, IObj (.map q) (h2.set q (.map (entA (putK ks x.r v')))) o → (IObj (.map q) h o ∧ ¬ vobj (atK ks x.r) o) ∨ (h.next ≤ o ∧ o < h2.next) := by
    rintro o ⟨q', e, ho⟩
    cases e
    rcases ho with rfl | ⟨ks', r, e1, e2⟩
    · exact .inl ⟨hIq, hqv⟩
    · rw [hgq] at e1
      cases entA_inj (AObj.map.inj (Option.some.inj e1))
      rw [at_put] at e2
      by_cases hr : r = x.r
      · rw [if_pos hr] at e2; exact .inr (hv o e2)
      · rw [if_neg hr] at e2
        exact .inl ⟨hI r o e2, fun e3 => hr (x5 r x.r o e2 e3)⟩
  refine ⟨fun r => if r = x.r then (ix x.r).take i ++ (a, x) :: (ix x.r).drop i else ix r, ⟨?_, ⟨fun r p => ?_, fun r => ?_, .inr ⟨q, _, rfl, Nat.lt_of_lt_of_le x1 hn, hgq, fun r => ?_, fun r o ho => ?_, fun r r' o ho ho' => ?_⟩⟩, ?_, fun o ho => ?_⟩, hn, fun o ho hno => ?_, fun o ho => ?_⟩
  · obtain ⟨⟨s0, hr⟩, h1, h2', h3, h4, h5⟩ := S.rp
    refine ⟨⟨s0, ?_⟩, At.congr (fun o ho => ?_) h1, h2', h3, Nat.lt_of_lt_of_le h4 hn, fun o ho => Nat.lt_of_lt_of_le (h5 o ho) hn⟩
    · rw [keepO s h4 (fun e => (S.sep s (hI _ _ e)).1 rfl) (fun e => (S.sep q hIq).1 e.symm)]; exact hr
    · exact keepO o (h5 o ho) (fun e => (S.sep o (hI _ _ e)).2 ho) (fun e => (S.sep q hIq).2 (by rw [← e]; exact ho))
  · by_cases hr : r = x.r
    · simp only [if_pos hr]
      have hm := S.ix.mem x.r p
      rw [← List.take_append_drop i (ix x.r)] at hm
      simp only [List.mem_append, List.mem_cons] at hm ⊢
      constructor
      · rintro (h1 | rfl | h1)
        · have := hm.1 (.inl h1); exact ⟨.inl this.1, by rw [hr]; exact this.2⟩
        · exact ⟨.inr rfl, hr.symm⟩
        · have := hm.1 (.inr h1); exact ⟨.inl this.1, by rw [hr]; exact this.2⟩
      · rintro ⟨h1 | rfl, h2'⟩
        · rcases hm.2 ⟨h1, by rw [← hr]; exact h2'⟩ with h3 | h3
          · exact .inl h3
          · exact .inr (.inr h3)
        · exact .inr (.inl rfl)
    · simp only [if_neg hr]
      rw [S.ix.mem r p]
      constructor
      · rintro ⟨h1, h2'⟩; exact ⟨.inl h1, h2'⟩
      · rintro ⟨h1 | rfl, h2'⟩
        · exact ⟨h1, h2'⟩
        · exact (hr h2'.symm).elim
  · by_cases hr : r = x.r
    · simp only [if_pos hr, List.map_append, List.map_cons, List.map_take, List.map_drop]
      refine pw_ins (S.ix.ord x.r) hlo (fun j k hj hk' => ?_)
      have h1 := hhi j k hj hk'
      rcases Nat.lt_or_eq_of_le h1 with h2' | h2'
      · exact h2'
      · exfalso
        rw [List.getElem?_map] at hk'
        cases hx : (ix x.r)[j]? with
        | none => rw [hx] at hk'; cases hk'
        | some p =>
          rw [hx] at hk'
          have hk' : p.2.n = k := by simpa using hk'
          have hpM := (S.ix.mem x.r p).1 (List.mem_of_getElem? hx)
          have hap := R.uniq hp (S.sub p hpM.1) (fun e => hM (e ▸ hpM.1)) hpM.2.symm
          have p1 := (R.ok _ hp).pos
          have p2 := (R.ok _ (S.sub p hpM.1)).pos
          simp only [] at hap p1
          omega
    · simp only [if_neg hr]; exact S.ix.ord r
  · rw [at_put]
    by_cases hr : r = x.r
    · simp only [if_pos hr, List.map_append, List.map_cons, List.map_take, List.map_drop]
      exact hpl.keep (fun o ho => get_set_ne (by have := hv o ho; omega))
    · simp only [if_neg hr]
      exact (x3 r).keep (fun o ho => keepO o (x4 r o ho).1 (fun e => hr (x5 r x.r o ho e)) (x4 r o ho).2)
  · rw [at_put] at ho
    by_cases hr : r = x.r
    · rw [if_pos hr] at ho; have := hv o ho; exact ⟨this.2, by omega⟩
    · rw [if_neg hr] at ho; exact ⟨Nat.lt_of_lt_of_le (x4 r o ho).1 hn, (x4 r o ho).2⟩
  · rw [at_put] at ho ho'
    by_cases hr : r = x.r <;> by_cases hr' : r' = x.r
    · rw [hr, hr']
    · rw [if_pos hr] at ho; rw [if_neg hr'] at ho'
      have := hv o ho; have := (x4 r' o ho').1; omega
    · rw [if_neg hr] at ho; rw [if_pos hr'] at ho'
      have := hv o ho'; have := (x4 r o ho).1; omega
    · rw [if_neg hr] at ho; rw [if_neg hr'] at ho'; exact x5 r r' o ho ho'
  · rintro p (h1 | rfl)
    · exact S.sub p h1
    · exact hp
  · rcases hI2 o ho with h1 | h1
    · exact S.sep o h1.1
    · exact ⟨fun e => by have := S.rp.lr; omega, fun e => by have := S.rp.lt o e; omega⟩
  · exact keepO o ho (fun e => hno (.inr (.inr (hI _ _ e)))) (fun e => hno (.inr (.inr (by rw [e]; exact hIq))))
  · rcases ho with rfl | ho | ho
    · exact .inl (.inl rfl)
    · exact .inl (.inr (.inl ho))
    · rcases hI2 o ho with h1 | h1
      · exact .inl (.inr (.inr h1.1))
      · exact .inr h1.1
theorem know_ev {h : AHeap} {s a : Nat} {m : AVal} {t : Rt RunV} {M : Nat × RunV → Prop} {ix : Nat → List (Nat × RunV)} {x : RunV} (S : Sx h s m t M ix) (R : Rok t.items) (hp : (a, x) ∈ t.items) (hM : ¬ M (a, x)) {Q : AVal → AHeap → Prop}
    (hq : ∀ h' m' ix', Sx h' s m' t (fun p => M p ∨ p = (a, x)) ix' → Stp h (SOwn h s m t) h' (SOwn h' s m' t) → Q (.tuple []) h') : Ev (cfgR ro) 83 [.ptr s 0, .ptr a 0] h Q := by
  refine Ev.wp rfl rfl Tryd.func83 rfl ?_
  obtain ⟨s0, hr⟩ := S.rp.root
  rw [rrow] at hr
  simp only [List.nil_append] at hr
  obtain ⟨u, l, r, ht, sz, all, hn⟩ := At.item S.rp.tree hp
  have iaEq : ∀ q, eqFlat Tryd.prog h (.map 33 164) (.map q) .nilm = .ok false := fun q => by rfl
  have iaNil : eqFlat Tryd.prog h (.map 33 164) .nilm .nilm = .ok true := by rfl
  rcases S.ix.obj with ⟨rfl, hix⟩ | ⟨q, ks, rfl, x1, x2, x3, x4, x5⟩
  · simp -implicitDefEqProofs [Tryd.f83, hr, iaNil]
    obtain ⟨q, hqq⟩ : ∃ q, q = h.next := ⟨_, rfl⟩
    obtain ⟨H1, hH1⟩ : ∃ H1, H1 = (h.push (.map [])).set s (.row 0 false [t.ptr, .int .u64 s0, .map q]) := ⟨_, rfl⟩
    have hsl := S.rp.lr
    have hrp : (h.push (.map [])).get s = some (.row 0 false [t.ptr, .int .u64 s0, .nilm]) := by rw [AHeap.get_push, if_neg (by omega)]; exact hr
    have k1 : ∀ o, o < h.next → o ≠ s → H1.get o = h.get o := fun o h1 h2 => by rw [hH1, get_set_ne (Ne.symm h2), AHeap.get_push, if_neg (by omega)]
    have nx1 : H1.next = h.next + 1 := by rw [hH1]; rfl
    have x1 : q < H1.next := by omega
    have x2 : H1.get q = some (.map (entA [])) := by rw [hH1, get_set_ne (by omega), hqq, get_push_next]; rfl
    have hr1 : H1.get s = some (.row 0 false [t.ptr, .int .u64 s0, .map q]) := by rw [hH1, get_set_self]
    have x4 : ∀ r o, vobj (atK [] r) o → o < H1.next ∧ o ≠ q := fun r o h => h.elim
    have x3 : ∀ r, PL H1 (atK [] r) ((ix r).map (·.1)) := fun r => .inl ⟨by rw [hix]; rfl, rfl⟩
    have hI : ∀ o, IObj (.map q) H1 o → o = q := by
      rintro o ⟨q', e, ho⟩
      cases e
      rcases ho with h1 | ⟨ks, r, e1, e2⟩
      · exact h1
      · rw [x2] at e1; cases entA_inj (AObj.map.inj (Option.some.inj e1)); exact e2.elim
    have S1 : Sx H1 s (.map q) t M ix := by
      refine ⟨⟨⟨s0, hr1⟩, At.congr (fun o ho => k1 o (S.rp.lt o ho) (fun e => S.rp.rt (by rw [← e]; exact ho))) S.rp.tree, S.rp.nd, S.rp.rt, by omega, fun o ho => by have := S.rp.lt o ho; omega⟩, ⟨S.ix.mem, S.ix.ord, .inr ⟨q, [], rfl, x1, x2, x3, x4, fun r r' o h => h.elim⟩⟩, S.sub, fun o ho => ?_⟩
      rw [hI o ho]
      exact ⟨by omega, fun e => by have := S.rp.lt q e; omega⟩
    have P1 : Stp h (SOwn h s .nilm t) H1 (SOwn H1 s (.map q) t) := by
      refine ⟨by omega, fun o ho hn => k1 o ho (fun e => hn (.inl e)), fun o ho => ?_⟩
      rcases ho with h1 | h1 | h1
      · exact .inl (.inl h1)
      · exact .inl (.inr (.inl h1))
      · exact .inr (by rw [hI o h1]; omega)
    have hna : a ≠ s := fun e => S.rp.rt (by rw [← e]; unfold Rt.ids; exact List.mem_map.2 ⟨_, hp, rfl⟩)
    have hn1 : H1.get a = some (nrow u l r ht sz x all) := by rw [k1 a (S.rp.lt a (by unfold Rt.ids; exact List.mem_map.2 ⟨_, hp, rfl⟩)) hna]; exact hn
    simp -implicitDefEqProofs [hrp]
    rw [← hqq, ← hH1]
    obtain ⟨ks, hkk⟩ : ∃ ks : List (Nat × AVal), ks = [] := ⟨_, rfl⟩
    rw [← hkk] at x2 x3 x4
    have hks : ∀ j : Nat, ((ix x.r).map (·.2.n))[j]? = (ix x.r)[j]?.map (·.2.n) := fun j => List.getElem?_map
    have hlen := IX.len S1 (fun p hp => R.ok p (S1.sub p hp)) x.r
    have hnq := S1.lt a (.inr (.inl (by unfold Rt.ids; exact List.mem_map.2 ⟨_, hp, rfl⟩)))
    refine item_ev hn1 ?_
    simp -implicitDefEqProofs [RunV.cells, hr1, look_map x2, same_self]
    refine bsearch_ev (.inr rfl) (x3 x.r) (IX.keys S1 x.r) (by simp; omega) (fun i hi hlo hhi => ?_) (S.ix.ord x.r)
    rw [List.length_map] at hi
    obtain ⟨H2, hH2⟩ : ∃ H2, H2 = H1.push (.row 1 false [.ptr a 0]) := ⟨_, rfl⟩
    simp -implicitDefEqProofs [RunV.cells, hr1, look_map x2, same_self, buildSliceR, reps]
    rw [← hH2]
    refine ins_ev (ps := (ix x.r).map (·.1)) (q := H1.next) (p := a) ((x3 x.r).keep (fun o ho => by rw [hH2, AHeap.get_push, if_neg (by have := (x4 _ _ ho).1; omega)])) (by rw [hH2]; exact get_push_next _ _) (fun e => by have := (x4 _ _ e).1; omega) (by simpa using hi) (by simp; omega) (fun v' h3 c1 c2 c3 c4 => ?_)
    have n2 : H2.next = H1.next + 1 := by rw [hH2]; rfl
    have g2 : ∀ o, o < H1.next → H2.get o = H1.get o := fun o ho => by rw [hH2, AHeap.get_push, if_neg (by omega)]
    obtain ⟨ix', S2, P2⟩ := IX.put S1 R hp hM x2 hlo hhi c1 (fun o ho hv => by rw [c2 o (by omega) hv, g2 o ho]) (by omega) (fun o ho => by have := c4 o ho; omega)
    have hqv : ¬ vobj (atK ks x.r) q := fun e => (x4 _ _ e).2 rfl
    have x2' : h3.get q = some (.map (entA ks)) := by rw [c2 q (by omega) hqv, g2 q x1]; exact x2
    have hs3 : h3.get s = H1.get s := by rw [c2 s (by have := S1.rp.lr; omega) (fun e => (S1.sep s ⟨q, rfl, .inr ⟨ks, x.r, x2, e⟩⟩).1 rfl), g2 s S1.rp.lr]
    have hr3 := hr1
    rw [← hs3] at hr3
    have hr4 := hr3
    rw [← get_set_ne (h := h3) (o := s) (q := q) (x := .map (entA (putK ks x.r v'))) (fun e => (S1.sep q ⟨q, rfl, .inl rfl⟩).1 e)] at hr4
    simp -implicitDefEqProofs [RunV.cells, hr1, hr3, hr4, look_map x2, same_self, put_map x2']
    exact hq _ _ ix' S2 (P1.trans P2)
  · simp -implicitDefEqProofs [Tryd.f83, hr, iaEq]
    obtain ⟨H1, hH1⟩ : ∃ H1, H1 = h := ⟨_, rfl⟩
    have S1 := S
    have hn1 := hn
    have hr1 := hr
    rw [← hH1] at S1 hn1 hr1 x1 x2 x3 x4 ⊢
    have hks : ∀ j : Nat, ((ix x.r).map (·.2.n))[j]? = (ix x.r)[j]?.map (·.2.n) := fun j => List.getElem?_map
    have hlen := IX.len S1 (fun p hp => R.ok p (S1.sub p hp)) x.r
    have hnq := S1.lt a (.inr (.inl (by unfold Rt.ids; exact List.mem_map.2 ⟨_, hp, rfl⟩)))
    refine item_ev hn1 ?_
    simp -implicitDefEqProofs [RunV.cells, hr1, look_map x2, same_self]
    refine bsearch_ev (.inr rfl) (x3 x.r) (IX.keys S1 x.r) (by simp; omega) (fun i hi hlo hhi => ?_) (S.ix.ord x.r)
    rw [List.length_map] at hi
    obtain ⟨H2, hH2⟩ : ∃ H2, H2 = H1.push (.row 1 false [.ptr a 0]) := ⟨_, rfl⟩
    simp -implicitDefEqProofs [RunV.cells, hr1, look_map x2, same_self, buildSliceR, reps]
    rw [← hH2]
    refine ins_ev (ps := (ix x.r).map (·.1)) (q := H1.next) (p := a) ((x3 x.r).keep (fun o ho => by rw [hH2, AHeap.get_push, if_neg (by have := (x4 _ _ ho).1; omega)])) (by rw [hH2]; exact get_push_next _ _) (fun e => by have := (x4 _ _ e).1; omega) (by simpa using hi) (by simp; omega) (fun v' h3 c1 c2 c3 c4 => ?_)
    have n2 : H2.next = H1.next + 1 := by rw [hH2]; rfl
    have g2 : ∀ o, o < H1.next → H2.get o = H1.get o := fun o ho => by rw [hH2, AHeap.get_push, if_neg (by omega)]
    obtain ⟨ix', S2, P2⟩ := IX.put S1 R hp hM x2 hlo hhi c1 (fun o ho hv => by rw [c2 o (by omega) hv, g2 o ho]) (by omega) (fun o ho => by have := c4 o ho; omega)
    have hqv : ¬ vobj (atK ks x.r) q := fun e => (x4 _ _ e).2 rfl
    have x2' : h3.get q = some (.map (entA ks)) := by rw [c2 q (by omega) hqv, g2 q x1]; exact x2
    have hs3 : h3.get s = H1.get s := by rw [c2 s (by have := S1.rp.lr; omega) (fun e => (S1.sep s ⟨q, rfl, .inr ⟨ks, x.r, x2, e⟩⟩).1 rfl), g2 s S1.rp.lr]
    have hr3 := hr1
    rw [← hs3] at hr3
    have hr4 := hr3
    rw [← get_set_ne (h := h3) (o := s) (q := q) (x := .map (entA (putK ks x.r v'))) (fun e => (S1.sep q ⟨q, rfl, .inl rfl⟩).1 e)] at hr4
    simp -implicitDefEqProofs [RunV.cells, hr1, hr3, hr4, look_map x2, same_self, put_map x2']
    exact hq _ _ ix' S2 (by rw [hH1] at P2; exact P2)
end
end Go.Proofs.YthblmlkkmebciaaDoor
set_option linter.all false
set_option maxRecDepth 100000
set_option maxHeartbeats 4000000
namespace Go.Proofs.YthblmlkkmebciaaDoor
open Go Go.RowKit Go.Proofs
section
variable {ro : Nat → Option (List AVal)}
theorem del_ev {h : AHeap} {v : AVal} {ps : List Nat} {i : Nat} (hv : PL h v ps) (hi : i < ps.length) (hl : ps.length < 2 ^ 40) {Q : AVal → AHeap → Prop}
    (hK : ∀ v' h', PL h' v' (ps.take i ++ ps.drop (i + 1)) → (∀ o, ¬ vobj v o → h'.get o = h.get o) → h'.next = h.next → (∀ o, vobj v' o → vobj v o) → Q v' h') : Ev (cfgR ro) 124 [v, .int .i64 (i : Nat), .int .i64 ((i + 1 : Nat) : Int)] h Q := by
  rcases hv with ⟨rfl, rfl⟩ | ⟨o, fz, vs, rfl, h1, h2, h3⟩
  · simp at hi
  refine Ev.wp rfl rfl Tryd.func124 rfl ?_
  obtain ⟨n, hn⟩ : ∃ n, n = ps.length := ⟨_, rfl⟩
  obtain ⟨j, hj⟩ : ∃ j, j = i + 1 := ⟨_, rfl⟩
  rw [← hn] at h2 h3 hi hl ⊢
  rw [← hj]
  have hne : decide ((i : Int) = (j : Int)) = false := decide_eq_false (by omega)
  have b1 : boundR (.int .i64 (n : Int)) n = .ok n := bd_nat (Nat.le_refl _)
  have b2 : boundR (.int .i64 (j : Int)) n = .ok j := bd_nat (by omega)
  have b3 : boundR (.int .i64 (i : Int)) j = .ok i := bd_nat (by omega)
  have b4 : boundR (.int .i64 (i : Int)) n = .ok i := bd_nat (by omega)
  obtain ⟨d, hd⟩ : ∃ d, d = n - j := ⟨_, rfl⟩
  obtain ⟨l, hll⟩ : ∃ l, l = i + d := ⟨_, rfl⟩
  have hroom : ∀ (h' : AHeap) (ws : List AVal) off, h'.get o = some (.row 1 fz ws) → roomOf h' o off 1 = .ok (ws.length - off) := fun h' ws off e => by unfold roomOf; rw [e]; simp
  have k1 : sliceSl h 1 (.sl o 0 n) (some (.int .i64 (i : Int))) (some (.int .i64 (j : Int))) (some (.int .i64 (n : Int))) = .ok (slcOf o 0 1 i j n) := by simp [sliceSl, bounds3, b1, b2, b3]
  have bx : boundR (.int .i64 (i : Int)) (max n (vs.length - 0)) = .ok i := bd_nat (by omega)
  have k2 : sliceSl h 1 (.sl o 0 n) none (some (.int .i64 (i : Int))) none = .ok (.sl o 0 i) := by simp only [sliceSl, hroom h vs 0 h1, bounds2, Res.ok_bind, bx]; simp
  have k3 : sliceSl h 1 (.sl o 0 n) (some (.int .i64 (j : Int))) none none = .ok (.sl o j d) := by simp only [sliceSl, hroom h vs 0 h1, bounds2, Res.ok_bind, b2]; simp [hd]
  obtain ⟨new, hnew⟩ : ∃ new, new = (vs.drop j).take d := ⟨_, rfl⟩
  have hnl : new.length = d := by rw [hnew]; simp; omega
  have k4 : readSl (cfgR ro) h 1 d (.sl o j d) = .ok new := by
    simp only [rs_sl, h1]
    by_cases c : d = 0
    · rw [if_pos c, hnew, c]; rfl
    · rw [if_neg c]; unfold takeR; rw [if_pos (by omega), Nat.mul_one, hnew]
  have k4' : (if d = 0 then Res.ok [] else takeR vs j d) = .ok new := by
    have := k4
    simp only [rs_sl, h1, Nat.mul_one] at this
    exact this
  obtain ⟨ws, hws⟩ : ∃ ws, ws = vs.take i ++ new ++ vs.drop (i + d) := ⟨_, rfl⟩
  have hwl : ws.length = vs.length := by rw [hws]; simp; omega
  have k5 : appCore 1 8 h (.sl o 0 i) d new = .ok (.sl o 0 l, h.set o (.row 1 fz ws)) := by
    unfold appCore
    simp only [h1, if_true]
    rw [if_pos (by omega)]
    unfold overR
    rw [if_pos (by omega), Nat.zero_add, Nat.mul_one, hnl, ← hws, hll]; rfl
  obtain ⟨H, hH⟩ : ∃ H, H = h.set o (.row 1 fz ws) := ⟨_, rfl⟩
  rw [← hH] at k5
  have hg : H.get o = some (.row 1 fz ws) := by rw [hH, get_set_self]
  have by_ : boundR (.int .i64 (n : Int)) (max l (ws.length - 0)) = .ok n := bd_nat (by omega)
  have bz : boundR (.int .i64 (l : Int)) n = .ok l := bd_nat (by omega)
  have bx2 : boundR (.int .i64 (i : Int)) (max n (ws.length - 0)) = .ok i := bd_nat (by omega)
  have k2H : sliceSl H 1 (.sl o 0 n) none (some (.int .i64 (i : Int))) none = .ok (.sl o 0 i) := by simp only [sliceSl, hroom H ws 0 hg, bounds2, Res.ok_bind, bx2]; simp
  have k3H : sliceSl H 1 (.sl o 0 n) (some (.int .i64 (j : Int))) none none = .ok (.sl o j d) := by simp only [sliceSl, hroom H ws 0 hg, bounds2, Res.ok_bind, b2]; simp [hd]
  have k6 : sliceSl H 1 (.sl o 0 l) (some (.int .i64 (l : Int))) (some (.int .i64 (n : Int))) none = .ok (.sl o l 1) := by
    simp only [sliceSl, hroom H ws 0 hg, bounds2, Res.ok_bind, by_, bz]; simp; omega
  have k7 : clearR (cfgR ro) H 164 (.sl o l 1) = .ok (.tuple [], H.set o (.row 1 fz (ws.take l ++ [.nilp] ++ ws.drop (l + 1)))) := by
    unfold clearR
    simp [hg, reps, overR]
    rw [if_pos (by omega)]; rfl
  simp -implicitDefEqProofs [Tryd.f124, h1, k1, hne, k2, k3, k4', k5, k6, k7, k2H, k3H, same_self]
  have e1 : l + 1 = n := by omega
  refine hK (.sl o 0 l) (H.set o (.row 1 fz (ws.take l ++ .nilp :: ws.drop (l + 1)))) (.inr ⟨o, fz, ws.take l ++ .nilp :: ws.drop (l + 1), ?_, get_set_self _ _ _, ?_, ?_⟩) (fun o' ho => ?_) (by rw [AHeap.next_set, hH, AHeap.next_set]) (fun o' ho => ho)
  · have : (ps.take i ++ ps.drop (i + 1)).length = l := by simp; omega
    rw [this]
  · have : (ps.take i ++ ps.drop (i + 1)).length = l := by simp; omega
    rw [this, List.take_append_of_le_length (by simp; omega), List.take_take, Nat.min_self]
    have hv : vs.take i = (ps.map fun p => AVal.ptr p 0).take i := by rw [← h2, List.take_take, Nat.min_eq_left (by omega)]
    have hv2 : new = (ps.map fun p => AVal.ptr p 0).drop j := by
      rw [← h2, hnew, List.drop_take, hd]
    rw [hws, List.take_append_of_le_length (by simp; omega), List.take_of_length_le (by simp; omega), hv, hv2, List.map_append, List.map_take, List.map_drop, hj]
  · have : (ps.take i ++ ps.drop (i + 1)).length = l := by simp; omega
    rw [this]; simp; omega
  · rw [get_set_ne (fun e => ho (by rw [← e]; rfl)), hH, get_set_ne (fun e => ho (by rw [← e]; rfl))]
end
end Go.Proofs.YthblmlkkmebciaaDoor
set_option linter.all false
set_option maxRecDepth 100000
set_option maxHeartbeats 4000000
namespace Go.Proofs.YthblmlkkmebciaaDoor
open Go Go.RowKit Go.Proofs
/-! lists of runs that may stand together -/
theorem Rok.iff (L1 L2 : List (Nat × RunV)) (p : Nat × RunV) : Rok (L1 ++ p :: L2) ↔ Rok (L1 ++ L2) ∧ RunOk p.2 ∧ ∀ q ∈ L1 ++ L2, q.2.apart p.2 := by
  constructor
  · rintro ⟨h1, h2⟩
    rw [List.pairwise_append, List.pairwise_cons] at h2
    obtain ⟨a1, ⟨a2, a3⟩, a4⟩ := h2
    refine ⟨⟨fun q hq => h1 q ?_, ?_⟩, h1 p (by simp), fun q hq => ?_⟩
    · rcases List.mem_append.1 hq with h | h <;> simp [h]
    · rw [List.pairwise_append]; exact ⟨a1, a3, fun a ha b hb => a4 a ha b (by simp [hb])⟩
    · rcases List.mem_append.1 hq with h | h
      · exact a4 q h p (by simp)
      · exact apart_symm (a2 q h)
  · rintro ⟨⟨h1, h2⟩, h3, h4⟩
    rw [List.pairwise_append] at h2
    refine ⟨fun q hq => ?_, ?_⟩
    · rcases List.mem_append.1 hq with h | h
      · exact h1 q (by simp [h])
      · rcases List.mem_cons.1 h with rfl | h
        · exact h3
        · exact h1 q (by simp [h])
    · rw [List.pairwise_append, List.pairwise_cons]
      refine ⟨h2.1, ⟨fun q hq => apart_symm (h4 q (by simp [hq])), h2.2.1⟩, fun a ha b hb => ?_⟩
      rcases List.mem_cons.1 hb with rfl | hb
      · exact h4 a (by simp [ha])
      · exact h2.2.2 a ha b hb
/-- a part of a run -/
def RunV.within (z y : RunV) : Prop := z.r = y.r ∧ y.n ≤ z.n ∧ z.n + z.text.length ≤ y.n + y.text.length
theorem apart_within {x y z : RunV} (h : x.apart y) (w : z.within y) : x.apart z := by
  obtain ⟨w1, w2, w3⟩ := w
  intro e
  have := h (e.trans w1)
  omega
theorem fst_within (y : RunV) (k : Nat) : (y.fst k).within y := ⟨rfl, Nat.le_refl _, by simp [RunV.fst]; omega⟩
theorem snd_within (y : RunV) {k : Nat} (hk : k ≤ y.text.length) : (y.snd k).within y := ⟨rfl, by simp [RunV.snd], by simp [RunV.snd]; omega⟩
theorem RunOk.fst {y : RunV} (h : RunOk y) {k : Nat} (h1 : 1 ≤ k) (h2 : k < y.text.length) : RunOk (y.fst k) := by
  obtain ⟨a1, a2, a3, a4, a5, a6⟩ := h
  have hl : (y.fst k).text.length = k := by simp [RunV.fst]; omega
  exact ⟨by omega, by omega, a3, by show y.n + _ ≤ _; omega, a5, by show y.en + _ ≤ _; omega⟩
theorem RunOk.snd {y : RunV} (h : RunOk y) {k : Nat} (h1 : 1 ≤ k) (h2 : k < y.text.length) : RunOk (y.snd k) := by
  obtain ⟨a1, a2, a3, a4, a5, a6⟩ := h
  have hl : (y.snd k).text.length = y.text.length - k := by simp [RunV.snd]
  exact ⟨by omega, by omega, by show 1 ≤ y.n + k; omega, by show y.n + k + _ ≤ _; omega, by show 1 ≤ y.en + k; omega, by show y.en + k + _ ≤ _; omega⟩
theorem Rok.set {L1 L2 : List (Nat × RunV)} {a b : Nat} {y z : RunV} (h : Rok (L1 ++ (a, y) :: L2)) (hz : RunOk z) (w : z.within y) : Rok (L1 ++ (b, z) :: L2) := by
  rw [Rok.iff] at h ⊢
  exact ⟨h.1, hz, fun q hq => apart_within (h.2.2 q hq) w⟩
theorem Rok.cut {L1 L2 : List (Nat × RunV)} {a b c : Nat} {y : RunV} {k : Nat} (h : Rok (L1 ++ (a, y) :: L2)) (h1 : 1 ≤ k) (h2 : k < y.text.length) : Rok (L1 ++ (b, y.fst k) :: (c, y.snd k) :: L2) := by
  have hy := ((Rok.iff _ _ _).1 h).2.1
  have e := h.set (b := c) (hy.snd h1 h2) (snd_within y (Nat.le_of_lt h2))
  rw [Rok.iff] at h ⊢
  refine ⟨e, hy.fst h1 h2, fun q hq => ?_⟩
  rcases List.mem_append.1 hq with hq | hq
  · exact apart_within (h.2.2 q (by simp [hq])) (fst_within y k)
  · rcases List.mem_cons.1 hq with rfl | hq
    · intro _; right; show y.n + _ ≤ y.n + k; simp [RunV.fst]; omega
    · exact apart_within (h.2.2 q (by simp [hq])) (fst_within y k)
theorem Rok.join {L1 L2 : List (Nat × RunV)} {a b : Nat} {x y : RunV} (h : Rok (L1 ++ (a, x) :: (b, y) :: L2)) (j : x.joins y) : Rok (L1 ++ (a, x.join y) :: L2) := by
  rw [Rok.iff] at h
  obtain ⟨h1, h2, h3⟩ := h
  rw [Rok.iff] at h1
  obtain ⟨g1, g2, g3⟩ := h1
  rw [Rok.iff]
  have hl : (x.join y).text.length = x.text.length + y.text.length := by simp [RunV.join]
  obtain ⟨⟨j1, j2, j3⟩, ⟨j4, j5⟩, j6, j7⟩ := j
  refine ⟨g1, ?_, fun q hq => ?_⟩
  · obtain ⟨a1, a2, a3, a4, a5, a6⟩ := h2
    obtain ⟨b1, b2, b3, b4, b5, b6⟩ := g2
    simp only [] at a1 a2 a3 a4 a5 a6 b1 b2 b3 b4 b5 b6
    exact ⟨by simp only []; omega, by simp only []; omega, a3, by show x.n + _ ≤ _; simp only []; omega, a5, by show x.en + _ ≤ _; simp only []; omega⟩
  · have e1 := h3 q (by rcases List.mem_append.1 hq with h | h <;> simp [h])
    have e2 := g3 q hq
    intro e
    have e1 := e1 e
    have e2 := e2 (e.trans j2)
    simp only [] at e1 e2
    show _ ≤ x.n ∨ x.n + _ ≤ _
    rw [hl]
    have p1 := h2.pos; have p2 := g2.pos; simp only [] at p1 p2
    have pq : 0 < q.2.text.length := (g1.ok q hq).pos
    omega
theorem Rok.drop {L1 L2 : List (Nat × RunV)} {p : Nat × RunV} (h : Rok (L1 ++ p :: L2)) : Rok (L1 ++ L2) := ((Rok.iff _ _ _).1 h).1
theorem Rok.len {L : List (Nat × RunV)} (h : Rok L) : L.length ≤ atomsN (L.map (·.2)) := by
  have := h.ok
  clear h
  induction L with
  | nil => simp
  | cons p L ih =>
    have h1 := ih (fun q hq => this q (by simp [hq]))
    have h2 := (this p (by simp)).pos
    have e : atomsN ((p :: L).map (·.2)) = p.2.text.length + atomsN (L.map (·.2)) := by simp [atomsN]
    rw [e, List.length_cons]; omega
section
variable {h h' : AHeap} {s : Nat} {m : AVal} {t t' : Rt RunV} {ix : Nat → List (Nat × RunV)}
theorem fit_of (R : Rok t.items) (ha : t.at_ ≤ 2 ^ 20) : t.items.length < 2 ^ 37 ∧ t.at_ < 2 ^ 37 ∧ Fit t := by
  have := R.len
  have e : atomsN (t.items.map (·.2)) = t.at_ := rfl
  unfold Fit
  omega
theorem Sx.congr {M M' : Nat × RunV → Prop} (S : Sx h s m t M ix) (e : ∀ p, M p ↔ M' p) : Sx h s m t M' ix := by
  have : M = M' := funext fun p => propext (e p)
  rw [← this]; exact S
/-- another run at a place, with the same name -/
theorem Sx.set {L1 L2 : List (Nat × RunV)} {a : Nat} {y z : RunV} (S : Sx h s m t (· ∈ t.items) ix) (hT : t.items = L1 ++ (a, y) :: L2) (hT' : t'.items = L1 ++ (a, z) :: L2) (er : z.r = y.r) (en : z.n = y.n)
    (R : Rp ([], [m]) h' s t') (k : ∀ o, o < h.next → o ∉ t.ids → h'.get o = h.get o) (hn : h.next ≤ h'.next) :
    ∃ ix', Sx h' s m t' (· ∈ t'.items) ix' ∧ Stp h (SOwn h s m t) h' (SOwn h' s m t') := by
  have hids : t'.ids = t.ids := by unfold Rt.ids; rw [hT, hT']; simp
  have kk : ∀ o, IObj m h o → h'.get o = h.get o := fun o ho => k o (S.lt o (.inr (.inr ho))) (S.sep o ho).2
  have hnd : t.ids.Nodup := S.rp.nd
  have hna : ∀ p ∈ L1 ++ L2, p.1 ≠ a := by
    have h1 := hnd
    unfold Rt.ids at h1
    rw [hT, List.map_append, List.map_cons, List.nodup_append, List.nodup_cons] at h1
    intro p hp e
    rcases List.mem_append.1 hp with hp | hp
    · exact h1.2.2 p.1 (List.mem_map.2 ⟨p, hp, rfl⟩) a (by simp) e
    · exact h1.2.1.1 (List.mem_map.2 ⟨p, hp, e⟩)
  have hf : ∀ p, p ∈ t.items ↔ p = (a, y) ∨ p ∈ L1 ++ L2 := fun p => by
    rw [hT]; simp only [List.mem_append, List.mem_cons]
    constructor
    · rintro (h | h | h)
      · exact .inr (.inl h)
      · exact .inl h
      · exact .inr (.inr h)
    · rintro (h | h | h)
      · exact .inr (.inl h)
      · exact .inl h
      · exact .inr (.inr h)
  have hf' : ∀ p, p ∈ t'.items ↔ p = (a, z) ∨ p ∈ L1 ++ L2 := fun p => by
    rw [hT']; simp only [List.mem_append, List.mem_cons]
    constructor
    · rintro (h | h | h)
      · exact .inr (.inl h)
      · exact .inl h
      · exact .inr (.inr h)
    · rintro (h | h | h)
      · exact .inr (.inl h)
      · exact .inl h
      · exact .inr (.inr h)
  let g : Nat × RunV → Nat × RunV := fun p => if p.1 = a then (a, z) else p
  have g1 : ∀ p, (g p).1 = p.1 := fun p => by simp only [g]; split <;> simp_all
  have g2 : ∀ p, p ∈ t.items → (g p).2.n = p.2.n ∧ (g p).2.r = p.2.r := fun p hp => by
    simp only [g]
    by_cases e : p.1 = a
    · rw [if_pos e]
      rcases (hf p).1 hp with rfl | h2
      · exact ⟨en, er⟩
      · exact (hna p h2 e).elim
    · rw [if_neg e]; exact ⟨rfl, rfl⟩
  have hmem : ∀ r p, p ∈ ix r → p ∈ t.items := fun r p hp => ((S.ix.mem r p).1 hp).1
  have X := S.ix
  have hm1 : ∀ r, (((ix r).map g).map (·.1)) = (ix r).map (·.1) := fun r => by
    rw [List.map_map]; exact List.map_congr_left (fun p _ => g1 p)
  have hm2 : ∀ r, (((ix r).map g).map (·.2.n)) = (ix r).map (·.2.n) := fun r => by
    rw [List.map_map]; exact List.map_congr_left (fun p hp => (g2 p (hmem r p hp)).1)
  refine ⟨fun r => (ix r).map g, ⟨R, ⟨fun r p => ?_, fun r => ?_, ?_⟩, fun p hp => hp, fun o ho => ?_⟩, hn, fun o ho hn' => k o ho (fun e => hn' (.inr (.inl e))), fun o ho => ?_⟩
  · rw [List.mem_map]
    constructor
    · rintro ⟨q, hq, rfl⟩
      obtain ⟨q1, q2⟩ := (X.mem r q).1 hq
      refine ⟨(hf' _).2 ?_, by rw [(g2 q q1).2]; exact q2⟩
      simp only [g]
      rcases (hf q).1 q1 with rfl | h2
      · left; rw [if_pos rfl]
      · right; rw [if_neg (hna q h2)]; exact h2
    · rintro ⟨h1, h2⟩
      rcases (hf' p).1 h1 with rfl | h3
      · exact ⟨(a, y), (X.mem r _).2 ⟨(hf _).2 (.inl rfl), by rw [← h2]; exact er.symm⟩, by simp [g]⟩
      · exact ⟨p, (X.mem r p).2 ⟨(hf p).2 (.inr h3), h2⟩, by simp only [g]; rw [if_neg (hna p h3)]⟩
  · simp only [hm2]; exact X.ord r
  · have X' := X.keep kk hn
    rcases X'.obj with ⟨h1, h2⟩ | ⟨q, ks, h1, h2, h3, h4, h5⟩
    · exact .inl ⟨h1, fun r => by simp [h2 r]⟩
    · exact .inr ⟨q, ks, h1, h2, h3, fun r => by rw [hm1]; exact h4 r, h5⟩
  · rw [hids]; exact S.sep o ((IObj.keep S kk o).1 ho)
  · rcases ho with rfl | ho | ho
    · exact .inl (.inl rfl)
    · exact .inl (.inr (.inl (by rw [← hids]; exact ho)))
    · exact .inl (.inr (.inr ((IObj.keep S kk o).1 ho)))
end
end Go.Proofs.YthblmlkkmebciaaDoor
set_option linter.all false
set_option maxRecDepth 100000
set_option maxHeartbeats 4000000
namespace Go.Proofs.YthblmlkkmebciaaDoor
open Go Go.RowKit Go.Proofs
theorem mem_del {α : Type} {l : List α} {i : Nat} {p : α} : p ∈ l.take i ++ l.drop (i + 1) ↔ ∃ j, j ≠ i ∧ l[j]? = some p := by
  rw [List.mem_append]
  constructor
  · rintro (h | h)
    · obtain ⟨j, hj⟩ := List.mem_iff_getElem?.1 h
      rw [List.getElem?_take] at hj
      split at hj
      · exact ⟨j, by omega, hj⟩
      · cases hj
    · obtain ⟨j, hj⟩ := List.mem_iff_getElem?.1 h
      rw [List.getElem?_drop] at hj
      exact ⟨i + 1 + j, by omega, hj⟩
  · rintro ⟨j, h1, h2⟩
    by_cases c : j < i
    · left; refine List.mem_iff_getElem?.2 ⟨j, ?_⟩; rw [List.getElem?_take, if_pos c]; exact h2
    · right; refine List.mem_iff_getElem?.2 ⟨j - (i + 1), ?_⟩; rw [List.getElem?_drop, show i + 1 + (j - (i + 1)) = j by omega]; exact h2
section
variable {ro : Nat → Option (List AVal)}
theorem IX.at_eq {h : AHeap} {m : AVal} {M : Nat × RunV → Prop} {ix : Nat → List (Nat × RunV)} (X : IX h m M ix) {r i j : Nat} {p p' : Nat × RunV} (h1 : (ix r)[i]? = some p) (h2 : (ix r)[j]? = some p') (e : p.2.n = p'.2.n) : i = j := by
  obtain ⟨l1, e1⟩ := List.getElem?_eq_some_iff.1 h1
  obtain ⟨l2, e2⟩ := List.getElem?_eq_some_iff.1 h2
  rcases Nat.lt_trichotomy i j with c | c | c
  · have := List.pairwise_iff_getElem.1 (X.ord r) i j (by simpa using l1) (by simpa using l2) c
    simp [e1, e2] at this; omega
  · exact c
  · have := List.pairwise_iff_getElem.1 (X.ord r) j i (by simpa using l2) (by simpa using l1) c
    simp [e1, e2] at this; omega
/-- one less in the index -/
theorem IX.del {h h2 : AHeap} {s q i : Nat} {t : Rt RunV} {M : Nat × RunV → Prop} {ix : Nat → List (Nat × RunV)} {ks : List (Nat × AVal)} {a : Nat} {x : RunV} {v' : AVal} (S : Sx h s (.map q) t M ix) (hi : (ix x.r)[i]? = some (a, x)) (hg : h.get q = some (.map (entA ks)))
    (hpl : PL h2 v' (((ix x.r).map (·.1)).take i ++ ((ix x.r).map (·.1)).drop (i + 1))) (hk : ∀ o, ¬ vobj (atK ks x.r) o → h2.get o = h.get o) (hn : h2.next = h.next) (hv : ∀ o, vobj v' o → vobj (atK ks x.r) o) :
    ∃ ix', Sx (h2.set q (.map (entA (putK ks x.r v')))) s (.map q) t (fun p => M p ∧ p ≠ (a, x)) ix' ∧ Stp h (SOwn h s (.map q) t) (h2.set q (.map (entA (putK ks x.r v')))) (SOwn (h2.set q (.map (entA (putK ks x.r v')))) s (.map q) t) := by
  obtain ⟨q1, ks', hq, x1, x2, x3, x4, x5⟩ := S.ix.obj.resolve_left (fun e => by cases e.1)
  cases hq
  rw [hg] at x2; cases entA_inj (AObj.map.inj (Option.some.inj x2))
  have hqv : ¬ vobj (atK ks x.r) q := fun e => (x4 _ _ e).2 rfl
  have keepO : ∀ o, ¬ vobj (atK ks x.r) o → o ≠ q → (h2.set q (.map (entA (putK ks x.r v')))).get o = h.get o := fun o h2' h3 => by rw [get_set_ne (Ne.symm h3)]; exact hk o h2'
  have hI : ∀ r o, vobj (atK ks r) o → IObj (.map q) h o := fun r o ho => ⟨q, rfl, .inr ⟨ks, r, hg, ho⟩⟩
  have hIq : IObj (.map q) h q := ⟨q, rfl, .inl rfl⟩
  have hgq : (h2.set q (.map (entA (putK ks x.r v')))).get q = some (.map (entA (putK ks x.r v'))) := get_set_self _ _ _
  have hI2 : ∀ o, IObj (.map q) (h2.set q (.map (entA (putK ks x.r v')))) o → IObj (.map q) h o := by
    rintro o ⟨q', e, ho⟩
    cases e
    rcases ho with rfl | ⟨ks', r, e1, e2⟩
    · exact hIq
    · rw [hgq] at e1
      cases entA_inj (AObj.map.inj (Option.some.inj e1))
      rw [at_put] at e2
      by_cases hr : r = x.r
      · rw [if_pos hr] at e2; exact hI x.r o (hv o e2)
      · rw [if_neg hr] at e2
        exact hI r o e2
  have hn' : (h2.set q (.map (entA (putK ks x.r v')))).next = h.next := by rw [AHeap.next_set, hn]
  have hax := (S.ix.mem x.r _).1 (List.mem_of_getElem? hi)
  refine ⟨fun r => if r = x.r then (ix x.r).take i ++ (ix x.r).drop (i + 1) else ix r, ⟨?_, ⟨fun r p => ?_, fun r => ?_, .inr ⟨q, _, rfl, by rw [hn']; exact x1, hgq, fun r => ?_, fun r o ho => ?_, fun r r' o ho ho' => ?_⟩⟩, fun p hp => S.sub p hp.1, fun o ho => S.sep o (hI2 o ho)⟩, by rw [hn']; exact Nat.le_refl _, fun o ho hno => ?_, fun o ho => ?_⟩
  · obtain ⟨⟨s0, hr⟩, h1, h2', h3, h4, h5⟩ := S.rp
    refine ⟨⟨s0, ?_⟩, At.congr (fun o ho => ?_) h1, h2', h3, by rw [hn']; exact h4, fun o ho => by rw [hn']; exact h5 o ho⟩
    · rw [keepO s (fun e => (S.sep s (hI _ _ e)).1 rfl) (fun e => (S.sep q hIq).1 e.symm)]; exact hr
    · exact keepO o (fun e => (S.sep o (hI _ _ e)).2 ho) (fun e => (S.sep q hIq).2 (by rw [← e]; exact ho))
  · by_cases hr : r = x.r
    · simp only [if_pos hr]
      rw [mem_del]
      constructor
      · rintro ⟨j, h1, h2'⟩
        have := (S.ix.mem x.r p).1 (List.mem_of_getElem? h2')
        exact ⟨⟨this.1, fun e => h1 (S.ix.at_eq h2' hi (by rw [e]))⟩, by rw [hr]; exact this.2⟩
      · rintro ⟨⟨h1, h2'⟩, h3⟩
        obtain ⟨j, hj⟩ := List.mem_iff_getElem?.1 ((S.ix.mem x.r p).2 ⟨h1, by rw [← hr]; exact h3⟩)
        exact ⟨j, fun e => h2' (by rw [e, hi] at hj; exact (Option.some.inj hj).symm), hj⟩
    · simp only [if_neg hr]
      rw [S.ix.mem r p]
      constructor
      · rintro ⟨h1, h2'⟩; exact ⟨⟨h1, fun e => hr (by rw [← h2', e])⟩, h2'⟩
      · rintro ⟨h1, h2'⟩; exact ⟨h1.1, h2'⟩
  · by_cases hr : r = x.r
    · simp only [if_pos hr]
      have := S.ix.ord x.r
      refine List.Pairwise.sublist (List.Sublist.map _ ?_) this
      rw [← List.eraseIdx_eq_take_drop_succ]; exact List.eraseIdx_sublist _ _
    · simp only [if_neg hr]; exact S.ix.ord r
  · rw [at_put]
    by_cases hr : r = x.r
    · simp only [if_pos hr, List.map_append, List.map_take, List.map_drop]
      exact hpl.keep (fun o ho => get_set_ne (fun e => hqv (by rw [e]; exact hv o ho)))
    · simp only [if_neg hr]
      exact (x3 r).keep (fun o ho => keepO o (fun e => hr (x5 r x.r o ho e)) (x4 r o ho).2)
  · rw [at_put] at ho
    rw [hn']
    by_cases hr : r = x.r
    · rw [if_pos hr] at ho; exact x4 x.r o (hv o ho)
    · rw [if_neg hr] at ho; exact x4 r o ho
  · rw [at_put] at ho ho'
    by_cases hr : r = x.r <;> by_cases hr' : r' = x.r
    · rw [hr, hr']
    · rw [if_pos hr] at ho; rw [if_neg hr'] at ho'
      exact (hr' (x5 r' x.r o ho' (hv o ho))).elim
    · rw [if_neg hr] at ho; rw [if_pos hr'] at ho'
      exact (hr (x5 r x.r o ho (hv o ho'))).elim
    · rw [if_neg hr] at ho; rw [if_neg hr'] at ho'; exact x5 r r' o ho ho'
  · exact keepO o (fun e => hno (.inr (.inr (hI _ _ e)))) (fun e => hno (.inr (.inr (by rw [e]; exact hIq))))
  · rcases ho with rfl | ho | ho
    · exact .inl (.inl rfl)
    · exact .inl (.inr (.inl ho))
    · exact .inl (.inr (.inr (hI2 o ho)))
theorem forget_ev {h : AHeap} {s a : Nat} {m : AVal} {t : Rt RunV} {ix : Nat → List (Nat × RunV)} {x : RunV} {L1 L2 : List (Nat × RunV)} (S : Sx h s m t (· ∈ t.items) ix) (R : Rok t.items) (hT : t.items = L1 ++ (a, x) :: L2) (hfit : Fit t) {Q : AVal → AHeap → Prop}
    (hq : ∀ h' t' ix', Sx h' s m t' (· ∈ t'.items) ix' → t'.items = L1 ++ L2 → Stp h (SOwn h s m t) h' (SOwn h' s m t') → Q (.tuple []) h') : Ev (cfgR ro) 112 [.ptr s 0, .ptr a 0] h Q := by
  refine Ev.wp rfl rfl Tryd.func112 rfl ?_
  obtain ⟨s0, hr⟩ := S.rp.root
  rw [rrow] at hr
  simp only [List.nil_append] at hr
  have hp : (a, x) ∈ t.items := by rw [hT]; simp
  obtain ⟨u, l, r, ht, sz, all, hn⟩ := At.item S.rp.tree hp
  have hx := R.ok _ hp
  simp only [] at hx
  have hhas : x.has x.r x.n := ⟨rfl, Nat.le_refl _, by have := hx.pos; omega⟩
  have hn2 := hx.n2
  simp -implicitDefEqProofs [Tryd.f112]
  refine item_ev hn ?_
  simp -implicitDefEqProofs [RunV.cells]
  refine keyID_ev ?_
  simp -implicitDefEqProofs [idA]
  refine find_ev (ar := x.r) (an := x.n) S R (by omega) (fun i p hi hh => ?_) (fun i hno => (hno _ hp hhas).elim)
  have hpx : p = (a, x) := by
    have hm := (S.ix.mem x.r p).1 (List.mem_of_getElem? hi)
    by_cases e : p = (a, x)
    · exact e
    · exact (apart_has (R.uniq hm.1 hp e) hh hhas).elim
  subst hpx
  rcases S.ix.obj with ⟨rfl, hix⟩ | ⟨q, ks, rfl, x1, x2, x3, x4, x5⟩
  · rw [hix] at hi; cases hi
  have hil : i < (ix x.r).length := (List.getElem?_eq_some_iff.1 hi).1
  have hlen := IX.len S (fun p hp => R.ok p hp) x.r
  have w1 : IntKind.i64.wrap ((i : Int) + 1) = ((i + 1 : Nat) : Int) := by rw [w64 (by omega) (by omega)]; omega
  simp -implicitDefEqProofs [hr, look_map x2, w1, same_self]
  refine del_ev (x3 x.r) (by simpa using hil) (by simp; omega) (fun v' h2 c1 c2 c3 c4 => ?_)
  obtain ⟨ix', S2, P2⟩ := IX.del S hi x2 c1 c2 c3 c4
  have hqv : ¬ vobj (atK ks x.r) q := fun e => (x4 _ _ e).2 rfl
  have x2' : h2.get q = some (.map (entA ks)) := by rw [c2 q hqv]; exact x2
  have hs3 : h2.get s = h.get s := by rw [c2 s (fun e => (S.sep s ⟨q, rfl, .inr ⟨ks, x.r, x2, e⟩⟩).1 rfl)]
  have hr3 := hr
  rw [← hs3] at hr3
  have hr4 := hr3
  rw [← get_set_ne (h := h2) (o := s) (q := q) (x := .map (entA (putK ks x.r v'))) (fun e => (S.sep q ⟨q, rfl, .inl rfl⟩).1 e)] at hr4
  have lk2 := look_map (ro := ro) (r := x.r) x2'
  simp -implicitDefEqProofs [hr, hr3, hr4, look_map x2, lk2, same_self, put_map x2']
  refine ⟨.inl (by decide +kernel), ?_⟩
  refine rope_remove (z := ([], [.map q])) S2.rp hT hfit (fun h' t' R' e1 k1 n1 => ?_)
  have hids : ∀ o ∈ t'.ids, o ∈ t.ids := fun o ho => by
    unfold Rt.ids at ho ⊢
    rw [e1] at ho; rw [hT]
    simp only [List.map_append, List.map_cons, List.mem_append, List.mem_cons] at ho ⊢
    rcases ho with h | h
    · exact .inl h
    · exact .inr (.inr h)
  have hnd := S.rp.nd
  have hmem : ∀ p, (p ∈ t.items ∧ p ≠ (a, x)) ↔ p ∈ t'.items := fun p => by
    rw [e1, hT]
    unfold Rt.ids at hnd
    rw [hT, List.map_append, List.map_cons, List.nodup_append, List.nodup_cons] at hnd
    simp only [List.mem_append, List.mem_cons]
    constructor
    · rintro ⟨h1 | h1 | h1, h2⟩
      · exact .inl h1
      · exact (h2 h1).elim
      · exact .inr h1
    · rintro (h1 | h1)
      · exact ⟨.inl h1, fun e => hnd.2.2 p.1 (List.mem_map.2 ⟨p, h1, rfl⟩) a (by simp) (by rw [e])⟩
      · exact ⟨.inr (.inr h1), fun e => hnd.2.1.1 (List.mem_map.2 ⟨p, h1, by rw [e]⟩)⟩
  obtain ⟨S3, P3⟩ := S2.tree R' (fun p hp => (hmem p).1 hp) k1 n1 (fun o ho => .inl (hids o ho))
  simp -implicitDefEqProofs
  exact hq _ t' ix' (S3.congr hmem) e1 (P2.trans P3)
end
end Go.Proofs.YthblmlkkmebciaaDoor
set_option linter.all false
set_option maxRecDepth 100000
set_option maxHeartbeats 4000000
namespace Go.Proofs.YthblmlkkmebciaaDoor
open Go Go.RowKit Go.Proofs
section
variable {ro : Nat → Option (List AVal)}
theorem atomsN_mid (L1 L2 : List (Nat × RunV)) (p : Nat × RunV) : atomsN ((L1 ++ p :: L2).map (·.2)) = atomsN (L1.map (·.2)) + p.2.text.length + atomsN (L2.map (·.2)) := by
  simp [atomsN]; omega
theorem at_items {t : Rt RunV} {L : List (Nat × RunV)} (h : t.items = L) : t.at_ = atomsN (L.map (·.2)) := by rw [← h]; rfl
theorem cut_ev {h : AHeap} {s a k : Nat} {m : AVal} {t : Rt RunV} {ix : Nat → List (Nat × RunV)} {y : RunV} {L1 L2 : List (Nat × RunV)} (S : Sx h s m t (· ∈ t.items) ix) (R : Rok t.items) (hT : t.items = L1 ++ (a, y) :: L2) (hat : t.at_ ≤ 2 ^ 20) (hk : k < 2 ^ 60) {Q : AVal → AHeap → Prop}
    (hq1 : 1 ≤ k → k < y.text.length → ∀ h' m' t' ix' b, Sx h' s m' t' (· ∈ t'.items) ix' → t'.items = L1 ++ (a, y.fst k) :: (b, y.snd k) :: L2 → Stp h (SOwn h s m t) h' (SOwn h' s m' t') → Q (.ptr a 0) h')
    (hq2 : (k < 1 ∨ y.text.length ≤ k) → Q (.ptr a 0) h) : Ev (cfgR ro) 81 [.ptr s 0, .ptr a 0, .int .i64 k] h Q := by
  refine Ev.wp rfl rfl Tryd.func81 rfl ?_
  have hp : (a, y) ∈ t.items := by rw [hT]; simp
  obtain ⟨u, l, r, ht, sz, all, hn⟩ := At.item S.rp.tree hp
  have hy := R.ok _ hp
  simp only [] at hy
  have hfit := fit_of R hat
  have hata := at_items hT
  rw [atomsN_mid] at hata
  simp only [] at hata
  simp -implicitDefEqProofs [Tryd.f81]
  refine item_ev hn ?_
  simp -implicitDefEqProofs [same_self]
  refine rCut_ev hy hk (fun h1 h2 => ?_) (fun h1 => ?_)
  · simp -implicitDefEqProofs [RunV.cells, same_self]
    refine rope_set (z := ([], [m])) (x := y.fst k) S.rp hT ⟨by omega, by simp [RunV.fst]; omega⟩ (fun H1 t1 R1 e1 k1 n1 => ?_)
    obtain ⟨ix1, S1, P1⟩ := S.set (t' := t1) (z := y.fst k) hT e1 rfl rfl R1 k1 n1
    simp -implicitDefEqProofs [RunV.cells, same_self]
    refine rope_put (z := ([], [m])) (x := y.snd k) (L1 := L1 ++ [(a, y.fst k)]) (L2 := L2) S1.rp (by rw [e1]; simp) ⟨?_, ?_⟩ (.inr ⟨L1, a, _, rfl, rfl⟩) (fun b H2 t2 R2 e2 b2 k2 n2 => ?_)
    · have := congrArg List.length e1; have e0 := congrArg List.length hT; simp at this e0; omega
    · have := at_items e1; rw [atomsN_mid] at this; simp [RunV.fst, RunV.snd] at this ⊢; omega
    have e2' : t2.items = L1 ++ (a, y.fst k) :: (b, y.snd k) :: L2 := by rw [e2]; simp
    have hR2 : Rok t2.items := by rw [e2']; rw [hT] at R; exact R.cut h1 h2
    obtain ⟨S2, P2⟩ := S1.tree R2 (fun p hp => by
      rw [e1] at hp; rw [e2']
      simp only [List.mem_append, List.mem_cons] at hp ⊢
      rcases hp with h | h | h
      · exact .inl h
      · exact .inr (.inl h)
      · exact .inr (.inr (.inr h))) k2 n2 (fun o ho => by
      unfold Rt.ids at ho ⊢
      rw [e2'] at ho; rw [e1]
      simp only [List.map_append, List.map_cons, List.mem_append, List.mem_cons] at ho ⊢
      rcases ho with h | h | h | h
      · exact .inl (.inl h)
      · exact .inl (.inr (.inl h))
      · exact .inr (by omega)
      · exact .inl (.inr (.inr h)))
    simp -implicitDefEqProofs [RunV.cells, same_self]
    have hb2 : (b, y.snd k) ∈ t2.items := by rw [e2']; simp
    have hnb : ¬ (b, y.snd k) ∈ t1.items := fun hm => by
      have := S1.rp.lt b (by unfold Rt.ids; exact List.mem_map.2 ⟨_, hm, rfl⟩)
      omega
    refine know_ev S2 hR2 hb2 hnb (fun H3 m3 ix3 S3 P3 => ?_)
    simp -implicitDefEqProofs
    refine hq1 h1 h2 H3 m3 t2 ix3 b (S3.congr (fun p => ?_)) e2' ((P1.trans P2).trans P3)
    rw [e1, e2']
    simp only [List.mem_append, List.mem_cons]
    constructor
    · rintro ((h | h | h) | h)
      · exact .inl h
      · exact .inr (.inl h)
      · exact .inr (.inr (.inr h))
      · exact .inr (.inr (.inl h))
    · rintro (h | h | h | h)
      · exact .inl (.inl h)
      · exact .inl (.inr (.inl h))
      · exact .inr h
      · exact .inl (.inr (.inr h))
  · simp -implicitDefEqProofs [zeroRun, same_self]
    exact hq2 h1
theorem join_nil {h : AHeap} {s : Nat} {Q : AVal → AHeap → Prop} (hq : Q (.tuple []) h) : Ev (cfgR ro) 84 [.ptr s 0, .nilp] h Q := by
  refine Ev.wp rfl rfl Tryd.func84 rfl ?_
  simp -implicitDefEqProofs [Tryd.f84]
  exact hq
theorem join_ev {h : AHeap} {s a : Nat} {m : AVal} {t : Rt RunV} {ix : Nat → List (Nat × RunV)} {x : RunV} {L1 L2 : List (Nat × RunV)} (S : Sx h s m t (· ∈ t.items) ix) (R : Rok t.items) (hT : t.items = L1 ++ (a, x) :: L2) (hat : t.at_ ≤ 2 ^ 20) {Q : AVal → AHeap → Prop}
    (hq : ∀ h' t' ix', Sx h' s m t' (· ∈ t'.items) ix' → t'.items = L1 ++ jn a x L2 → Stp h (SOwn h s m t) h' (SOwn h' s m t') → Q (.tuple []) h') : Ev (cfgR ro) 84 [.ptr s 0, .ptr a 0] h Q := by
  refine Ev.wp rfl rfl Tryd.func84 rfl ?_
  have hp : (a, x) ∈ t.items := by rw [hT]; simp
  obtain ⟨u, l, r, ht, sz, all, hn⟩ := At.item S.rp.tree hp
  have hx := R.ok _ hp
  simp only [] at hx
  have hfit := fit_of R hat
  have hata := at_items hT
  rw [atomsN_mid] at hata
  simp only [] at hata
  simp -implicitDefEqProofs [Tryd.f84]
  refine rope_next S.rp.tree S.rp.nd hT ?_
  cases L2 with
  | nil =>
    simp -implicitDefEqProofs [headP]
    exact hq h t ix S hT (Stp.refl _ _)
  | cons p L3 =>
    obtain ⟨b, y⟩ := p
    have hpy : (b, y) ∈ t.items := by rw [hT]; simp
    obtain ⟨u2, l2, r2, ht2, sz2, all2, hn2⟩ := At.item S.rp.tree hpy
    have hy := R.ok _ hpy
    simp only [] at hy
    simp -implicitDefEqProofs [headP]
    refine item_ev hn ?_
    simp -implicitDefEqProofs [same_self]
    refine item_ev hn2 ?_
    simp -implicitDefEqProofs [same_self]
    refine rJoin_ev hx hy (fun hj => ?_) (fun hj => ?_)
    · simp -implicitDefEqProofs [RunV.cells, same_self]
      have hT2 : t.items = (L1 ++ [(a, x)]) ++ (b, y) :: L3 := by rw [hT]; simp
      refine forget_ev S R hT2 hfit.2.2 (fun H1 t1 ix1 S1 e1 P1 => ?_)
      have e1' : t1.items = L1 ++ (a, x) :: L3 := by rw [e1]; simp
      simp -implicitDefEqProofs [RunV.cells, same_self]
      refine rope_set (z := ([], [m])) (x := x.join y) S1.rp e1' ⟨?_, ?_⟩ (fun H2 t2 R2 e2 k2 n2 => ?_)
      · have := congrArg List.length e1'; have e0 := congrArg List.length hT; simp at this e0; omega
      · have := at_items e1'; rw [atomsN_mid] at this; simp [RunV.join, atomsN] at this hata ⊢; omega
      obtain ⟨ix2, S2, P2⟩ := S1.set (t' := t2) (z := x.join y) e1' e2 rfl rfl R2 k2 n2
      simp -implicitDefEqProofs
      exact hq H2 t2 ix2 S2 (by rw [e2, jn_yes hj]) (P1.trans P2)
    · simp -implicitDefEqProofs [zeroRun, same_self]
      exact hq h t ix S (by rw [hT, jn_no hj]) (Stp.refl _ _)
end
end Go.Proofs.YthblmlkkmebciaaDoor
set_option linter.all false
set_option maxRecDepth 100000
set_option maxHeartbeats 4000000
namespace Go.Proofs.YthblmlkkmebciaaDoor
open Go Go.RowKit Go.Proofs
section
variable {ro : Nat → Option (List AVal)} {h : AHeap} {s : Nat} {m : AVal} {t : Rt RunV} {ix : Nat → List (Nat × RunV)}
theorem has_ev {ar an : Nat} (S : Sx h s m t (· ∈ t.items) ix) (R : Rok t.items) (ha : an < 2 ^ 32) {Q : AVal → AHeap → Prop}
    (hq : ∀ b, (b = true ↔ ∃ p ∈ t.items, p.2.has ar an) → Q (.bool b) h) : Ev (cfgR ro) 31 [.ptr s 0, idA ar an] h Q := by
  refine Ev.wp rfl rfl Tryd.func31 rfl ?_
  simp -implicitDefEqProofs [Tryd.f31, idA, same_self]
  refine find_ev (ar := ar) (an := an) S R ha (fun i p hi hh => ?_) (fun i hno h1 h2 h3 => ?_)
  · simp -implicitDefEqProofs [same_self]
    exact hq true ⟨fun _ => ⟨p, ((S.ix.mem ar p).1 (List.mem_of_getElem? hi)).1, hh⟩, fun _ => rfl⟩
  · simp -implicitDefEqProofs [same_self]
    exact hq false ⟨fun e => (nomatch e), fun ⟨p, h5, h4⟩ => (hno p h5 h4).elim⟩
theorem at_ev {ar an : Nat} (S : Sx h s m t (· ∈ t.items) ix) (R : Rok t.items) (ha : an < 2 ^ 32) {Q : AVal → AHeap → Prop}
    (hq1 : ∀ L1 a y L2, t.items = L1 ++ (a, y) :: L2 → y.has ar an → Q (.tuple [.ptr a 0, .int .i64 ((an - y.n : Nat) : Int)]) h)
    (hq2 : (∀ p ∈ t.items, ¬ p.2.has ar an) → Q (.tuple [.nilp, .int .i64 0]) h) : Ev (cfgR ro) 74 [.ptr s 0, idA ar an] h Q := by
  refine Ev.wp rfl rfl Tryd.func74 rfl ?_
  obtain ⟨s0, hr⟩ := S.rp.root
  rw [rrow] at hr
  simp only [List.nil_append] at hr
  obtain ⟨v, hv, hlk, _⟩ := IX.look (ro := ro) S ar
  simp -implicitDefEqProofs [Tryd.f74, idA, same_self]
  refine find_ev (ar := ar) (an := an) S R ha (fun i p hi hh => ?_) (fun i hno h1 h2 h3 => ?_)
  · have hil := (List.getElem?_eq_some_iff.1 hi).1
    obtain ⟨a, e1, e2⟩ := PL.idx (ro := ro) hv (i := i) (by simpa using hil)
    have hpi : (ix ar)[i] = p := (List.getElem?_eq_some_iff.1 hi).2
    have hM := ((S.ix.mem ar p).1 (List.mem_of_getElem? hi)).1
    obtain ⟨u, l, r, ht, sz, all, hn⟩ := At.item (p := p.1) (x := p.2) S.rp.tree hM
    have e2 : loadR (cfgR ro) h 25 a = .ok (.ptr p.1 0) := by rw [e2]; simp [hpi]
    simp -implicitDefEqProofs [same_self, hr, hlk, e1, e2]
    refine item_ev hn ?_
    simp -implicitDefEqProofs [same_self, hr, hlk, e1, e2]
    refine rHas_ev (ar := ar) (an := an) (R.ok _ hM) ha (fun h1 => ?_) (fun h1 => (h1 hh).elim)
    simp -implicitDefEqProofs [same_self, hr, hlk, e1, e2]
    obtain ⟨L1, L2, hL⟩ := List.append_of_mem hM
    exact hq1 L1 p.1 p.2 L2 hL hh
  · simp -implicitDefEqProofs [same_self]
    exact hq2 hno
theorem slen_ev (S : Sx h s m t (· ∈ t.items) ix) {Q : AVal → AHeap → Prop} (hq : Q (.int .i64 (t.at_ : Nat)) h) : Ev (cfgR ro) 12 [.ptr s 0] h Q := by
  refine Ev.wp rfl rfl Tryd.func12 rfl ?_
  simp -implicitDefEqProofs [Tryd.f12]
  refine rope_all (z := ([], [m])) S.rp (fun mm hm => ?_)
  have := hm.at_
  simp -implicitDefEqProofs [MassV.cells]
  rw [this]; exact hq
theorem sshown_ev (S : Sx h s m t (· ∈ t.items) ix) {Q : AVal → AHeap → Prop} (hq : Q (.int .i64 ((shownTx t.rs).length : Nat)) h) : Ev (cfgR ro) 53 [.ptr s 0] h Q := by
  refine Ev.wp rfl rfl Tryd.func53 rfl ?_
  simp -implicitDefEqProofs [Tryd.f53]
  refine rope_all (z := ([], [m])) S.rp (fun mm hm => ?_)
  have := hm.sh
  simp -implicitDefEqProofs [MassV.cells]
  rw [this]; exact hq
theorem sruns_ev (S : Sx h s m t (· ∈ t.items) ix) {Q : AVal → AHeap → Prop} (hq : Q (.int .i64 (t.items.length : Nat)) h) : Ev (cfgR ro) 13 [.ptr s 0] h Q := by
  refine Ev.wp rfl rfl Tryd.func13 rfl ?_
  simp -implicitDefEqProofs [Tryd.f13]
  refine rope_len (z := ([], [m])) S.rp ?_
  simp -implicitDefEqProofs
  exact hq
theorem swalk_ev (S : Sx h s m t (· ∈ t.items) ix) {Q : AVal → AHeap → Prop} (hq : ∀ a b c d, WkR a b c d (Wk.text (shownTx t.rs)) → Q (.agg [.cplx .f64 a b, .cplx .f64 c d]) h) : Ev (cfgR ro) 56 [.ptr s 0] h Q := by
  refine Ev.wp rfl rfl Tryd.func56 rfl ?_
  simp -implicitDefEqProofs [Tryd.f56]
  refine rope_all (z := ([], [m])) S.rp (fun mm hm => ?_)
  by_cases c : mm.sh = 0
  · have e0 : shownTx t.rs = [] := List.length_eq_zero_iff.1 (by rw [← hm.sh]; exact c)
    simp -implicitDefEqProofs [MassV.cells, c, same_self]
    refine stay_ev ?_
    simp -implicitDefEqProofs
    exact hq _ _ _ _ (by rw [e0]; exact ⟨wh_c1, wh_c0, wh_c0, wh_c0⟩)
  · have c' : decide ((mm.sh : Int) = 0) = false := decide_eq_false (by omega)
    simp -implicitDefEqProofs [MassV.cells, c, c', same_self]
    exact hq _ _ _ _ (hm.w (by omega))
theorem free_ev {x : RunV} (S : Sx h s m t (· ∈ t.items) ix) (R : Rok t.items) (hx : RunOk x) {Q : AVal → AHeap → Prop}
    (hq : ∀ b, (b = true ↔ ∀ p ∈ t.items, p.2.apart x) → Q (.bool b) h) : Ev (cfgR ro) 80 [.ptr s 0, .agg x.cells] h Q := by
  refine Ev.wp rfl rfl Tryd.func80 rfl ?_
  obtain ⟨s0, hr⟩ := S.rp.root
  rw [rrow] at hr
  simp only [List.nil_append] at hr
  obtain ⟨v, hv, hlk, _⟩ := IX.look (ro := ro) S x.r
  have hlen := IX.len S (fun p hp => R.ok p hp) x.r
  obtain ⟨lst, hlst⟩ : ∃ lst, lst = x.n + (x.text.length - 1) := ⟨_, rfl⟩
  have x1 := hx.pos
  have x2 := hx.n2
  have no : ∀ p ∈ t.items, p.2.has x.r x.n ∨ p.2.has x.r lst → Q (.bool false) h := fun p hp hh => hq false ⟨fun e => (nomatch e), fun hall => by
    have h1 := hall p hp
    have p1 := (R.ok p hp).pos
    rcases hh with hh | hh
    · obtain ⟨e, a, b⟩ := hh
      have := h1 e.symm; omega
    · obtain ⟨e, a, b⟩ := hh
      have := h1 e.symm; omega⟩
  simp -implicitDefEqProofs [Tryd.f80, RunV.cells, same_self]
  refine keyID_ev (c := x.clock) (r := x.r) (n := x.n) ?_
  simp -implicitDefEqProofs [same_self, idA]
  refine has_ev (ar := x.r) (an := x.n) S R (by omega) (fun b1 hb1 => ?_)
  cases b1 with
  | true =>
    obtain ⟨p, hp, hh⟩ := hb1.1 rfl
    simp -implicitDefEqProofs [same_self]
    exact no p hp (.inl hh)
  | false =>
    have hno1 : ∀ p ∈ t.items, ¬ p.2.has x.r x.n := fun p hp hh => by have := hb1.2 ⟨p, hp, hh⟩; cases this
    simp -implicitDefEqProofs [same_self]
    refine rLast_ev (x := x) x1 (by omega) ?_
    rw [← hlst]
    simp -implicitDefEqProofs [same_self, idA]
    refine has_ev (ar := x.r) (an := lst) S R (by omega) (fun b2 hb2 => ?_)
    cases b2 with
    | true =>
      obtain ⟨p, hp, hh⟩ := hb2.1 rfl
      simp -implicitDefEqProofs [same_self]
      exact no p hp (.inr hh)
    | false =>
      have hno2 : ∀ p ∈ t.items, ¬ p.2.has x.r lst := fun p hp hh => by have := hb2.2 ⟨p, hp, hh⟩; cases this
      simp -implicitDefEqProofs [same_self]
      refine rLast_ev (x := x) x1 (by omega) ?_
      rw [← hlst]
      simp -implicitDefEqProofs [same_self, idA]
      refine find_ev (ar := x.r) (an := lst) S R (by omega) (fun i p hi hh => (hno2 p ((S.ix.mem x.r p).1 (List.mem_of_getElem? hi)).1 hh).elim) (fun i hno h1 h2 h3 => ?_)
      have hLen : lenR (cfgR ro) h 164 v = .ok (.int .i64 ((ix x.r).length : Nat)) := by
        rcases hv with ⟨e1, rfl⟩ | ⟨o, fz, vs, rfl, _⟩
        · have : (ix x.r).length = 0 := by simpa using congrArg List.length e1
          simp [lenR, lenA, this]
        · simp [lenR, lenA]
      by_cases c0 : (ix x.r).length ≤ i
      · simp -implicitDefEqProofs [same_self, hr, hlk, hLen, c0]
        refine hq true ⟨fun _ p hp e => ?_, fun _ => rfl⟩
        have hm := (S.ix.mem x.r p).2 ⟨hp, e⟩
        have := List.length_pos_of_mem hm
        omega
      · obtain ⟨a, e1, e2⟩ := PL.idx (ro := ro) hv (i := i) (by simp; omega)
        obtain ⟨p, hpi⟩ : ∃ p, (ix x.r)[i]'(by omega) = p := ⟨_, rfl⟩
        have hi : (ix x.r)[i]? = some p := by rw [← hpi]; exact List.getElem?_eq_getElem _
        have hM := (S.ix.mem x.r p).1 (List.mem_of_getElem? hi)
        obtain ⟨u, l, r, ht, sz, all, hn⟩ := At.item (p := p.1) (x := p.2) S.rp.tree hM.1
        have e2 : loadR (cfgR ro) h 25 a = .ok (.ptr p.1 0) := by rw [e2]; simp [hpi]
        have pp := (R.ok p hM.1).pos
        have lo : ∀ (j : Nat) (q : Nat × RunV), (ix x.r)[j]? = some q → j < i → q.2.n + q.2.text.length ≤ p.2.n := by
          intro j q hj hlt
          obtain ⟨l1, e5⟩ := List.getElem?_eq_some_iff.1 hj
          have := List.pairwise_iff_getElem.1 (S.ix.ord x.r) j i (by simpa using l1) (by simp; omega) hlt
          simp [e5, hpi] at this
          have hMq := (S.ix.mem x.r q).1 (List.mem_of_getElem? hj)
          have hap := R.uniq hMq.1 hM.1 (fun e => by rw [e] at this; omega) (hMq.2.trans hM.2.symm)
          omega
        have all_ : (∀ q, q ∈ t.items → q.2.r = x.r → (∀ j, (ix x.r)[j]? = some q → q.2.n + q.2.text.length ≤ x.n ∨ x.n + x.text.length ≤ q.2.n)) → Q (.bool true) h := fun hh => hq true ⟨fun _ q hq2 e => by
          obtain ⟨j, hj⟩ := List.mem_iff_getElem?.1 ((S.ix.mem x.r q).2 ⟨hq2, e⟩)
          exact hh q hq2 e j hj, fun _ => rfl⟩
        simp -implicitDefEqProofs [same_self, hr, hlk, hLen, c0, e1, e2]
        refine item_ev hn ?_
        by_cases c1 : p.2.n < x.n
        · simp -implicitDefEqProofs [same_self, hr, hlk, hLen, c0, e1, e2, RunV.cells, c1]
          refine all_ (fun q hq2 e j hj => ?_)
          rcases Nat.lt_trichotomy j i with c | c | c
          · have := lo j q hj c; omega
          · subst c; rw [hi] at hj; cases hj
            have := hno1 p hM.1
            unfold RunV.has at this
            omega
          · have := h2 j q c hj; omega
        · simp -implicitDefEqProofs [same_self, hr, hlk, hLen, c0, e1, e2, RunV.cells, c1]
          refine item_ev hn ?_
          simp -implicitDefEqProofs [same_self, hr, hlk, hLen, c0, e1, e2, RunV.cells, c1]
          refine rLast_ev (x := x) x1 (by omega) ?_
          rw [← hlst]
          have pick : ∀ b, b = decide (lst < p.2.n) → Q (.bool b) h := by
            rintro b rfl
            by_cases c2 : lst < p.2.n
            · rw [decide_eq_true c2]
              refine all_ (fun q hq2 e j hj => ?_)
              have hi0 : i = 0 := by
                rcases h1 p hi with e | e
                · exact e
                · omega
              rcases Nat.lt_trichotomy j i with c | c | c
              · omega
              · subst c; rw [hi] at hj; cases hj; omega
              · have := h2 j q c hj; omega
            · rw [decide_eq_false c2]
              refine hq false ⟨fun e => (nomatch e), fun hall => ?_⟩
              have := hall p hM.1 hM.2
              omega
          simp -implicitDefEqProofs [same_self, hr, hlk, hLen, c0, e1, e2, RunV.cells, idA]
          exact pick _ rfl
end
end Go.Proofs.YthblmlkkmebciaaDoor
set_option linter.all false
set_option maxRecDepth 100000
set_option maxHeartbeats 4000000
namespace Go.Proofs.YthblmlkkmebciaaDoor
open Go Go.RowKit Go.Proofs
/-! a store, as a row of atoms -/
instance (x : RunV) : Decidable (RunOk x) := decidable_of_iff (0 < x.text.length ∧ x.text.length ≤ 1024 ∧ 1 ≤ x.n ∧ x.n + x.text.length ≤ 2 ^ 28 + 1 ∧ 1 ≤ x.en ∧ x.en + x.text.length ≤ 2 ^ 28 + 1)
  ⟨fun ⟨a, b, c, d, e, f⟩ => ⟨a, b, c, d, e, f⟩, fun ⟨a, b, c, d, e, f⟩ => ⟨a, b, c, d, e, f⟩⟩
/-- behind how many atoms -/
def posA (A : List AtV) (ar an : Nat) : Option Nat := if ar = 0 ∧ an = 0 then some 0 else (atIx A ar an).map (· + 1)
/-- is one of a run's atoms there? -/
def hitA (A : List AtV) (x : RunV) : Bool := (atomsOf x).any fun a => (atIx A a.r a.n).isSome
def putA (A : List AtV) (ar an : Nat) (x : RunV) : List AtV × Nat :=
  if ¬ (RunOk x ∧ plain x.text = true) then (A, 11) else
  match posA A ar an with
  | none => (A, 40)
  | some k => if hitA A x = true then (A, 16) else if 65536 < A.length + x.text.length then (A, 21) else (A.take k ++ atomsOf x ++ A.drop k, 0)
/-- a store that has the atoms A -/
def StA (h : AHeap) (s : Nat) (O : Nat → Prop) (A : List AtV) : Prop := ∃ m t ix, Sx h s m t (· ∈ t.items) ix ∧ Rok t.items ∧ (∀ p ∈ t.items, plain p.2.text = true) ∧ t.at_ ≤ 65536 ∧ flat t.rs = A ∧ (A.length ≤ 1024 → NJ t.rs) ∧ O = SOwn h s m t
theorem StA.old {h h' : AHeap} {s : Nat} {O : Nat → Prop} {A : List AtV} (S : StA h s O A) (o : Old h h') : ∃ O', StA h' s O' A ∧ Stp h O h' O' := by
  obtain ⟨m, t, ix, a1, a2, a3, a4, a5, a6, rfl⟩ := S
  obtain ⟨b1, b2⟩ := a1.old o
  exact ⟨_, ⟨m, t, ix, b1, a2, a3, a4, a5, a6, rfl⟩, b2⟩
theorem StA.lt {h : AHeap} {s : Nat} {O : Nat → Prop} {A : List AtV} (S : StA h s O A) : ∀ o, O o → o < h.next := by
  obtain ⟨m, t, ix, a1, a2, a3, a4, a5, a6, rfl⟩ := S
  exact a1.lt
theorem hit_iff {L : List (Nat × RunV)} {x : RunV} (R : Rok L) (hx : RunOk x) : hitA (flat (L.map (·.2))) x = false ↔ ∀ p ∈ L, p.2.apart x := by
  unfold hitA
  rw [List.any_eq_false]
  constructor
  · intro h p hp e
    have p1 := (R.ok p hp).pos
    have p2 := hx.pos
    by_cases c : p.2.n + p.2.text.length ≤ x.n ∨ x.n + x.text.length ≤ p.2.n
    · exact c
    · exfalso
      obtain ⟨n, hn⟩ : ∃ n, n = max p.2.n x.n := ⟨_, rfl⟩
      have hh : x.has x.r n := ⟨rfl, by omega, by omega⟩
      obtain ⟨a, h1, h2, h3⟩ := has_atom hh
      have := h a (List.mem_of_getElem? h1)
      rw [h2, h3] at this
      have hnone : atIx (flat (L.map (·.2))) x.r n = none := by simpa using this
      exact (atIx_none.1 hnone) p.2 (List.mem_map.2 ⟨p, hp, rfl⟩) ⟨e.symm, by omega, by omega⟩
  · intro h a ha
    have h1 := mem_atomsOf ha
    have : atIx (flat (L.map (·.2))) a.r a.n = none := atIx_none.2 (fun y hy hh => by
      obtain ⟨p, hp, rfl⟩ := List.mem_map.1 hy
      exact apart_has (h p hp) hh h1)
    rw [this]; simp
theorem pos_at {L1 L2 : List (Nat × RunV)} {a : Nat} {y : RunV} {ar an : Nat} (R : Rok (L1 ++ (a, y) :: L2)) (hh : y.has ar an) : atIx (flat ((L1 ++ (a, y) :: L2).map (·.2))) ar an = some (atomsN (L1.map (·.2)) + (an - y.n)) := by
  rw [List.map_append, List.map_cons]
  refine atIx_at hh (fun z hz hz2 => ?_)
  obtain ⟨p, hp, rfl⟩ := List.mem_map.1 hz
  have := R.apart
  rw [List.pairwise_append] at this
  exact apart_has (this.2.2 p hp (a, y) (by simp)) hz2 hh
theorem flat_pos {L1 L2 : List (Nat × RunV)} {a : Nat} {y : RunV} {k : Nat} (hk : k ≤ y.text.length) : (flat ((L1 ++ (a, y) :: L2).map (·.2))).take (atomsN (L1.map (·.2)) + k) = flat (L1.map (·.2)) ++ (atomsOf y).take k ∧
    (flat ((L1 ++ (a, y) :: L2).map (·.2))).drop (atomsN (L1.map (·.2)) + k) = (atomsOf y).drop k ++ flat (L2.map (·.2)) := by
  rw [List.map_append, List.map_cons, flat_append, flat_cons]
  have e1 := flatten_length (L1.map (·.2))
  have e2 := atomsOf_len y
  rw [← e1]
  constructor
  · rw [List.take_length_add_append, List.take_append_of_le_length (by simp only []; omega)]
  · rw [List.drop_length_add_append, List.drop_append_of_le_length (by simp only []; omega)]
/-! joined rows -/
theorem plain_append (a b : Str) : plain (a ++ b) = (plain a && plain b) := by simp [plain]
theorem jn_Rok {L1 L2 : List (Nat × RunV)} {a : Nat} {x : RunV} (R : Rok (L1 ++ (a, x) :: L2)) : Rok (L1 ++ jn a x L2) := by
  cases L2 with
  | nil => exact R
  | cons p L => 
    obtain ⟨b, y⟩ := p
    by_cases hj : x.joins y
    · rw [jn_yes hj]; exact R.join hj
    · rw [jn_no hj]; exact R
theorem jn_plain {L1 L2 : List (Nat × RunV)} {a : Nat} {x : RunV} (h : ∀ p ∈ L1 ++ (a, x) :: L2, plain p.2.text = true) : ∀ p ∈ L1 ++ jn a x L2, plain p.2.text = true := by
  cases L2 with
  | nil => exact h
  | cons q L => 
    obtain ⟨b, y⟩ := q
    by_cases hj : x.joins y
    · rw [jn_yes hj]
      intro p hp
      rcases List.mem_append.1 hp with hp | hp
      · exact h p (by simp [hp])
      · rcases List.mem_cons.1 hp with rfl | hp
        · have h1 := h (a, x) (by simp)
          have h2 := h (b, y) (by simp)
          show plain (x.text ++ y.text) = true
          rw [plain_append]; simp only [] at h1 h2; rw [h1, h2]; rfl
        · exact h p (by simp [hp])
    · rw [jn_no hj]; exact h
theorem jn_flat (L1 L2 : List (Nat × RunV)) (a : Nat) (x : RunV) : flat ((L1 ++ jn a x L2).map (·.2)) = flat ((L1 ++ (a, x) :: L2).map (·.2)) := by
  obtain ⟨x', L', e, _, h, _⟩ := jn_head a x L2
  rw [e, List.map_append, List.map_append, flat_append, flat_append]
  simp only [List.map_cons] at h ⊢
  rw [h]
/-- the parts of a run that is cut, or whole -/
def Parts (y : RunV) (k : Nat) (L2 : List (Nat × RunV)) (y' : RunV) (T0 : List (Nat × RunV)) : Prop :=
  (1 ≤ k ∧ k < y.text.length ∧ y' = y.fst k ∧ ∃ b, T0 = (b, y.snd k) :: L2) ∨ (k = y.text.length ∧ y' = y ∧ T0 = L2)
theorem Parts.ini {y y' : RunV} {k : Nat} {L2 T0 : List (Nat × RunV)} (h : Parts y k L2 y' T0) : y'.ini = y.ini := by
  rcases h with ⟨_, _, rfl, _⟩ | ⟨_, rfl, _⟩ <;> rfl
theorem Parts.tail {y y' : RunV} {k : Nat} {L2 T0 : List (Nat × RunV)} (h : Parts y k L2 y' T0) (hn : NJ (y :: L2.map (·.2))) : NJ (T0.map (·.2)) := by
  rcases h with ⟨_, h2, rfl, b, rfl⟩ | ⟨_, rfl, rfl⟩
  · exact NJ_fin (snd_fin y (Nat.le_of_lt h2)).symm hn
  · exact NJ_tail hn
theorem Parts.flat {y y' : RunV} {k : Nat} {L2 T0 : List (Nat × RunV)} (h : Parts y k L2 y' T0) : atomsOf y' = (atomsOf y).take k ∧ flat (T0.map (·.2)) = (atomsOf y).drop k ++ Go.Proofs.YthblmlkkmebciaaDoor.flat (L2.map (·.2)) := by
  rcases h with ⟨_, h2, rfl, b, rfl⟩ | ⟨h1, rfl, rfl⟩
  · refine ⟨fst_atoms y k (Nat.le_of_lt h2), ?_⟩
    rw [List.map_cons, flat_cons, snd_atoms y k (Nat.le_of_lt h2)]
  · rw [h1, List.take_of_length_le (by rw [atomsOf_len]; exact Nat.le_refl _), List.drop_of_length_le (by rw [atomsOf_len]; exact Nat.le_refl _)]; simp
theorem Parts.plain {y y' : RunV} {k a : Nat} {L1 L2 T0 : List (Nat × RunV)} (h : Parts y k L2 y' T0) (hp : ∀ p ∈ L1 ++ (a, y) :: L2, plain p.2.text = true) : ∀ p ∈ L1 ++ (a, y') :: T0, Go.Proofs.YthblmlkkmebciaaDoor.plain p.2.text = true := by
  have hy := hp (a, y) (by simp)
  simp only [] at hy
  have hy2 : Go.Proofs.YthblmlkkmebciaaDoor.plain (y.text.take k) = true ∧ Go.Proofs.YthblmlkkmebciaaDoor.plain (y.text.drop k) = true := by
    rw [← List.take_append_drop k y.text, plain_append] at hy
    simpa using hy
  rcases h with ⟨_, h2, rfl, b, rfl⟩ | ⟨h1, rfl, rfl⟩
  · intro p hpm
    simp only [List.mem_append, List.mem_cons] at hpm
    rcases hpm with h | rfl | rfl | h
    · exact hp p (by simp [h])
    · exact hy2.1
    · exact hy2.2
    · exact hp p (by simp [h])
  · exact hp
theorem put_final {L1 L2 T0 : List (Nat × RunV)} {y y' x : RunV} {a n k : Nat} {A : List AtV} (hA : flat ((L1 ++ (a, y) :: L2).map (·.2)) = A) (hk : k ≤ y.text.length) (P : Parts y k L2 y' T0) :
    flat ((L1 ++ jn a y' (jn n x T0)).map (·.2)) = A.take (atomsN (L1.map (·.2)) + k) ++ atomsOf x ++ A.drop (atomsN (L1.map (·.2)) + k) ∧
    ((A.length ≤ 1024 → NJ ((L1 ++ (a, y) :: L2).map (·.2))) → (A.take (atomsN (L1.map (·.2)) + k) ++ atomsOf x ++ A.drop (atomsN (L1.map (·.2)) + k)).length ≤ 1024 → NJ ((L1 ++ jn a y' (jn n x T0)).map (·.2))) := by
  have hf : flat ((L1 ++ jn a y' (jn n x T0)).map (·.2)) = A.take (atomsN (L1.map (·.2)) + k) ++ atomsOf x ++ A.drop (atomsN (L1.map (·.2)) + k) := by
    obtain ⟨f1, f2⟩ := flat_pos (L1 := L1) (L2 := L2) (a := a) hk
    rw [hA] at f1 f2
    obtain ⟨g1, g2⟩ := P.flat
    rw [f1, f2, jn_flat, List.map_append, List.map_cons, flat_append, flat_cons]
    have := jn_flat [] T0 n x
    simp only [List.nil_append] at this
    rw [this, List.map_cons, flat_cons, g1, g2]
    simp
  refine ⟨hf, fun hn hl => ?_⟩
  rw [← hf, flatten_length] at hl
  have hAl : A.length ≤ (A.take (atomsN (L1.map (·.2)) + k) ++ atomsOf x ++ A.drop (atomsN (L1.map (·.2)) + k)).length := by
    have := congrArg List.length (List.take_append_drop (atomsN (L1.map (·.2)) + k) A)
    rw [List.length_append] at this
    simp only [List.length_append]; omega
  have hl2 := hl
  rw [← hf, flatten_length] at hAl
  have hn := hn (by omega)
  rw [List.map_append, List.map_cons] at hn
  obtain ⟨n1, n2⟩ := NJ_split hn
  have eL : atomsN ((L1 ++ jn a y' (jn n x T0)).map (·.2)) = atomsN (L1.map (·.2)) + atomsN ((jn a y' (jn n x T0)).map (·.2)) := by rw [List.map_append, atomsN_append]
  have e1 : atomsN ((jn a y' (jn n x T0)).map (·.2)) = atomsN (y' :: (jn n x T0).map (·.2)) := by
    apply atomsN_flat; have := jn_flat [] (jn n x T0) a y'; simpa using this
  have e2 : atomsN ((jn n x T0).map (·.2)) = atomsN (x :: T0.map (·.2)) := by
    apply atomsN_flat; have := jn_flat [] T0 n x; simpa using this
  have e3 : atomsN (y' :: (jn n x T0).map (·.2)) = y'.text.length + atomsN ((jn n x T0).map (·.2)) := by simp [atomsN]
  have h1 := jn_NJ (a := n) (x := x) (L := T0) (by omega) (P.tail n2)
  have h2 := jn_NJ (a := a) (x := y') (L := jn n x T0) (by omega) h1
  obtain ⟨y'', Z, ez, ei, _⟩ := jn_head a y' (jn n x T0)
  rw [ez] at h2 ⊢
  rw [List.map_append, List.map_cons]
  rw [List.map_cons] at h2
  exact NJ_glue (NJ_ini (by rw [ei]; exact P.ini.symm) n1) h2
theorem Parts.apart {y y' x : RunV} {k a : Nat} {L1 L2 T0 : List (Nat × RunV)} (P : Parts y k L2 y' T0) (h : ∀ p ∈ L1 ++ (a, y) :: L2, p.2.apart x) : ∀ p ∈ L1 ++ (a, y') :: T0, p.2.apart x := by
  have hy := h (a, y) (by simp)
  simp only [] at hy
  rcases P with ⟨_, h2, rfl, b, rfl⟩ | ⟨h1, rfl, rfl⟩
  · intro p hpm
    simp only [List.mem_append, List.mem_cons] at hpm
    rcases hpm with h1 | rfl | rfl | h1
    · exact h p (by simp [h1])
    · exact apart_symm (apart_within (apart_symm hy) (fst_within y k))
    · exact apart_symm (apart_within (apart_symm hy) (snd_within y (Nat.le_of_lt h2)))
    · exact h p (by simp [h1])
  · exact h
theorem Parts.rok {y y' : RunV} {k a : Nat} {L1 L2 T0 : List (Nat × RunV)} (P : Parts y k L2 y' T0) (R : Rok (L1 ++ (a, y) :: L2)) : Rok (L1 ++ (a, y') :: T0) := by
  rcases P with ⟨h1, h2, rfl, b, rfl⟩ | ⟨h1, rfl, rfl⟩
  · exact R.cut h1 h2
  · exact R
theorem Parts.at_ {y y' : RunV} {k a : Nat} {L1 L2 T0 : List (Nat × RunV)} (P : Parts y k L2 y' T0) : atomsN ((L1 ++ (a, y') :: T0).map (·.2)) = atomsN ((L1 ++ (a, y) :: L2).map (·.2)) := by
  apply atomsN_flat
  obtain ⟨g1, g2⟩ := P.flat
  rw [List.map_append, List.map_append, flat_append, flat_append, List.map_cons, List.map_cons, flat_cons, flat_cons, g1, g2, ← List.append_assoc (List.take k _), List.take_append_drop]
section
variable {ro : Nat → Option (List AVal)}
/-- a run put behind a place, known, and joined with what is behind it -/
theorem put_step {h : AHeap} {s : Nat} {m : AVal} {t : Rt RunV} {ix : Nat → List (Nat × RunV)} {x : RunV} {after : AVal} {L1 T0 : List (Nat × RunV)} (S : Sx h s m t (· ∈ t.items) ix) (R : Rok t.items) (hx : RunOk x) (hap : ∀ p ∈ t.items, p.2.apart x) (hat : t.at_ ≤ 65536)
    (hT : t.items = L1 ++ T0) (haft : (L1 = [] ∧ after = .nilp) ∨ ∃ L0 a y, L1 = L0 ++ [(a, y)] ∧ after = .ptr a 0) {Q : AVal → AHeap → Prop}
    (hq : ∀ n h1, (∀ K : AVal → AHeap → Prop, (∀ h2 m2 t2 ix2, Sx h2 s m2 t2 (· ∈ t2.items) ix2 → t2.items = L1 ++ (n, x) :: T0 → Stp h (SOwn h s m t) h2 (SOwn h2 s m2 t2) → Rok t2.items → K (.tuple []) h2) → Ev (cfgR ro) 83 [.ptr s 0, .ptr n 0] h1 K) → Q (.ptr n 0) h1) : Ev (cfgR ro) 82 [.ptr s 0, after, .agg x.cells] h Q := by
  have hfit := fit_of R (Nat.le_trans hat (by decide))
  have hxl := hx.len
  refine rope_put (z := ([], [m])) (x := x) S.rp hT ⟨by omega, by omega⟩ haft (fun n h1 t1 R1 e1 b1 k1 n1 => ?_)
  refine hq n h1 (fun K hK => ?_)
  have hR1 : Rok t1.items := by
    rw [e1, Rok.iff]; rw [hT] at R hap
    exact ⟨R, hx, hap⟩
  obtain ⟨S1, P1⟩ := S.tree R1 (fun p hp => by
    rw [hT] at hp; rw [e1]
    simp only [List.mem_append, List.mem_cons] at hp ⊢
    rcases hp with h | h
    · exact .inl h
    · exact .inr (.inr h)) k1 n1 (fun o ho => by
    unfold Rt.ids at ho ⊢
    rw [e1] at ho; rw [hT]
    simp only [List.map_append, List.map_cons, List.mem_append, List.mem_cons] at ho ⊢
    rcases ho with h | h | h
    · exact .inl (.inl h)
    · exact .inr (by omega)
    · exact .inl (.inr h))
  have hnb : ¬ (n, x) ∈ t.items := fun hm => by
    have := S.rp.lt n (by unfold Rt.ids; exact List.mem_map.2 ⟨_, hm, rfl⟩)
    omega
  refine know_ev S1 hR1 (a := n) (x := x) (by rw [e1]; simp) hnb (fun H2 m2 ix2 S2 P2 => ?_)
  refine hK H2 m2 t1 ix2 (S2.congr (fun p => ?_)) e1 (P1.trans P2) hR1
  rw [e1, hT]
  simp only [List.mem_append, List.mem_cons]
  constructor
  · rintro ((h | h) | h)
    · exact .inl h
    · exact .inr (.inr h)
    · exact .inr (.inl h)
  · rintro (h | h | h)
    · exact .inl (.inl h)
    · exact .inr h
    · exact .inl (.inr h)
theorem sput_ev (hro : ro 0 = some [.int .u16 0, .int .u32 0]) {h : AHeap} {s : Nat} {O : Nat → Prop} {A : List AtV} {ar an : Nat} {x : RunV} (S : StA h s O A) (ha : an < 2 ^ 32) (hl : x.text.length < 2 ^ 60) (hn : x.n < 2 ^ 32) (he : x.en < 2 ^ 32) {Q : AVal → AHeap → Prop}
    (hq : ∀ h' O', StA h' s O' (putA A ar an x).1 → Stp h O h' O' → Q (.int .i64 ((putA A ar an x).2 : Nat)) h') : Ev (cfgR ro) 44 [.ptr s 0, idA ar an, .agg x.cells] h Q := by
  refine Ev.wp rfl rfl Tryd.func44 rfl ?_
  simp -implicitDefEqProofs [Tryd.f44, idA, RunV.cells, same_self]
  refine rRight_ev (x := x) hl hn he (fun h0 b o0 hb => ?_)
  obtain ⟨O0, S0, P0⟩ := S.old o0
  have hq : ∀ h' O', StA h' s O' (putA A ar an x).1 → Stp h0 O0 h' O' → Q (.int .i64 ((putA A ar an x).2 : Nat)) h' := fun h' O' a b => hq h' O' a (P0.trans b)
  clear P0
  cases b with
  | false =>
    have e : putA A ar an x = (A, 11) := by unfold putA; rw [if_pos (fun hh => by have := hb.2 hh; cases this)]
    rw [e] at hq
    simp -implicitDefEqProofs [same_self]
    exact hq h0 O0 S0 (Stp.refl _ _)
  | true =>
    obtain ⟨hx, hpl⟩ := hb.1 rfl
    obtain ⟨m, t, ix, a1, a2, a3, a4, a5, a6, a7⟩ := S0
    have a5' : flat (t.items.map (·.2)) = A := a5
    have hlen : A.length = t.at_ := by rw [← a5, flatten_length]; rfl
    simp -implicitDefEqProofs [same_self]
    refine idRoot_ev hro ?_
    have e0 : putA A ar an x = (match posA A ar an with
      | none => (A, 40)
      | some k => if hitA A x = true then (A, 16) else if 65536 < A.length + x.text.length then (A, 21) else (A.take k ++ atomsOf x ++ A.drop k, 0)) := by unfold putA; rw [if_neg (fun h => h ⟨hx, hpl⟩)]
    rw [e0] at hq
    by_cases c : ar = 0 ∧ an = 0
    · have hpos : posA A ar an = some 0 := by unfold posA; rw [if_pos c]
      have hdc := decide_eq_true c
      rw [hdc]
      simp -implicitDefEqProofs [RunV.cells, same_self]
      refine free_ev a1 a2 hx (fun b hbf => ?_)
      have hit := hit_iff a2 hx
      rw [a5'] at hit
      cases b with
      | false =>
        have hh : hitA A x = true := by
          cases e : hitA A x with
          | true => rfl
          | false => have := hbf.2 (hit.1 e); cases this
        simp only [hpos, hh, if_true] at hq
        simp -implicitDefEqProofs [hdc, RunV.cells, same_self]
        exact hq h0 O0 ⟨m, t, ix, a1, a2, a3, a4, a5, a6, a7⟩ (Stp.refl _ _)
      | true =>
        have hap := hbf.1 rfl
        have hh : hitA A x = false := hit.2 hap
        simp only [hpos, hh] at hq
        have hxl := hx.len
        simp -implicitDefEqProofs [hdc, RunV.cells, same_self]
        refine slen_ev a1 ?_
        simp -implicitDefEqProofs [hdc, RunV.cells, same_self]
        refine rlen_ev (x := x) ?_
        have w1 : IntKind.i64.wrap ((t.at_ : Int) + (x.text.length : Int)) = ((A.length + x.text.length : Nat) : Int) := by rw [w64 (by omega) (by omega)]; omega
        obtain ⟨tot, htot⟩ : ∃ tot, tot = A.length + x.text.length := ⟨_, rfl⟩
        rw [← htot] at w1 hq
        by_cases cf : 65536 < tot
        · have d1 : decide ((65536 : Int) < (tot : Int)) = true := decide_eq_true (by omega)
          simp only [cf, if_true, Bool.false_eq_true, if_false] at hq
          simp -implicitDefEqProofs [hdc, RunV.cells, same_self, w1, d1, cf]
          exact hq h0 O0 ⟨m, t, ix, a1, a2, a3, a4, a5, a6, a7⟩ (Stp.refl _ _)
        · have d1 : decide ((65536 : Int) < (tot : Int)) = false := decide_eq_false (by omega)
          simp only [cf, Bool.false_eq_true, if_false] at hq
          simp -implicitDefEqProofs [hdc, RunV.cells, same_self, w1, d1, cf]
          refine idRoot_ev hro ?_
          simp -implicitDefEqProofs [hdc, RunV.cells, same_self, w1, d1, cf]
          refine put_step (x := x) (L1 := []) (T0 := t.items) a1 a2 hx hap a4 rfl (.inl ⟨rfl, rfl⟩) (fun n h1 hk => ?_)
          simp -implicitDefEqProofs [hdc, RunV.cells, same_self, w1, d1, cf]
          refine hk _ (fun h2 m2 t2 ix2 S2 e2 P2 R2 => ?_)
          have at2 : t2.at_ = x.text.length + t.at_ := by rw [at_items e2]; simp [atomsN, Rt.at_, Rt.rs]
          simp -implicitDefEqProofs [hdc, RunV.cells, same_self, w1, d1, cf]
          refine join_ev (L1 := []) S2 R2 e2 (by omega) (fun h3 t3 ix3 S3 e3 P3 => ?_)
          simp -implicitDefEqProofs [hdc, RunV.cells, same_self, w1, d1, cf]
          refine join_nil ?_
          simp -implicitDefEqProofs
          have R3 : Rok t3.items := by rw [e3]; exact jn_Rok (by rw [← e2]; exact R2)
          have fl := jn_flat [] t.items n x
          have fl3 : flat t3.rs = atomsOf x ++ A := by
            show flat (t3.items.map (·.2)) = _
            rw [e3, fl]; simp; exact a5'
          have pl3 : ∀ p ∈ t3.items, plain p.2.text = true := by
            rw [e3]
            refine jn_plain (fun p hp => ?_)
            rcases List.mem_cons.1 hp with rfl | hp
            · exact hpl
            · exact a3 p hp
          subst a7
          refine hq h3 _ ⟨m2, t3, ix3, S3, R3, pl3, ?_, ?_, fun hl => ?_, rfl⟩ (P2.trans P3)
          · have : t3.at_ = (flat t3.rs).length := by rw [flatten_length]; rfl
            rw [this, fl3, List.length_append, atomsOf_len]; omega
          · rw [fl3]; simp
          · show NJ (t3.items.map (·.2))
            rw [e3]
            simp only [List.take_zero, List.nil_append, List.drop_zero, List.length_append, atomsOf_len] at hl
            refine jn_NJ ?_ (a6 (by omega))
            have : atomsN (x :: t.items.map (·.2)) = x.text.length + t.at_ := by simp [atomsN, Rt.at_, Rt.rs]
            omega

    · have hdc := decide_eq_false c
      rw [hdc]
      simp -implicitDefEqProofs [RunV.cells, same_self]
      have fp : ∀ L1 a y L2, t.items = L1 ++ (a, y) :: L2 → y.has ar an → posA A ar an = some (atomsN (L1.map (·.2)) + (an - y.n) + 1) := by
        intro L1 a y L2 e hh
        have := pos_at (L1 := L1) (a := a) (y := y) (L2 := L2) (ar := ar) (an := an) (by rw [← e]; exact a2) hh
        rw [← e, a5'] at this
        unfold posA
        rw [if_neg c, this]; rfl
      refine has_ev a1 a2 ha (fun b hbh => ?_)
      cases b with
      | false =>
        have hnone : posA A ar an = none := by
          unfold posA; rw [if_neg c]
          have : atIx A ar an = none := by
            rw [← a5']
            refine atIx_none.2 (fun y hy hh => ?_)
            obtain ⟨p, hp, rfl⟩ := List.mem_map.1 hy
            have := hbh.2 ⟨p, hp, hh⟩; cases this
          rw [this]; rfl
        simp only [hnone] at hq
        simp -implicitDefEqProofs [RunV.cells, same_self]
        exact hq h0 O0 ⟨m, t, ix, a1, a2, a3, a4, a5, a6, a7⟩ (Stp.refl _ _)
      | true =>
        obtain ⟨kp, hpos⟩ : ∃ kp, posA A ar an = some kp := by
          obtain ⟨p, hp, hh⟩ := hbh.1 rfl
          obtain ⟨L1, L2, e⟩ := List.append_of_mem hp
          exact ⟨_, fp L1 p.1 p.2 L2 e hh⟩
        simp -implicitDefEqProofs [RunV.cells, same_self]
        refine free_ev a1 a2 hx (fun b hbf => ?_)
        have hit := hit_iff a2 hx
        rw [a5'] at hit
        cases b with
        | false =>
          have hh : hitA A x = true := by
            cases e : hitA A x with
            | true => rfl
            | false => have := hbf.2 (hit.1 e); cases this
          simp only [hpos, hh, if_true] at hq
          simp -implicitDefEqProofs [hdc, RunV.cells, same_self]
          exact hq h0 O0 ⟨m, t, ix, a1, a2, a3, a4, a5, a6, a7⟩ (Stp.refl _ _)
        | true =>
          have hap := hbf.1 rfl
          have hh : hitA A x = false := hit.2 hap
          simp only [hpos, hh] at hq
          have hxl := hx.len
          simp -implicitDefEqProofs [hdc, RunV.cells, same_self]
          refine slen_ev a1 ?_
          simp -implicitDefEqProofs [hdc, RunV.cells, same_self]
          refine rlen_ev (x := x) ?_
          have w1 : IntKind.i64.wrap ((t.at_ : Int) + (x.text.length : Int)) = ((A.length + x.text.length : Nat) : Int) := by rw [w64 (by omega) (by omega)]; omega
          obtain ⟨tot, htot⟩ : ∃ tot, tot = A.length + x.text.length := ⟨_, rfl⟩
          rw [← htot] at w1 hq
          by_cases cf : 65536 < tot
          · have d1 : decide ((65536 : Int) < (tot : Int)) = true := decide_eq_true (by omega)
            simp only [cf, if_true, Bool.false_eq_true, if_false] at hq
            simp -implicitDefEqProofs [hdc, RunV.cells, same_self, w1, d1, cf]
            exact hq h0 O0 ⟨m, t, ix, a1, a2, a3, a4, a5, a6, a7⟩ (Stp.refl _ _)
          · have d1 : decide ((65536 : Int) < (tot : Int)) = false := decide_eq_false (by omega)
            simp only [cf, Bool.false_eq_true, if_false] at hq
            simp -implicitDefEqProofs [hdc, RunV.cells, same_self, w1, d1, cf]
            refine idRoot_ev hro ?_
            simp -implicitDefEqProofs [hdc, RunV.cells, same_self, w1, d1, cf]
            refine at_ev a1 a2 ha (fun L1 a y L2 hT hh => ?_) (fun hno => ?_)
            · obtain ⟨k, hk⟩ : ∃ k, k = an - y.n + 1 := ⟨_, rfl⟩
              have hky : 1 ≤ k ∧ k ≤ y.text.length := by have := hh.2; omega
              have hyl := (a2.ok (a, y) (by rw [hT]; simp)).len
              simp only [] at hyl
              have w2 : IntKind.i64.wrap (((an - y.n : Nat) : Int) + 1) = (k : Int) := by rw [w64 (by omega) (by omega)]; omega
              have hkp : kp = atomsN (L1.map (·.2)) + k := by
                have := fp L1 a y L2 hT hh
                rw [hpos] at this; injection this with this; omega
              have a5y : flat ((L1 ++ (a, y) :: L2).map (·.2)) = A := by rw [← hT]; exact a5'
              simp -implicitDefEqProofs [hdc, RunV.cells, same_self, w1, d1, cf, w2]
              refine cut_ev (k := k) a1 a2 hT (by omega) (by omega) (fun c1 c2 h4 m4 t4 ix4 b S4 e4 P4 => ?_) (fun c3 => ?_)
              · have PP : Parts y k L2 (y.fst k) ((b, y.snd k) :: L2) := .inl ⟨c1, c2, rfl, b, rfl⟩
                have R4 : Rok t4.items := by rw [e4]; rw [hT] at a2; exact PP.rok a2
                have hap4 : ∀ p ∈ t4.items, p.2.apart x := by rw [e4]; rw [hT] at hap; exact PP.apart hap
                have at4 : t4.at_ = t.at_ := by rw [at_items e4, at_items hT]; exact PP.at_
                have e4' : t4.items = (L1 ++ [(a, (y.fst k))]) ++ ((b, y.snd k) :: L2) := by rw [e4]; simp
                simp -implicitDefEqProofs [hdc, RunV.cells, same_self, w1, d1, cf, w2]
                refine put_step (x := x) S4 R4 hx hap4 (by omega) e4' (.inr ⟨L1, a, (y.fst k), rfl, rfl⟩) (fun n h1 hk1 => ?_)
                simp -implicitDefEqProofs [hdc, RunV.cells, same_self, w1, d1, cf, w2]
                refine hk1 _ (fun h2 m2 t2 ix2 S2 e2 P2 R2 => ?_)
                have at2 : t2.at_ = x.text.length + t.at_ := by
                  rw [← at4, at_items e2, at_items e4']; simp [atomsN]; omega
                simp -implicitDefEqProofs [hdc, RunV.cells, same_self, w1, d1, cf, w2]
                refine join_ev S2 R2 e2 (by omega) (fun h3 t3 ix3 S3 e3 P3 => ?_)
                have R3 : Rok t3.items := by rw [e3]; exact jn_Rok (by rw [← e2]; exact R2)
                have e3' : t3.items = L1 ++ (a, (y.fst k)) :: jn n x ((b, y.snd k) :: L2) := by rw [e3]; simp
                have at3 : t3.at_ = t2.at_ := by
                  rw [at_items e3, at_items e2]; exact atomsN_flat (jn_flat _ _ _ _)
                simp -implicitDefEqProofs [hdc, RunV.cells, same_self, w1, d1, cf, w2]
                refine join_ev S3 R3 e3' (by omega) (fun h5 t5 ix5 S5 e5 P5 => ?_)
                have R5 : Rok t5.items := by rw [e5]; exact jn_Rok (by rw [← e3']; exact R3)
                have at5 : t5.at_ = t3.at_ := by
                  rw [at_items e5, at_items e3']; exact atomsN_flat (jn_flat _ _ _ _)
                obtain ⟨f1, f2⟩ := put_final (x := x) (n := n) a5y hky.2 PP
                have pl5 : ∀ p ∈ t5.items, plain p.2.text = true := by
                  rw [e5]
                  refine jn_plain ?_
                  have pl4 := PP.plain (a := a) (L1 := L1) (by rw [← hT]; exact a3)
                  have : ∀ p ∈ (L1 ++ [(a, (y.fst k))]) ++ (n, x) :: ((b, y.snd k) :: L2), plain p.2.text = true := by
                    intro p hp
                    simp only [List.append_assoc, List.mem_append, List.mem_cons, List.cons_append, List.nil_append] at hp pl4
                    rcases hp with h | h | h | h
                    · exact pl4 p (.inl h)
                    · exact pl4 p (.inr (.inl h))
                    · rw [h]; exact hpl
                    · exact pl4 p (.inr (.inr h))
                  have := jn_plain this
                  simpa using this
                simp -implicitDefEqProofs
                subst a7
                refine hq h5 _ ⟨m2, t5, ix5, S5, R5, pl5, by omega, ?_, fun hl => ?_, rfl⟩ (((P4.trans P2).trans P3).trans P5)
                · show flat (t5.items.map (·.2)) = _
                  rw [e5, hkp]; exact f1
                · show NJ (t5.items.map (·.2))
                  rw [e5]
                  rw [hkp] at hl
                  exact f2 (by rw [← hT]; exact a6) hl
              · have PP : Parts y k L2 y L2 := .inr ⟨by omega, rfl, rfl⟩
                have R4 : Rok t.items := by rw [hT]; rw [hT] at a2; exact PP.rok a2
                have hap4 : ∀ p ∈ t.items, p.2.apart x := by rw [hT]; rw [hT] at hap; exact PP.apart hap
                have at4 : t.at_ = t.at_ := rfl
                have e4' : t.items = (L1 ++ [(a, y)]) ++ L2 := by rw [hT]; simp
                simp -implicitDefEqProofs [hdc, RunV.cells, same_self, w1, d1, cf, w2]
                refine put_step (x := x) a1 R4 hx hap4 (by omega) e4' (.inr ⟨L1, a, y, rfl, rfl⟩) (fun n h1 hk1 => ?_)
                simp -implicitDefEqProofs [hdc, RunV.cells, same_self, w1, d1, cf, w2]
                refine hk1 _ (fun h2 m2 t2 ix2 S2 e2 P2 R2 => ?_)
                have at2 : t2.at_ = x.text.length + t.at_ := by
                  rw [← at4, at_items e2, at_items e4']; simp [atomsN]; omega
                simp -implicitDefEqProofs [hdc, RunV.cells, same_self, w1, d1, cf, w2]
                refine join_ev S2 R2 e2 (by omega) (fun h3 t3 ix3 S3 e3 P3 => ?_)
                have R3 : Rok t3.items := by rw [e3]; exact jn_Rok (by rw [← e2]; exact R2)
                have e3' : t3.items = L1 ++ (a, y) :: jn n x L2 := by rw [e3]; simp
                have at3 : t3.at_ = t2.at_ := by
                  rw [at_items e3, at_items e2]; exact atomsN_flat (jn_flat _ _ _ _)
                simp -implicitDefEqProofs [hdc, RunV.cells, same_self, w1, d1, cf, w2]
                refine join_ev S3 R3 e3' (by omega) (fun h5 t5 ix5 S5 e5 P5 => ?_)
                have R5 : Rok t5.items := by rw [e5]; exact jn_Rok (by rw [← e3']; exact R3)
                have at5 : t5.at_ = t3.at_ := by
                  rw [at_items e5, at_items e3']; exact atomsN_flat (jn_flat _ _ _ _)
                obtain ⟨f1, f2⟩ := put_final (x := x) (n := n) a5y hky.2 PP
                have pl5 : ∀ p ∈ t5.items, plain p.2.text = true := by
                  rw [e5]
                  refine jn_plain ?_
                  have pl4 := PP.plain (a := a) (L1 := L1) (by rw [← hT]; exact a3)
                  have : ∀ p ∈ (L1 ++ [(a, y)]) ++ (n, x) :: L2, plain p.2.text = true := by
                    intro p hp
                    simp only [List.append_assoc, List.mem_append, List.mem_cons, List.cons_append, List.nil_append] at hp pl4
                    rcases hp with h | h | h | h
                    · exact pl4 p (.inl h)
                    · exact pl4 p (.inr (.inl h))
                    · rw [h]; exact hpl
                    · exact pl4 p (.inr (.inr h))
                  have := jn_plain this
                  simpa using this
                simp -implicitDefEqProofs
                subst a7
                refine hq h5 _ ⟨m2, t5, ix5, S5, R5, pl5, by omega, ?_, fun hl => ?_, rfl⟩ ((P2.trans P3).trans P5)
                · show flat (t5.items.map (·.2)) = _
                  rw [e5, hkp]; exact f1
                · show NJ (t5.items.map (·.2))
                  rw [e5]
                  rw [hkp] at hl
                  exact f2 (by rw [← hT]; exact a6) hl
            · obtain ⟨p, hp, hh⟩ := hbh.1 rfl
              exact (hno p hp hh).elim
end
end Go.Proofs.YthblmlkkmebciaaDoor
set_option linter.all false
set_option maxRecDepth 100000
set_option maxHeartbeats 4000000
namespace Go.Proofs.YthblmlkkmebciaaDoor
open Go Go.RowKit Go.Proofs
/-- an atom shown, or not -/
def setSh : List AtV → Nat → Bool → List AtV
  | [], _, _ => []
  | a :: l, 0, v => { a with shown := v } :: l
  | a :: l, i + 1, v => a :: setSh l i v
theorem setSh_append (A B : List AtV) (i : Nat) (v : Bool) : setSh (A ++ B) (A.length + i) v = A ++ setSh B i v := by
  induction A with
  | nil => simp
  | cons a A ih => rw [List.length_cons, show A.length + 1 + i = A.length + i + 1 by omega]; show a :: setSh (A ++ B) (A.length + i) v = _; rw [ih]; rfl
theorem setSh_len (A : List AtV) (i : Nat) (v : Bool) : (setSh A i v).length = A.length := by
  induction A generalizing i with
  | nil => rfl
  | cons a A ih => cases i with
    | zero => rfl
    | succ i => show (setSh A i v).length + 1 = _; rw [ih]; rfl
theorem setSh_id : ∀ (A : List AtV) (i : Nat) (v : Bool), (∀ a, A[i]? = some a → a.shown = v) → setSh A i v = A
  | [], _, _, _ => rfl
  | a :: A, 0, v, h => by
    have := h a rfl
    show { a with shown := v } :: A = _
    rw [← this]
  | a :: A, i + 1, v, h => by
    show a :: setSh A i v = _
    rw [setSh_id A i v (fun b hb => h b hb)]
def showA (A : List AtV) (ar an : Nat) (v : Bool) : List AtV × Nat := match atIx A ar an with
  | none => (A, 40)
  | some i => (setSh A i v, 0)
def RunV.sh (x : RunV) (v : Bool) : RunV := { x with shown := v }
theorem sh_atoms {x : RunV} (h : x.text.length = 1) (v : Bool) (l : List AtV) : atomsOf (x.sh v) ++ l = setSh (atomsOf x ++ l) 0 v := by
  obtain ⟨c, r, n, er, en, tx, sh⟩ := x
  cases tx with
  | nil => simp at h
  | cons b s =>
    have : s = [] := by simpa using h
    subst this
    rfl
theorem sh_within (x : RunV) (v : Bool) : (x.sh v).within x := ⟨rfl, Nat.le_refl _, Nat.le_refl _⟩
theorem RunOk.sh {x : RunV} (h : RunOk x) (v : Bool) : RunOk (x.sh v) := ⟨h.pos, h.len, h.n1, h.n2, h.e1, h.e2⟩
theorem show_flat {Pre T0 : List (Nat × RunV)} {p : Nat} {mid : RunV} {A : List AtV} {v : Bool} (hA : flat ((Pre ++ (p, mid) :: T0).map (·.2)) = A) (hm : mid.text.length = 1) :
    flat ((Pre ++ jn p (mid.sh v) T0).map (·.2)) = setSh A (atomsN (Pre.map (·.2))) v := by
  rw [jn_flat, ← hA, List.map_append, List.map_append, flat_append, flat_append, List.map_cons, List.map_cons, flat_cons, flat_cons, sh_atoms hm, ← flatten_length]
  rw [← setSh_append]; rfl
section
variable {ro : Nat → Option (List AVal)}
theorem sshow_ev {h : AHeap} {s : Nat} {O : Nat → Prop} {A : List AtV} {ar an : Nat} {v : Bool} (S : StA h s O A) (ha : an < 2 ^ 32) {Q : AVal → AHeap → Prop}
    (hq : ∀ h' O', StA h' s O' (showA A ar an v).1 → Stp h O h' O' → Q (.int .i64 ((showA A ar an v).2 : Nat)) h') : Ev (cfgR ro) 46 [.ptr s 0, idA ar an, .bool v] h Q := by
  refine Ev.wp rfl rfl Tryd.func46 rfl ?_
  obtain ⟨m, t, ix, a1, a2, a3, a4, a5, a6, a7⟩ := S
  have a5' : flat (t.items.map (·.2)) = A := a5
  have hlen : A.length = t.at_ := by rw [← a5, flatten_length]; rfl
  simp -implicitDefEqProofs [Tryd.f46, idA, same_self]
  refine at_ev a1 a2 ha (fun L1 a y L2 hT hh => ?_) (fun hno => ?_)
  · obtain ⟨k, hk⟩ : ∃ k, k = an - y.n := ⟨_, rfl⟩
    have hky : k < y.text.length := by have := hh.2; omega
    have hyok := a2.ok (a, y) (by rw [hT]; simp)
    have hyl := hyok.len
    simp only [] at hyl
    have a5y : flat ((L1 ++ (a, y) :: L2).map (·.2)) = A := by rw [← hT]; exact a5'
    have hpos : atIx A ar an = some (atomsN (L1.map (·.2)) + k) := by
      have := pos_at (L1 := L1) (a := a) (y := y) (L2 := L2) (ar := ar) (an := an) (by rw [← hT]; exact a2) hh
      rw [a5y] at this; rw [this, hk]
    have e0 : showA A ar an v = (setSh A (atomsN (L1.map (·.2)) + k) v, 0) := by unfold showA; rw [hpos]
    rw [e0] at hq
    obtain ⟨u, l, r, ht, sz, all, hn⟩ := At.item (p := a) (x := y) a1.rp.tree (by rw [hT]; simp)
    rw [← hk]
    have eb : eqFlat Tryd.prog h .bool (.bool y.shown) (.bool v) = .ok (y.shown == v) := by rfl
    simp -implicitDefEqProofs [same_self]
    refine item_ev hn ?_
    by_cases c : y.shown = v
    · have eb2 : (y.shown == v) = true := by simpa using c
      rw [eb2] at eb
      simp -implicitDefEqProofs [same_self, RunV.cells, eb]
      refine hq h O ⟨m, t, ix, a1, a2, a3, a4, ?_, fun hl => a6 (by rw [setSh_len] at hl; exact hl), a7⟩ (Stp.refl _ _)
      rw [a5, setSh_id]
      intro x hx
      rw [← a5y, List.map_append, List.map_cons, flat_append, flat_cons, ← flatten_length, List.getElem?_append_right (by omega), Nat.add_sub_cancel_left, List.getElem?_append_left (by rw [atomsOf_len]; exact hky), atomsOf_get] at hx
      cases hy : y.text[k]? with
      | none => rw [hy] at hx; cases hx
      | some b => rw [hy] at hx; cases hx; exact c
    · have eb2 : (y.shown == v) = false := by simpa using c
      rw [eb2] at eb
      have w1 : IntKind.i64.wrap ((k : Int) + 1) = ((k + 1 : Nat) : Int) := by rw [w64 (by omega) (by omega)]; omega
      obtain ⟨k1, hk1⟩ : ∃ k1, k1 = k + 1 := ⟨_, rfl⟩
      rw [← hk1] at w1
      simp -implicitDefEqProofs [same_self, RunV.cells, eb, w1]
      subst a7
      refine cut_ev (k := k1) a1 a2 hT (by omega) (by omega) (fun c1 c2 h1 m1 t1 ix1 b1 S1 e1 P1 => ?_) (fun c3 => ?_)
      · have PP : Parts y k1 L2 (y.fst k1) ((b1, y.snd k1) :: L2) := .inl ⟨c1, c2, rfl, b1, rfl⟩
        have y1l : (y.fst k1).text.length = k + 1 := by simp [RunV.fst]; omega
        obtain ⟨y1, hy1⟩ : ∃ y1, y1 = y.fst k1 := ⟨_, rfl⟩
        obtain ⟨T0, hT0⟩ : ∃ T0, T0 = (b1, y.snd k1) :: L2 := ⟨_, rfl⟩
        rw [← hy1, ← hT0] at e1 PP
        rw [← hy1] at y1l
        have R1 : Rok t1.items := by rw [e1]; rw [hT] at a2; exact PP.rok a2
        have at1 : t1.at_ = t.at_ := by rw [at_items e1, at_items hT]; exact PP.at_
        have pl1 := PP.plain (a := a) (L1 := L1) (by rw [← hT]; exact a3)
        have f1 : flat ((L1 ++ (a, y1) :: T0).map (·.2)) = A := by
          obtain ⟨g1, g2⟩ := PP.flat
          rw [← a5y, List.map_append, List.map_append, flat_append, flat_append, List.map_cons, List.map_cons, flat_cons, flat_cons, g1, g2, ← List.append_assoc (List.take k1 _), List.take_append_drop]
        have ini1 := PP.ini
        have nj1 : A.length ≤ 1024 → NJ (L1.map (·.2) ++ [y1]) ∧ NJ (T0.map (·.2)) := fun hl => by
          have := a6 hl
          have : NJ (t.items.map (·.2)) := this
          rw [hT, List.map_append, List.map_cons] at this
          obtain ⟨n1, n2⟩ := NJ_split this
          exact ⟨NJ_ini (by rw [ini1]) n1, PP.tail n2⟩
        by_cases k0 : 0 < k
        · have d0 : decide ((0 : Int) < (k : Int)) = true := decide_eq_true (by omega)
          simp -implicitDefEqProofs [same_self, RunV.cells, w1, d0, k0]
          refine cut_ev (k := k) S1 R1 e1 (by omega) (by omega) (fun c4 c5 h2 m2 t2 ix2 b S2 e2 P2 => ?_) (fun c6 => absurd c6 (by omega))
          have R2 : Rok t2.items := by rw [e2]; rw [e1] at R1; exact R1.cut c4 c5
          obtain ⟨mid, hmid⟩ : ∃ mid, mid = y1.snd k := ⟨_, rfl⟩
          rw [← hmid] at e2
          have hml : mid.text.length = 1 := by rw [hmid]; simp [RunV.snd]; omega
          have e2' : t2.items = (L1 ++ [(a, y1.fst k)]) ++ (b, mid) :: T0 := by rw [e2]; simp
          have f2 : flat (((L1 ++ [(a, y1.fst k)]) ++ (b, mid) :: T0).map (·.2)) = A := by
            rw [← f1, hmid]; simp [flat_append]
            rw [← List.append_assoc (atomsOf (y1.fst k)), cut_atoms y1 k (by omega)]
          have hi : atomsN ((L1 ++ [(a, y1.fst k)]).map (·.2)) = atomsN (L1.map (·.2)) + k := by
            rw [List.map_append, atomsN_append]; simp [atomsN, RunV.fst]; omega
          have nj2 : A.length ≤ 1024 → NJ ((L1 ++ [(a, y1.fst k)]).map (·.2)) := fun hl => by
            rw [List.map_append]; exact NJ_ini (by rfl) (nj1 hl).1
          have pl2 : ∀ q ∈ (L1 ++ [(a, y1.fst k)]) ++ (b, mid.sh v) :: T0, plain q.2.text = true := by
            have h1 := pl1 (a, y1) (by simp)
            simp only [] at h1
            rw [← List.take_append_drop k y1.text, plain_append] at h1
            simp at h1
            intro q hq
            simp only [List.append_assoc, List.mem_append, List.mem_cons, List.cons_append, List.nil_append] at hq
            rcases hq with h | h | h | h
            · exact pl1 q (by simp [h])
            · rw [h]; exact h1.1
            · rw [h, hmid]; exact h1.2
            · exact pl1 q (by simp [h])
          simp -implicitDefEqProofs [same_self, RunV.cells, w1, d0, k0]
          refine rope_next S2.rp.tree S2.rp.nd e2 ?_
          simp -implicitDefEqProofs [same_self, RunV.cells, w1, d0, k0, headP]
          have at2 : t2.at_ ≤ 65536 := by
            have : t2.at_ = A.length := by rw [at_items e2', ← flatten_length]; rw [f2]
            omega
          obtain ⟨u2, l2, r2, ht2, sz2, all2, hn2⟩ := At.item (p := b) (x := mid) S2.rp.tree (by rw [e2']; simp)
          refine item_ev hn2 ?_
          simp -implicitDefEqProofs [same_self, RunV.cells]
          refine rope_set (z := ([], [m2])) (x := mid.sh v) S2.rp e2' ⟨by have := (fit_of R2 (by omega)).1; omega, by have := (fit_of R2 (by omega)).2.1; have : (mid.sh v).text.length = mid.text.length := rfl; omega⟩ (fun h3 t3 R3p e3 k3 n3 => ?_)
          obtain ⟨ix3, S3, P3⟩ := S2.set (t' := t3) (z := mid.sh v) e2' e3 rfl rfl R3p k3 n3
          have R3 : Rok t3.items := by rw [e3]; have hr := R2; rw [e2'] at hr; exact hr.set ((hr.ok (b, mid) (by simp)).sh v) (sh_within _ _)
          have at3 : t3.at_ = t2.at_ := by rw [at_items e3, at_items e2']; simp [atomsN, RunV.sh]
          simp -implicitDefEqProofs [same_self, RunV.cells]
          refine join_ev S3 R3 e3 (by omega) (fun h4 t4 ix4 S4 e4 P4 => ?_)
          have R4 : Rok t4.items := by rw [e4]; exact jn_Rok (by rw [← e3]; exact R3)
          have f4 : flat (t4.items.map (·.2)) = setSh A (atomsN (L1.map (·.2)) + k) v := by rw [e4, show_flat f2 hml]; exact congrArg (fun i => setSh A i v) hi
          have at4 : t4.at_ = A.length := by rw [at_items rfl, ← flatten_length, f4, setSh_len]
          have pl4 : ∀ q ∈ t4.items, plain q.2.text = true := by rw [e4]; exact jn_plain pl2
          obtain ⟨x', T1, z1, z2, z3, z4, z5, z6⟩ := jn_head b (mid.sh v) T0
          have nj4 : A.length ≤ 1024 → NJ ((jn b (mid.sh v) T0).map (·.2)) := fun hl => by
            refine jn_NJ ?_ (nj1 hl).2
            have h5 : atomsN ((mid.sh v) :: T0.map (·.2)) = mid.text.length + atomsN (T0.map (·.2)) := by simp [atomsN, RunV.sh]
            have h6 : A.length = atomsN (((L1 ++ [(a, y1.fst k)])).map (·.2)) + mid.text.length + atomsN (T0.map (·.2)) := by rw [← atomsN_mid (L1 ++ [(a, y1.fst k)]) T0 (b, mid), ← flatten_length, f2]
            omega
          have e4z := e4
          rw [z1] at e4z nj4
          simp -implicitDefEqProofs [same_self, RunV.cells]
          refine rope_prev S4.rp.tree S4.rp.nd e4z ?_
          have hlast : lastOf (L1 ++ [(a, y1.fst k)]) = .ptr a 0 := by simp [lastOf]
          simp -implicitDefEqProofs [hlast]
          have e4q : t4.items = L1 ++ (a, y1.fst k) :: (b, x') :: T1 := by rw [e4z]; simp
          refine join_ev S4 R4 e4q (by omega) (fun h5 t5 ix5 S5 e5 P5 => ?_)
          have R5 : Rok t5.items := by rw [e5]; exact jn_Rok (by rw [← e4q]; exact R4)
          have f5 : flat (t5.items.map (·.2)) = setSh A (atomsN (L1.map (·.2)) + k) v := by rw [e5, jn_flat, ← f4, e4q]
          have at5 : t5.at_ = A.length := by rw [at_items rfl, ← flatten_length, f5, setSh_len]
          simp -implicitDefEqProofs
          refine hq h5 _ ⟨m2, t5, ix5, S5, R5, ?_, by omega, f5, fun hl => ?_, rfl⟩ ((((P1.trans P2).trans P3).trans P4).trans P5)
          · rw [e5]; exact jn_plain (by rw [← e4q]; exact pl4)
          · show NJ (t5.items.map (·.2))
            rw [setSh_len] at hl
            have h5 : atomsN (y1.fst k :: ((b, x') :: T1).map (·.2)) ≤ 1024 := by
              have h6 : t4.at_ = atomsN (L1.map (·.2)) + (y1.fst k).text.length + atomsN (((b, x') :: T1).map (·.2)) := by rw [at_items e4q, atomsN_mid]
              have h7 : atomsN (y1.fst k :: ((b, x') :: T1).map (·.2)) = (y1.fst k).text.length + atomsN (((b, x') :: T1).map (·.2)) := by simp [atomsN]
              omega
            have nj5 := jn_NJ (a := a) h5 (nj4 hl)
            obtain ⟨z', Z, y1_, y2_, _⟩ := jn_head a (y1.fst k) ((b, x') :: T1)
            rw [e5, y1_, List.map_append, List.map_cons]
            rw [y1_, List.map_cons] at nj5
            have := nj2 hl
            rw [List.map_append] at this
            exact NJ_glue (NJ_ini (by rw [y2_]) this) nj5
        · have k00 : k = 0 := by omega
          have d0 : decide ((0 : Int) < (k : Int)) = false := decide_eq_false (by omega)
          simp -implicitDefEqProofs [same_self, RunV.cells, w1, d0, k00]
          have hml : y1.text.length = 1 := by omega
          have hi : atomsN (L1.map (·.2)) = atomsN (L1.map (·.2)) + k := by omega
          have nj2 : A.length ≤ 1024 → NJ (L1.map (·.2)) := fun hl => NJ_left _ _ (nj1 hl).1
          have pl2 : ∀ q ∈ L1 ++ (a, y1.sh v) :: T0, plain q.2.text = true := by
            intro q hq
            simp only [List.mem_append, List.mem_cons] at hq
            rcases hq with h | h | h
            · exact pl1 q (by simp [h])
            · rw [h]; exact pl1 (a, y1) (by simp)
            · exact pl1 q (by simp [h])
          have at2 : t1.at_ ≤ 65536 := by
            have : t1.at_ = A.length := by rw [at_items e1, ← flatten_length]; rw [f1]
            omega
          obtain ⟨u2, l2, r2, ht2, sz2, all2, hn2⟩ := At.item (p := a) (x := y1) S1.rp.tree (by rw [e1]; simp)
          refine item_ev hn2 ?_
          simp -implicitDefEqProofs [same_self, RunV.cells]
          refine rope_set (z := ([], [m1])) (x := y1.sh v) S1.rp e1 ⟨by have := (fit_of R1 (by omega)).1; omega, by have := (fit_of R1 (by omega)).2.1; have : (y1.sh v).text.length = y1.text.length := rfl; omega⟩ (fun h3 t3 R3p e3 k3 n3 => ?_)
          obtain ⟨ix3, S3, P3⟩ := S1.set (t' := t3) (z := y1.sh v) e1 e3 rfl rfl R3p k3 n3
          have R3 : Rok t3.items := by rw [e3]; have hr := R1; rw [e1] at hr; exact hr.set ((hr.ok (a, y1) (by simp)).sh v) (sh_within _ _)
          have at3 : t3.at_ = t1.at_ := by rw [at_items e3, at_items e1]; simp [atomsN, RunV.sh]
          simp -implicitDefEqProofs [same_self, RunV.cells]
          refine join_ev S3 R3 e3 (by omega) (fun h4 t4 ix4 S4 e4 P4 => ?_)
          have R4 : Rok t4.items := by rw [e4]; exact jn_Rok (by rw [← e3]; exact R3)
          have f4 : flat (t4.items.map (·.2)) = setSh A (atomsN (L1.map (·.2)) + k) v := by rw [e4, show_flat f1 hml]; exact congrArg (fun i => setSh A i v) hi
          have at4 : t4.at_ = A.length := by rw [at_items rfl, ← flatten_length, f4, setSh_len]
          have pl4 : ∀ q ∈ t4.items, plain q.2.text = true := by rw [e4]; exact jn_plain pl2
          obtain ⟨x', T1, z1, z2, z3, z4, z5, z6⟩ := jn_head a (y1.sh v) T0
          have nj4 : A.length ≤ 1024 → NJ ((jn a (y1.sh v) T0).map (·.2)) := fun hl => by
            refine jn_NJ ?_ (nj1 hl).2
            have h5 : atomsN ((y1.sh v) :: T0.map (·.2)) = y1.text.length + atomsN (T0.map (·.2)) := by simp [atomsN, RunV.sh]
            have h6 : A.length = atomsN ((L1).map (·.2)) + y1.text.length + atomsN (T0.map (·.2)) := by rw [← atomsN_mid L1 T0 (a, y1), ← flatten_length, f1]
            omega
          have e4z := e4
          rw [z1] at e4z nj4
          simp -implicitDefEqProofs [same_self, RunV.cells]
          refine rope_prev S4.rp.tree S4.rp.nd e4z ?_
          rcases List.eq_nil_or_concat L1 with hL | ⟨P0, q, hL⟩
          · subst hL
            simp -implicitDefEqProofs [lastOf]
            refine join_nil ?_
            simp -implicitDefEqProofs
            refine hq h4 _ ⟨m1, t4, ix4, S4, R4, pl4, by omega, f4, fun hl => ?_, rfl⟩ ((P1.trans P3).trans P4)
            show NJ (t4.items.map (·.2))
            rw [e4z]
            rw [setSh_len] at hl
            exact nj4 hl
          · obtain ⟨q, z⟩ := q
            rw [List.concat_eq_append] at hL
            subst hL
            have hlast : lastOf (P0 ++ [(q, z)]) = .ptr q 0 := by simp [lastOf]
            simp -implicitDefEqProofs [hlast]
            have e4q : t4.items = P0 ++ (q, z) :: (a, x') :: T1 := by rw [e4z]; simp
            refine join_ev S4 R4 e4q (by omega) (fun h5 t5 ix5 S5 e5 P5 => ?_)
            have R5 : Rok t5.items := by rw [e5]; exact jn_Rok (by rw [← e4q]; exact R4)
            have f5 : flat (t5.items.map (·.2)) = setSh A (atomsN ((P0 ++ [(q, z)]).map (·.2)) + k) v := by rw [e5, jn_flat, ← f4, e4q]
            have at5 : t5.at_ = A.length := by rw [at_items rfl, ← flatten_length, f5, setSh_len]
            simp -implicitDefEqProofs
            refine hq h5 _ ⟨m1, t5, ix5, S5, R5, ?_, by omega, f5, fun hl => ?_, rfl⟩ (((P1.trans P3).trans P4).trans P5)
            · rw [e5]; exact jn_plain (by rw [← e4q]; exact pl4)
            · show NJ (t5.items.map (·.2))
              rw [setSh_len] at hl
              have h5 : atomsN (z :: ((a, x') :: T1).map (·.2)) ≤ 1024 := by
                have h6 : t4.at_ = atomsN (P0.map (·.2)) + z.text.length + atomsN (((a, x') :: T1).map (·.2)) := by rw [at_items e4q, atomsN_mid]
                have h7 : atomsN (z :: ((a, x') :: T1).map (·.2)) = z.text.length + atomsN (((a, x') :: T1).map (·.2)) := by simp [atomsN]
                omega
              have nj5 := jn_NJ (a := q) h5 (nj4 hl)
              obtain ⟨z', Z, y1_, y2_, _⟩ := jn_head q z ((a, x') :: T1)
              rw [e5, y1_, List.map_append, List.map_cons]
              rw [y1_, List.map_cons] at nj5
              have := nj2 hl
              rw [List.map_append] at this
              exact NJ_glue (NJ_ini (by rw [y2_]) this) nj5
      · have PP : Parts y k1 L2 y L2 := .inr ⟨by omega, rfl, rfl⟩
        have y1l : y.text.length = k + 1 := by omega
        obtain ⟨h1, hh1⟩ : ∃ h1, h1 = h := ⟨_, rfl⟩
        have S1 := a1
        have P1 := Stp.refl h (SOwn h s m t)
        have e1 := hT
        rw [← hh1] at S1
        rw [← hh1]
        have P1 : Stp h (SOwn h s m t) h1 (SOwn h1 s m t) := by rw [hh1]; exact P1
        obtain ⟨t1, ht1⟩ : ∃ t1, t1 = t := ⟨_, rfl⟩
        rw [← ht1] at S1 e1
        have P1 : Stp h (SOwn h s m t) h1 (SOwn h1 s m t1) := by rw [ht1]; exact P1
        obtain ⟨m1, hm1⟩ : ∃ m1, m1 = m := ⟨_, rfl⟩
        rw [← hm1] at S1
        have P1 : Stp h (SOwn h s m t) h1 (SOwn h1 s m1 t1) := by rw [hm1]; exact P1
        obtain ⟨y1, hy1⟩ : ∃ y1, y1 = y := ⟨_, rfl⟩
        obtain ⟨T0, hT0⟩ : ∃ T0, T0 = L2 := ⟨_, rfl⟩
        have PP : Parts y k1 L2 y1 T0 := by rw [hy1, hT0]; exact PP
        have e1 : t1.items = L1 ++ (a, y1) :: T0 := by rw [hy1, hT0]; exact e1
        have y1l : y1.text.length = k + 1 := by rw [hy1]; exact y1l
        have R1 : Rok t1.items := by rw [e1]; rw [hT] at a2; exact PP.rok a2
        have at1 : t1.at_ = t.at_ := by rw [at_items e1, at_items hT]; exact PP.at_
        have pl1 := PP.plain (a := a) (L1 := L1) (by rw [← hT]; exact a3)
        have f1 : flat ((L1 ++ (a, y1) :: T0).map (·.2)) = A := by
          obtain ⟨g1, g2⟩ := PP.flat
          rw [← a5y, List.map_append, List.map_append, flat_append, flat_append, List.map_cons, List.map_cons, flat_cons, flat_cons, g1, g2, ← List.append_assoc (List.take k1 _), List.take_append_drop]
        have ini1 := PP.ini
        have nj1 : A.length ≤ 1024 → NJ (L1.map (·.2) ++ [y1]) ∧ NJ (T0.map (·.2)) := fun hl => by
          have := a6 hl
          have : NJ (t.items.map (·.2)) := this
          rw [hT, List.map_append, List.map_cons] at this
          obtain ⟨n1, n2⟩ := NJ_split this
          exact ⟨NJ_ini (by rw [ini1]) n1, PP.tail n2⟩
        by_cases k0 : 0 < k
        · have d0 : decide ((0 : Int) < (k : Int)) = true := decide_eq_true (by omega)
          simp -implicitDefEqProofs [same_self, RunV.cells, w1, d0, k0]
          refine cut_ev (k := k) S1 R1 e1 (by omega) (by omega) (fun c4 c5 h2 m2 t2 ix2 b S2 e2 P2 => ?_) (fun c6 => absurd c6 (by omega))
          have R2 : Rok t2.items := by rw [e2]; rw [e1] at R1; exact R1.cut c4 c5
          obtain ⟨mid, hmid⟩ : ∃ mid, mid = y1.snd k := ⟨_, rfl⟩
          rw [← hmid] at e2
          have hml : mid.text.length = 1 := by rw [hmid]; simp [RunV.snd]; omega
          have e2' : t2.items = (L1 ++ [(a, y1.fst k)]) ++ (b, mid) :: T0 := by rw [e2]; simp
          have f2 : flat (((L1 ++ [(a, y1.fst k)]) ++ (b, mid) :: T0).map (·.2)) = A := by
            rw [← f1, hmid]; simp [flat_append]
            rw [← List.append_assoc (atomsOf (y1.fst k)), cut_atoms y1 k (by omega)]
          have hi : atomsN ((L1 ++ [(a, y1.fst k)]).map (·.2)) = atomsN (L1.map (·.2)) + k := by
            rw [List.map_append, atomsN_append]; simp [atomsN, RunV.fst]; omega
          have nj2 : A.length ≤ 1024 → NJ ((L1 ++ [(a, y1.fst k)]).map (·.2)) := fun hl => by
            rw [List.map_append]; exact NJ_ini (by rfl) (nj1 hl).1
          have pl2 : ∀ q ∈ (L1 ++ [(a, y1.fst k)]) ++ (b, mid.sh v) :: T0, plain q.2.text = true := by
            have h1 := pl1 (a, y1) (by simp)
            simp only [] at h1
            rw [← List.take_append_drop k y1.text, plain_append] at h1
            simp at h1
            intro q hq
            simp only [List.append_assoc, List.mem_append, List.mem_cons, List.cons_append, List.nil_append] at hq
            rcases hq with h | h | h | h
            · exact pl1 q (by simp [h])
            · rw [h]; exact h1.1
            · rw [h, hmid]; exact h1.2
            · exact pl1 q (by simp [h])
          simp -implicitDefEqProofs [same_self, RunV.cells, w1, d0, k0]
          refine rope_next S2.rp.tree S2.rp.nd e2 ?_
          simp -implicitDefEqProofs [same_self, RunV.cells, w1, d0, k0, headP]
          have at2 : t2.at_ ≤ 65536 := by
            have : t2.at_ = A.length := by rw [at_items e2', ← flatten_length]; rw [f2]
            omega
          obtain ⟨u2, l2, r2, ht2, sz2, all2, hn2⟩ := At.item (p := b) (x := mid) S2.rp.tree (by rw [e2']; simp)
          refine item_ev hn2 ?_
          simp -implicitDefEqProofs [same_self, RunV.cells]
          refine rope_set (z := ([], [m2])) (x := mid.sh v) S2.rp e2' ⟨by have := (fit_of R2 (by omega)).1; omega, by have := (fit_of R2 (by omega)).2.1; have : (mid.sh v).text.length = mid.text.length := rfl; omega⟩ (fun h3 t3 R3p e3 k3 n3 => ?_)
          obtain ⟨ix3, S3, P3⟩ := S2.set (t' := t3) (z := mid.sh v) e2' e3 rfl rfl R3p k3 n3
          have R3 : Rok t3.items := by rw [e3]; have hr := R2; rw [e2'] at hr; exact hr.set ((hr.ok (b, mid) (by simp)).sh v) (sh_within _ _)
          have at3 : t3.at_ = t2.at_ := by rw [at_items e3, at_items e2']; simp [atomsN, RunV.sh]
          simp -implicitDefEqProofs [same_self, RunV.cells]
          refine join_ev S3 R3 e3 (by omega) (fun h4 t4 ix4 S4 e4 P4 => ?_)
          have R4 : Rok t4.items := by rw [e4]; exact jn_Rok (by rw [← e3]; exact R3)
          have f4 : flat (t4.items.map (·.2)) = setSh A (atomsN (L1.map (·.2)) + k) v := by rw [e4, show_flat f2 hml]; exact congrArg (fun i => setSh A i v) hi
          have at4 : t4.at_ = A.length := by rw [at_items rfl, ← flatten_length, f4, setSh_len]
          have pl4 : ∀ q ∈ t4.items, plain q.2.text = true := by rw [e4]; exact jn_plain pl2
          obtain ⟨x', T1, z1, z2, z3, z4, z5, z6⟩ := jn_head b (mid.sh v) T0
          have nj4 : A.length ≤ 1024 → NJ ((jn b (mid.sh v) T0).map (·.2)) := fun hl => by
            refine jn_NJ ?_ (nj1 hl).2
            have h5 : atomsN ((mid.sh v) :: T0.map (·.2)) = mid.text.length + atomsN (T0.map (·.2)) := by simp [atomsN, RunV.sh]
            have h6 : A.length = atomsN (((L1 ++ [(a, y1.fst k)])).map (·.2)) + mid.text.length + atomsN (T0.map (·.2)) := by rw [← atomsN_mid (L1 ++ [(a, y1.fst k)]) T0 (b, mid), ← flatten_length, f2]
            omega
          have e4z := e4
          rw [z1] at e4z nj4
          simp -implicitDefEqProofs [same_self, RunV.cells]
          refine rope_prev S4.rp.tree S4.rp.nd e4z ?_
          have hlast : lastOf (L1 ++ [(a, y1.fst k)]) = .ptr a 0 := by simp [lastOf]
          simp -implicitDefEqProofs [hlast]
          have e4q : t4.items = L1 ++ (a, y1.fst k) :: (b, x') :: T1 := by rw [e4z]; simp
          refine join_ev S4 R4 e4q (by omega) (fun h5 t5 ix5 S5 e5 P5 => ?_)
          have R5 : Rok t5.items := by rw [e5]; exact jn_Rok (by rw [← e4q]; exact R4)
          have f5 : flat (t5.items.map (·.2)) = setSh A (atomsN (L1.map (·.2)) + k) v := by rw [e5, jn_flat, ← f4, e4q]
          have at5 : t5.at_ = A.length := by rw [at_items rfl, ← flatten_length, f5, setSh_len]
          simp -implicitDefEqProofs
          refine hq h5 _ ⟨m2, t5, ix5, S5, R5, ?_, by omega, f5, fun hl => ?_, rfl⟩ ((((P1.trans P2).trans P3).trans P4).trans P5)
          · rw [e5]; exact jn_plain (by rw [← e4q]; exact pl4)
          · show NJ (t5.items.map (·.2))
            rw [setSh_len] at hl
            have h5 : atomsN (y1.fst k :: ((b, x') :: T1).map (·.2)) ≤ 1024 := by
              have h6 : t4.at_ = atomsN (L1.map (·.2)) + (y1.fst k).text.length + atomsN (((b, x') :: T1).map (·.2)) := by rw [at_items e4q, atomsN_mid]
              have h7 : atomsN (y1.fst k :: ((b, x') :: T1).map (·.2)) = (y1.fst k).text.length + atomsN (((b, x') :: T1).map (·.2)) := by simp [atomsN]
              omega
            have nj5 := jn_NJ (a := a) h5 (nj4 hl)
            obtain ⟨z', Z, y1_, y2_, _⟩ := jn_head a (y1.fst k) ((b, x') :: T1)
            rw [e5, y1_, List.map_append, List.map_cons]
            rw [y1_, List.map_cons] at nj5
            have := nj2 hl
            rw [List.map_append] at this
            exact NJ_glue (NJ_ini (by rw [y2_]) this) nj5
        · have k00 : k = 0 := by omega
          have d0 : decide ((0 : Int) < (k : Int)) = false := decide_eq_false (by omega)
          simp -implicitDefEqProofs [same_self, RunV.cells, w1, d0, k00]
          have hml : y1.text.length = 1 := by omega
          have hi : atomsN (L1.map (·.2)) = atomsN (L1.map (·.2)) + k := by omega
          have nj2 : A.length ≤ 1024 → NJ (L1.map (·.2)) := fun hl => NJ_left _ _ (nj1 hl).1
          have pl2 : ∀ q ∈ L1 ++ (a, y1.sh v) :: T0, plain q.2.text = true := by
            intro q hq
            simp only [List.mem_append, List.mem_cons] at hq
            rcases hq with h | h | h
            · exact pl1 q (by simp [h])
            · rw [h]; exact pl1 (a, y1) (by simp)
            · exact pl1 q (by simp [h])
          have at2 : t1.at_ ≤ 65536 := by
            have : t1.at_ = A.length := by rw [at_items e1, ← flatten_length]; rw [f1]
            omega
          obtain ⟨u2, l2, r2, ht2, sz2, all2, hn2⟩ := At.item (p := a) (x := y1) S1.rp.tree (by rw [e1]; simp)
          refine item_ev hn2 ?_
          simp -implicitDefEqProofs [same_self, RunV.cells]
          refine rope_set (z := ([], [m1])) (x := y1.sh v) S1.rp e1 ⟨by have := (fit_of R1 (by omega)).1; omega, by have := (fit_of R1 (by omega)).2.1; have : (y1.sh v).text.length = y1.text.length := rfl; omega⟩ (fun h3 t3 R3p e3 k3 n3 => ?_)
          obtain ⟨ix3, S3, P3⟩ := S1.set (t' := t3) (z := y1.sh v) e1 e3 rfl rfl R3p k3 n3
          have R3 : Rok t3.items := by rw [e3]; have hr := R1; rw [e1] at hr; exact hr.set ((hr.ok (a, y1) (by simp)).sh v) (sh_within _ _)
          have at3 : t3.at_ = t1.at_ := by rw [at_items e3, at_items e1]; simp [atomsN, RunV.sh]
          simp -implicitDefEqProofs [same_self, RunV.cells]
          refine join_ev S3 R3 e3 (by omega) (fun h4 t4 ix4 S4 e4 P4 => ?_)
          have R4 : Rok t4.items := by rw [e4]; exact jn_Rok (by rw [← e3]; exact R3)
          have f4 : flat (t4.items.map (·.2)) = setSh A (atomsN (L1.map (·.2)) + k) v := by rw [e4, show_flat f1 hml]; exact congrArg (fun i => setSh A i v) hi
          have at4 : t4.at_ = A.length := by rw [at_items rfl, ← flatten_length, f4, setSh_len]
          have pl4 : ∀ q ∈ t4.items, plain q.2.text = true := by rw [e4]; exact jn_plain pl2
          obtain ⟨x', T1, z1, z2, z3, z4, z5, z6⟩ := jn_head a (y1.sh v) T0
          have nj4 : A.length ≤ 1024 → NJ ((jn a (y1.sh v) T0).map (·.2)) := fun hl => by
            refine jn_NJ ?_ (nj1 hl).2
            have h5 : atomsN ((y1.sh v) :: T0.map (·.2)) = y1.text.length + atomsN (T0.map (·.2)) := by simp [atomsN, RunV.sh]
            have h6 : A.length = atomsN ((L1).map (·.2)) + y1.text.length + atomsN (T0.map (·.2)) := by rw [← atomsN_mid L1 T0 (a, y1), ← flatten_length, f1]
            omega
          have e4z := e4
          rw [z1] at e4z nj4
          simp -implicitDefEqProofs [same_self, RunV.cells]
          refine rope_prev S4.rp.tree S4.rp.nd e4z ?_
          rcases List.eq_nil_or_concat L1 with hL | ⟨P0, q, hL⟩
          · subst hL
            simp -implicitDefEqProofs [lastOf]
            refine join_nil ?_
            simp -implicitDefEqProofs
            refine hq h4 _ ⟨m1, t4, ix4, S4, R4, pl4, by omega, f4, fun hl => ?_, rfl⟩ ((P1.trans P3).trans P4)
            show NJ (t4.items.map (·.2))
            rw [e4z]
            rw [setSh_len] at hl
            exact nj4 hl
          · obtain ⟨q, z⟩ := q
            rw [List.concat_eq_append] at hL
            subst hL
            have hlast : lastOf (P0 ++ [(q, z)]) = .ptr q 0 := by simp [lastOf]
            simp -implicitDefEqProofs [hlast]
            have e4q : t4.items = P0 ++ (q, z) :: (a, x') :: T1 := by rw [e4z]; simp
            refine join_ev S4 R4 e4q (by omega) (fun h5 t5 ix5 S5 e5 P5 => ?_)
            have R5 : Rok t5.items := by rw [e5]; exact jn_Rok (by rw [← e4q]; exact R4)
            have f5 : flat (t5.items.map (·.2)) = setSh A (atomsN ((P0 ++ [(q, z)]).map (·.2)) + k) v := by rw [e5, jn_flat, ← f4, e4q]
            have at5 : t5.at_ = A.length := by rw [at_items rfl, ← flatten_length, f5, setSh_len]
            simp -implicitDefEqProofs
            refine hq h5 _ ⟨m1, t5, ix5, S5, R5, ?_, by omega, f5, fun hl => ?_, rfl⟩ (((P1.trans P3).trans P4).trans P5)
            · rw [e5]; exact jn_plain (by rw [← e4q]; exact pl4)
            · show NJ (t5.items.map (·.2))
              rw [setSh_len] at hl
              have h5 : atomsN (z :: ((a, x') :: T1).map (·.2)) ≤ 1024 := by
                have h6 : t4.at_ = atomsN (P0.map (·.2)) + z.text.length + atomsN (((a, x') :: T1).map (·.2)) := by rw [at_items e4q, atomsN_mid]
                have h7 : atomsN (z :: ((a, x') :: T1).map (·.2)) = z.text.length + atomsN (((a, x') :: T1).map (·.2)) := by simp [atomsN]
                omega
              have nj5 := jn_NJ (a := q) h5 (nj4 hl)
              obtain ⟨z', Z, y1_, y2_, _⟩ := jn_head q z ((a, x') :: T1)
              rw [e5, y1_, List.map_append, List.map_cons]
              rw [y1_, List.map_cons] at nj5
              have := nj2 hl
              rw [List.map_append] at this
              exact NJ_glue (NJ_ini (by rw [y2_]) this) nj5
  · have hnone : atIx A ar an = none := by
      rw [← a5']
      refine atIx_none.2 (fun y hy hh => ?_)
      obtain ⟨p, hp, rfl⟩ := List.mem_map.1 hy
      exact hno p hp hh
    have e0 : showA A ar an v = (A, 40) := by unfold showA; rw [hnone]
    rw [e0] at hq
    simp -implicitDefEqProofs [same_self]
    exact hq h O ⟨m, t, ix, a1, a2, a3, a4, a5, a6, a7⟩ (Stp.refl _ _)
end
end Go.Proofs.YthblmlkkmebciaaDoor
set_option linter.all false
set_option maxRecDepth 100000
set_option maxHeartbeats 4000000
namespace Go.Proofs.YthblmlkkmebciaaDoor
open Go Go.RowKit Go.Proofs
def AtV.cells (a : AtV) : List AVal := [.int .u64 a.clock, .int .u16 a.r, .int .u32 a.n, .int .u16 a.er, .int .u32 a.en, .int .u8 a.b.toNat, .bool a.shown]
def zeroAtom : AVal := .agg [.int .u64 0, .int .u16 0, .int .u32 0, .int .u16 0, .int .u32 0, .int .u8 0, .bool false]
/-- an atom of a run -/
def RunV.atom (x : RunV) (i : Nat) (b : UInt8) : AtV := ⟨x.clock, x.r, x.n + i, x.er, x.en + i, b, x.shown⟩
theorem shown_take {y : RunV} {k : Nat} (hk : k ≤ y.text.length) : (shownA ((atomsOf y).take k)).length = if y.shown then k else 0 := by
  rw [← fst_atoms y k hk]
  unfold atomsOf
  rw [shownA_run]
  have hl : (y.fst k).text.length = k := by simp [RunV.fst]; omega
  cases h : (y.fst k).shown <;> (have h2 : (y.fst k).shown = y.shown := rfl; rw [h] at h2; simp [← h2, hl])
section
variable {ro : Nat → Option (List AVal)}
theorem atom_ev {h : AHeap} {x : RunV} {i : Nat} {b : UInt8} (hx : RunOk x) (hb : x.text[i]? = some b) {Q : AVal → AHeap → Prop} (hq : Q (.agg (x.atom i b).cells) h) : Ev (cfgR ro) 75 [.agg x.cells, .int .i64 (i : Nat)] h Q := by
  refine Ev.wp rfl rfl Tryd.func75 rfl ?_
  have hi := (List.getElem?_eq_some_iff.1 hb).1
  obtain ⟨p1, p2, p3, p4, p5, p6⟩ := hx
  have ix : idxNat (.int .i64 (i : Int)) x.text.length = .ok i := ix_nat hi
  simp only [AtV.cells, RunV.atom] at hq
  obtain ⟨m1, hm1⟩ : ∃ m1, m1 = x.n + i := ⟨_, rfl⟩
  obtain ⟨m2, hm2⟩ : ∃ m2, m2 = x.en + i := ⟨_, rfl⟩
  rw [← hm1, ← hm2] at hq
  simp -implicitDefEqProofs [Tryd.f75, RunV.cells, same_self]
  refine keyPlus_ev (c := x.clock) (r := x.r) (n := x.n) (k := i) (by omega) ?_
  rw [← hm1]
  simp -implicitDefEqProofs [RunV.cells, same_self, keyA]
  refine idPlus_ev (r := x.er) (n := x.en) (k := i) (by omega) ?_
  rw [← hm2]
  simp -implicitDefEqProofs [RunV.cells, same_self, keyA, idA, ix, hb]
  exact hq
/-- the atom at a place of a run -/
theorem get_at {L1 L2 : List (Nat × RunV)} {a : Nat} {y : RunV} {A : List AtV} {k : Nat} (hA : flat ((L1 ++ (a, y) :: L2).map (·.2)) = A) (hk : k < y.text.length) : ∃ b, y.text[k]? = some b ∧ A[atomsN (L1.map (·.2)) + k]? = some (y.atom k b) := by
  refine ⟨_, List.getElem?_eq_getElem hk, ?_⟩
  rw [← hA, List.map_append, List.map_cons, flat_append, flat_cons, ← flatten_length, List.getElem?_append_right (by omega), Nat.add_sub_cancel_left, List.getElem?_append_left (by rw [atomsOf_len]; exact hk), atomsOf_get, List.getElem?_eq_getElem hk]
  rfl
theorem sget_ev {h : AHeap} {s : Nat} {O : Nat → Prop} {A : List AtV} {ar an : Nat} (S : StA h s O A) (ha : an < 2 ^ 32) {Q : AVal → AHeap → Prop}
    (hq1 : ∀ i a, atIx A ar an = some i → A[i]? = some a → Q (.tuple [.agg a.cells, .bool true]) h) (hq2 : atIx A ar an = none → Q (.tuple [zeroAtom, .bool false]) h) : Ev (cfgR ro) 35 [.ptr s 0, idA ar an] h Q := by
  refine Ev.wp rfl rfl Tryd.func35 rfl ?_
  obtain ⟨m, t, ix, a1, a2, a3, a4, a5, a6, a7⟩ := S
  have a5' : flat (t.items.map (·.2)) = A := a5
  simp -implicitDefEqProofs [Tryd.f35, idA, same_self]
  refine at_ev a1 a2 ha (fun L1 a y L2 hT hh => ?_) (fun hno => ?_)
  · obtain ⟨k, hk⟩ : ∃ k, k = an - y.n := ⟨_, rfl⟩
    have hky : k < y.text.length := by have := hh.2; omega
    have a5y : flat ((L1 ++ (a, y) :: L2).map (·.2)) = A := by rw [← hT]; exact a5'
    have hpos := pos_at (L1 := L1) (a := a) (y := y) (L2 := L2) (ar := ar) (an := an) (by rw [← hT]; exact a2) hh
    rw [a5y, ← hk] at hpos
    obtain ⟨b, hb1, hb2⟩ := get_at a5y hky
    obtain ⟨u, l, r, ht, sz, all, hn⟩ := At.item (p := a) (x := y) a1.rp.tree (by rw [hT]; simp)
    have hq := hq1 _ _ hpos hb2
    simp only [AtV.cells] at hq
    rw [← hk]
    simp -implicitDefEqProofs [same_self]
    refine item_ev hn ?_
    simp -implicitDefEqProofs [same_self]
    refine atom_ev (a2.ok (a, y) (by rw [hT]; simp)) hb1 ?_
    simp -implicitDefEqProofs [same_self, AtV.cells]
    exact hq
  · have hnone : atIx A ar an = none := by
      rw [← a5']
      refine atIx_none.2 (fun y hy hh => ?_)
      obtain ⟨p, hp, rfl⟩ := List.mem_map.1 hy
      exact hno p hp hh
    have hq := hq2 hnone
    simp only [zeroAtom] at hq
    simp -implicitDefEqProofs [same_self]
    exact hq
theorem sindex_ev {h : AHeap} {s : Nat} {O : Nat → Prop} {A : List AtV} {ar an : Nat} (S : StA h s O A) (ha : an < 2 ^ 32) {Q : AVal → AHeap → Prop}
    (hq1 : ∀ i h', Old h h' → atIx A ar an = some i → Q (.tuple [.int .i64 (i : Nat), .int .i64 ((shownA (A.take i)).length : Nat), .bool true]) h') (hq2 : atIx A ar an = none → Q (.tuple [.int .i64 0, .int .i64 0, .bool false]) h) : Ev (cfgR ro) 36 [.ptr s 0, idA ar an] h Q := by
  refine Ev.wp rfl rfl Tryd.func36 rfl ?_
  obtain ⟨m, t, ix, a1, a2, a3, a4, a5, a6, a7⟩ := S
  have a5' : flat (t.items.map (·.2)) = A := a5
  simp -implicitDefEqProofs [Tryd.f36, idA, same_self]
  refine at_ev a1 a2 ha (fun L1 a y L2 hT hh => ?_) (fun hno => ?_)
  · obtain ⟨k, hk⟩ : ∃ k, k = an - y.n := ⟨_, rfl⟩
    have hky : k < y.text.length := by have := hh.2; omega
    have a5y : flat ((L1 ++ (a, y) :: L2).map (·.2)) = A := by rw [← hT]; exact a5'
    have hpos := pos_at (L1 := L1) (a := a) (y := y) (L2 := L2) (ar := ar) (an := an) (by rw [← hT]; exact a2) hh
    rw [a5y, ← hk] at hpos
    have hfit := fit_of a2 (Nat.le_trans a4 (by decide))
    have hsh : (shownA (A.take (atomsN (L1.map (·.2)) + k))).length = (shownTx (L1.map (·.2))).length + if y.shown then k else 0 := by
      rw [← a5y, (flat_pos (Nat.le_of_lt hky)).1, shownA_append, List.length_append, shownA_flat, shown_take (Nat.le_of_lt hky)]
    have hyl := (a2.ok (a, y) (by rw [hT]; simp)).len
    simp only [] at hyl
    obtain ⟨u, l, r, ht, sz, all, hn⟩ := At.item (p := a) (x := y) a1.rp.tree (by rw [hT]; simp)
    rw [← hk]
    simp -implicitDefEqProofs [same_self]
    refine rope_before (z := ([], [m])) a1.rp hT hfit.2.2 (fun mm h1 o1 hm => ?_)
    have hn1 : h1.get a = some (nrow u l r ht sz y all) := by rw [o1.2 a (a1.rp.lt a (by unfold Rt.ids; rw [hT]; simp))]; exact hn
    have m1 : mm.at_ = atomsN (L1.map (·.2)) := hm.at_
    have m2 : mm.sh = (shownTx (L1.map (·.2))).length := hm.sh
    have hle := shown_le (L1.map (·.2))
    have htot := at_items hT
    rw [atomsN_mid] at htot
    rw [← m2] at hsh
    have hq := hq1 _ h1 o1 hpos
    rw [hsh, ← m1] at hq
    have w2 : IntKind.i64.wrap ((mm.at_ : Int) + (k : Int)) = ((mm.at_ + k : Nat) : Int) := by rw [w64 (by omega) (by omega)]; omega
    obtain ⟨q1, hq1'⟩ : ∃ q1, q1 = mm.at_ + k := ⟨_, rfl⟩
    rw [← hq1'] at w2 hq
    simp -implicitDefEqProofs [same_self, MassV.cells]
    refine item_ev hn1 ?_
    cases hs : y.shown with
    | true =>
      have w1 : IntKind.i64.wrap ((mm.sh : Int) + (k : Int)) = ((mm.sh + k : Nat) : Int) := by rw [w64 (by omega) (by omega)]; omega
      obtain ⟨q2, hq2'⟩ : ∃ q2, q2 = mm.sh + k := ⟨_, rfl⟩
      rw [hs, if_pos rfl, ← hq2'] at hq
      rw [← hq2'] at w1
      simp -implicitDefEqProofs [same_self, MassV.cells, RunV.cells, hs, w1, w2]
      exact hq
    | false =>
      rw [hs] at hq
      simp only [Bool.false_eq_true, if_false, Nat.add_zero] at hq
      simp -implicitDefEqProofs [same_self, MassV.cells, RunV.cells, hs, w2]
      exact hq
  · have hnone : atIx A ar an = none := by
      rw [← a5']
      refine atIx_none.2 (fun y hy hh => ?_)
      obtain ⟨p, hp, rfl⟩ := List.mem_map.1 hy
      exact hno p hp hh
    simp -implicitDefEqProofs [same_self]
    exact hq2 hnone
theorem sat_ev {h : AHeap} {s : Nat} {O : Nat → Prop} {A : List AtV} {i : Int} (S : StA h s O A) {Q : AVal → AHeap → Prop}
    (hq1 : ∀ k a h', Old h h' → A[k]? = some a → a.shown = true → ((shownA (A.take k)).length : Int) = i → Q (.tuple [.agg a.cells, .bool true]) h') (hq2 : (i < 0 ∨ ((shownA A).length : Int) ≤ i) → ∀ h', Old h h' → Q (.tuple [zeroAtom, .bool false]) h') : Ev (cfgR ro) 40 [.ptr s 0, .int .i64 i] h Q := by
  refine Ev.wp rfl rfl Tryd.func40 rfl ?_
  obtain ⟨m, t, ix, a1, a2, a3, a4, a5, a6, a7⟩ := S
  have a5' : flat (t.items.map (·.2)) = A := a5
  have hshA : shownA A = shownTx t.rs := by rw [← a5, shownA_flat]
  simp only [zeroAtom] at hq2
  simp -implicitDefEqProofs [Tryd.f40, same_self]
  obtain ⟨H1, hH1⟩ : ∃ H1, H1 = h.push (.row 0 false [.int .i64 i]) := ⟨_, rfl⟩
  obtain ⟨q, hqq⟩ : ∃ q, q = h.next := ⟨_, rfl⟩
  have o1 : Old h H1 := by rw [hH1]; exact (Old.refl h).push _
  have hg : H1.get q = some (.row 0 false [.int .i64 i]) := by rw [hH1, hqq]; exact get_push_next _ _
  have hqn : q < H1.next := by rw [hH1, hqq]; simp
  have b1 := (a1.old o1).1
  rw [← hH1, ← hqq]
  by_cases c1 : i < 0
  · have hq := hq2 (.inl c1) H1 o1
    simp -implicitDefEqProofs [same_self, c1, hg]
    exact hq
  · have d1 : decide (i < 0) = false := decide_eq_false c1
    simp -implicitDefEqProofs [same_self, c1, hg]
    refine sshown_ev b1 ?_
    rw [← hshA]
    by_cases c2 : ((shownA A).length : Int) ≤ i
    · have hq := hq2 (.inr c2) H1 o1
      simp -implicitDefEqProofs [same_self, c1, c2, hg]
      exact hq
    · have hfit := fit_of a2 (Nat.le_trans a4 (by decide))
      simp -implicitDefEqProofs [same_self, c1, c2, hg]
      refine rope_find (z := ([], [m])) b1.rp hfit.2.2 (by omega) (by rw [hshA] at c2; omega) hg hqn (fun L1 a y L2 mm h2 o2 hT hm g1 g2 => ?_)
      have a5y : flat ((L1 ++ (a, y) :: L2).map (·.2)) = A := by rw [← hT]; exact a5'
      have m2 : mm.sh = (shownTx (L1.map (·.2))).length := hm.sh
      have b2 := (b1.old o2).1
      have hg2 : H1.get q = h2.get q := (o2.2 q hqn).symm
      rw [hg2] at hg
      obtain ⟨u, l, r, ht, sz, all, hn⟩ := At.item (p := a) (x := y) b2.rp.tree (by rw [hT]; simp)
      have hsy : y.shown = true ∧ i < (mm.sh : Int) + (y.text.length : Int) := by
        cases hs : y.shown with
        | true => simp [shownTx, hs] at g2; exact ⟨rfl, g2⟩
        | false => simp [shownTx, hs] at g2; omega
      obtain ⟨k, hk⟩ : ∃ k : Nat, (k : Int) = i - (mm.sh : Int) := ⟨(i - (mm.sh : Int)).toNat, by omega⟩
      have hky : k < y.text.length := by omega
      have hyl := (a2.ok (a, y) (by rw [hT]; simp)).len
      simp only [] at hyl
      obtain ⟨b, hb1, hb2⟩ := get_at a5y hky
      have hsh : (shownA (A.take (atomsN (L1.map (·.2)) + k))).length = mm.sh + k := by
        rw [← a5y, (flat_pos (Nat.le_of_lt hky)).1, shownA_append, List.length_append, shownA_flat, shown_take (Nat.le_of_lt hky), if_pos hsy.1, m2]
      have hq := hq1 _ _ h2 (o1.trans o2) hb2 hsy.1 (by rw [hsh]; omega)
      simp only [AtV.cells] at hq
      have w1 : IntKind.i64.wrap (i - (mm.sh : Int)) = (k : Int) := by rw [← hk]; exact w64 (by omega) (by omega)
      simp -implicitDefEqProofs [same_self, c1, c2, hg, MassV.cells]
      refine item_ev hn ?_
      simp -implicitDefEqProofs [same_self, c1, c2, hg, MassV.cells, w1]
      refine atom_ev (a2.ok (a, y) (by rw [hT]; simp)) hb1 ?_
      simp -implicitDefEqProofs [same_self, c1, c2, hg, MassV.cells, w1, AtV.cells]
      exact hq
theorem sbehind_ev (hro : ro 0 = some [.int .u16 0, .int .u32 0]) {h : AHeap} {s : Nat} {O : Nat → Prop} {A : List AtV} {ar an : Nat} (S : StA h s O A) (ha : an < 2 ^ 32) {Q : AVal → AHeap → Prop}
    (hq1 : ∀ k z rest, posA A ar an = some k → A.drop k = atomsOf z ++ rest → RunOk z → plain z.text = true → Q (.tuple [.agg z.cells, .bool true]) h)
    (hq2 : (∀ k, posA A ar an = some k → A.length ≤ k) → Q (.tuple [zeroRun, .bool false]) h) : Ev (cfgR ro) 41 [.ptr s 0, idA ar an] h Q := by
  refine Ev.wp rfl rfl Tryd.func41 rfl ?_
  obtain ⟨m, t, ix, a1, a2, a3, a4, a5, a6, a7⟩ := S
  have a5' : flat (t.items.map (·.2)) = A := a5
  obtain ⟨s0, hr⟩ := a1.rp.root
  have first : ∀ K : AVal → AHeap → Prop, K t.lm h → Ev (cfgR ro) 69 [.ptr s 0] h K := fun K hK => first_ev (z := ([], [m])) hr a1.rp.tree hK
  simp only [zeroRun] at hq2
  simp -implicitDefEqProofs [Tryd.f41, idA, same_self]
  refine first _ ?_
  simp -implicitDefEqProofs [same_self]
  refine idRoot_ev hro ?_
  -- the run at a place of the row
  have at_row : ∀ L1 a y L2, t.items = L1 ++ (a, y) :: L2 → (∃ u l r ht sz all, h.get a = some (nrow u l r ht sz y all)) ∧ A.drop (atomsN (L1.map (·.2))) = atomsOf y ++ flat (L2.map (·.2)) ∧ RunOk y ∧ plain y.text = true := by
    intro L1 a y L2 hT
    have a5y : flat ((L1 ++ (a, y) :: L2).map (·.2)) = A := by rw [← hT]; exact a5'
    have hm : (a, y) ∈ t.items := by rw [hT]; simp
    refine ⟨At.item a1.rp.tree hm, ?_, a2.ok _ hm, a3 _ hm⟩
    have := (flat_pos (L1 := L1) (L2 := L2) (a := a) (y := y) (k := 0) (Nat.zero_le _)).2
    rw [a5y] at this; simpa using this
  by_cases c : ar = 0 ∧ an = 0
  · have hpos : posA A ar an = some 0 := by unfold posA; rw [if_pos c]
    rw [decide_eq_true c, lm_head]
    cases hT : t.items with
    | nil =>
      have : A = [] := by rw [← a5', hT]; rfl
      simp -implicitDefEqProofs [same_self, headP]
      exact hq2 (fun k _ => by rw [this]; exact Nat.zero_le _)
    | cons p L2 =>
      obtain ⟨a, y⟩ := p
      obtain ⟨⟨u, l, r, ht, sz, all, hn⟩, e1, e2, e3⟩ := at_row [] a y L2 hT
      have hq := hq1 0 y _ hpos e1 e2 e3
      simp only [RunV.cells] at hq
      simp -implicitDefEqProofs [same_self, headP]
      refine item_ev hn ?_
      simp -implicitDefEqProofs [same_self, RunV.cells]
      exact hq
  · rw [decide_eq_false c]
    simp -implicitDefEqProofs [same_self]
    refine at_ev a1 a2 ha (fun L1 a y L2 hT hh => ?_) (fun hno => ?_)
    · obtain ⟨k, hk⟩ : ∃ k, k = an - y.n := ⟨_, rfl⟩
      have hky : k < y.text.length := by have := hh.2; omega
      have a5y : flat ((L1 ++ (a, y) :: L2).map (·.2)) = A := by rw [← hT]; exact a5'
      have hpos := pos_at (L1 := L1) (a := a) (y := y) (L2 := L2) (ar := ar) (an := an) (by rw [← hT]; exact a2) hh
      rw [a5y, ← hk] at hpos
      obtain ⟨k1, hk1⟩ : ∃ k1, k1 = k + 1 := ⟨_, rfl⟩
      have hpos : posA A ar an = some (atomsN (L1.map (·.2)) + k1) := by unfold posA; rw [if_neg c, hpos]; rw [hk1]; rfl
      obtain ⟨⟨u, l, r, ht, sz, all, hn⟩, e1, e2, e3⟩ := at_row L1 a y L2 hT
      have hyl := e2.len
      have w1 : IntKind.i64.wrap ((k : Int) + 1) = (k1 : Int) := by rw [w64 (by omega) (by omega)]; omega
      rw [← hk]
      simp -implicitDefEqProofs [same_self]
      refine item_ev hn ?_
      simp -implicitDefEqProofs [same_self, w1]
      refine rCut_ev (k := k1) e2 (by omega) (fun c1 c2 => ?_) (fun c3 => ?_)
      · have hz : A.drop (atomsN (L1.map (·.2)) + k1) = atomsOf (y.snd k1) ++ flat (L2.map (·.2)) := by
          rw [← a5y, (flat_pos (Nat.le_of_lt c2)).2, snd_atoms y k1 (Nat.le_of_lt c2)]
        have hpl : plain (y.snd k1).text = true := by
          have := e3
          rw [← List.take_append_drop k1 y.text, plain_append] at this
          simp at this; exact this.2
        have hq := hq1 _ (y.snd k1) _ hpos hz (e2.snd c1 c2) hpl
        simp only [RunV.cells] at hq
        simp -implicitDefEqProofs [same_self, RunV.cells]
        exact hq
      · simp -implicitDefEqProofs [same_self, zeroRun]
        refine rope_next a1.rp.tree a1.rp.nd hT ?_
        have hkl : k1 = y.text.length := by omega
        cases L2 with
        | nil =>
          simp -implicitDefEqProofs [same_self, headP]
          refine hq2 (fun k2 e => ?_)
          rw [hpos] at e
          injection e with e
          rw [← a5y, flatten_length, atomsN_mid, ← e]; simp [atomsN]; omega
        | cons p L3 =>
          obtain ⟨b, z⟩ := p
          obtain ⟨⟨u, l, r, ht, sz, all, hn2⟩, g1, g2, g3⟩ := at_row (L1 ++ [(a, y)]) b z L3 (by rw [hT]; simp)
          have hl : atomsN ((L1 ++ [(a, y)]).map (·.2)) = atomsN (L1.map (·.2)) + k1 := by rw [List.map_append, atomsN_append, hkl]; simp [atomsN]
          rw [hl] at g1
          have hq := hq1 _ z _ hpos g1 g2 g3
          simp only [RunV.cells] at hq
          simp -implicitDefEqProofs [same_self, headP]
          refine item_ev hn2 ?_
          simp -implicitDefEqProofs [same_self, RunV.cells]
          exact hq
    · have hnone : posA A ar an = none := by
        unfold posA; rw [if_neg c]
        have : atIx A ar an = none := by
          rw [← a5']
          refine atIx_none.2 (fun y hy hh => ?_)
          obtain ⟨p, hp, rfl⟩ := List.mem_map.1 hy
          exact hno p hp hh
        rw [this]; rfl
      simp -implicitDefEqProofs [same_self]
      exact hq2 (fun k e => by rw [hnone] at e; cases e)
end
end Go.Proofs.YthblmlkkmebciaaDoor
set_option linter.all false
set_option maxRecDepth 100000
set_option maxHeartbeats 4000000
namespace Go.Proofs.YthblmlkkmebciaaDoor
open Go Go.RowKit Go.Proofs
section
variable {ro : Nat → Option (List AVal)}
theorem stext_ev {h : AHeap} {s : Nat} {O : Nat → Prop} {A : List AtV} (S : StA h s O A) {Q : AVal → AHeap → Prop}
    (hq : ∀ h', Old h h' → Q (.str (shownA A)) h') : Ev (cfgR ro) 32 [.ptr s 0] h Q := by
  refine Ev.wp rfl rfl Tryd.func32 rfl ?_
  obtain ⟨m, t, ix, a1, a2, a3, a4, a5, a6, a7⟩ := S
  have hshA : shownA A = shownTx t.rs := by rw [← a5, shownA_flat]
  rw [hshA] at hq
  have hle := shown_le t.rs
  have hle2 : atomsN t.rs ≤ 65536 := a4
  have hbld : bldR h 134 (.agg [.nilp, .nils]) = .ok (.ptr h.next 0, h.push (.bld 134 none)) := by rfl
  simp -implicitDefEqProofs [Tryd.f32, hbld]
  obtain ⟨H1, hH1⟩ : ∃ H1, H1 = h.push (.bld 134 none) := ⟨_, rfl⟩
  obtain ⟨o, hoo⟩ : ∃ o, o = h.next := ⟨_, rfl⟩
  have bl : BL h H1 o [] := ⟨by rw [hH1]; exact (Old.refl h).push _, by omega, by rw [hH1, hoo]; simp, .inl ⟨rfl, by rw [hH1, hoo]; exact get_push_next _ _⟩⟩
  rw [← hH1, ← hoo]
  have b1 := (a1.old bl.1).1
  obtain ⟨s0, hr⟩ := b1.rp.root
  refine first_ev (z := ([], [m])) hr b1.rp.tree ?_
  rw [lm_head]
  simp -implicitDefEqProofs [same_self]
  obtain ⟨I, hI⟩ : ∃ I : Nat → List AVal → AHeap → Prop, I = fun n env h' => ∃ L1 L2, t.items = L1 ++ L2 ∧ n = L2.length ∧ BL h h' o (shownTx (L1.map (·.2))) ∧
    env = (.dead :: .dead :: .dead :: .ptr o 0 :: headP L2 :: .dead :: .dead :: .dead :: .dead :: .dead :: .dead :: .dead :: .dead :: .dead :: .dead :: .dead :: .dead :: .dead :: .dead :: .dead :: .dead :: .dead :: []) := ⟨_, rfl⟩
  refine loop_of I ?_ t.items.length (by rw [hI]; exact ⟨[], t.items, rfl, rfl, bl, rfl⟩)
  intro n env h' hi
  rw [hI] at hi
  obtain ⟨L1, L2, hT, rfl, hbl, rfl⟩ := hi
  have b2 := (a1.old hbl.1).1
  cases L2 with
  | nil =>
    have hall : shownTx (L1.map (·.2)) = shownTx t.rs := by unfold Rt.rs; rw [hT]; simp
    rw [hall] at hbl
    simp -implicitDefEqProofs [headP]
    refine bstr_ev hbl (by omega) (fun h2 o2 => ?_)
    simp -implicitDefEqProofs
    exact hq h2 o2
  | cons p L2 =>
    obtain ⟨a, y⟩ := p
    obtain ⟨u, l, r, ht, sz, all, hn⟩ := At.item (p := a) (x := y) b2.rp.tree (by rw [hT]; simp)
    have hsum : shownTx t.rs = shownTx (L1.map (·.2)) ++ (if y.shown then y.text else []) ++ shownTx (L2.map (·.2)) := by
      unfold Rt.rs; rw [hT]; simp [shownTx]
    have hsl := congrArg List.length hsum
    simp only [List.length_append] at hsl
    have hnext : ∀ (h3 : AHeap) (K : AVal → AHeap → Prop), Old h h3 → K (headP L2) h3 → Ev (cfgR ro) 70 [.ptr a 0] h3 K := fun h3 K o3 hK => rope_next (a1.old o3).1.rp.tree a1.rp.nd hT hK
    simp -implicitDefEqProofs [headP]
    refine item_ev hn ?_
    cases hs : y.shown with
    | true =>
      rw [hs] at hsl
      simp only [if_true] at hsl
      simp -implicitDefEqProofs [RunV.cells, hs]
      refine write_ev hbl (by omega) (fun h3 hb3 => ?_)
      simp -implicitDefEqProofs [RunV.cells, hs]
      refine hnext _ _ hb3.1 ?_
      simp -implicitDefEqProofs [RunV.cells, hs]
      refine .mk (m := L2.length) (by simp) (by rw [hI]; refine ⟨L1 ++ [(a, y)], L2, by rw [hT]; simp, rfl, ?_, rfl⟩; have : shownTx ((L1 ++ [(a, y)]).map (·.2)) = shownTx (L1.map (·.2)) ++ y.text := by simp [shownTx, hs]
                                                rw [this]; exact hb3)
    | false =>
      simp -implicitDefEqProofs [RunV.cells, hs]
      refine hnext _ _ hbl.1 ?_
      simp -implicitDefEqProofs [RunV.cells, hs]
      refine .mk (m := L2.length) (by simp) (by rw [hI]; refine ⟨L1 ++ [(a, y)], L2, by rw [hT]; simp, rfl, ?_, rfl⟩; have : shownTx ((L1 ++ [(a, y)]).map (·.2)) = shownTx (L1.map (·.2)) := by simp [shownTx, hs]
                                                rw [this]; exact hbl)
theorem satoms_ev {h : AHeap} {s : Nat} {O : Nat → Prop} {A : List AtV} (S : StA h s O A) {Q : AVal → AHeap → Prop}
    (hq : ∀ v h', Old h h' → Mine h h' 7 (A.map AtV.cells) v → Q v h') : Ev (cfgR ro) 52 [.ptr s 0] h Q := by
  refine Ev.wp rfl rfl Tryd.func52 rfl ?_
  obtain ⟨m, t, ix, a1, a2, a3, a4, a5, a6, a7⟩ := S
  have a5' : flat (t.items.map (·.2)) = A := a5
  have hlen : A.length ≤ 65536 := by rw [← a5, flatten_length]; exact a4
  simp -implicitDefEqProofs [Tryd.f52]
  obtain ⟨s0, hr⟩ := a1.rp.root
  refine first_ev (z := ([], [m])) hr a1.rp.tree ?_
  rw [lm_head]
  simp -implicitDefEqProofs [same_self]
  obtain ⟨I, hI⟩ : ∃ I : Nat → List AVal → AHeap → Prop, I = fun n env h' => ∃ L1 L2 v, t.items = L1 ++ L2 ∧ n = L2.length ∧ Old h h' ∧ Mine h h' 7 ((flat (L1.map (·.2))).map AtV.cells) v ∧
    env = (.dead :: .dead :: .dead :: v :: headP L2 :: .dead :: .dead :: .dead :: .dead :: .dead :: .dead :: .dead :: .dead :: .dead :: .dead :: .dead :: .dead :: .dead :: .dead :: .dead :: .dead :: .dead :: .dead :: .dead :: .dead :: .dead :: .dead :: .dead :: .dead :: .dead :: []) := ⟨_, rfl⟩
  refine loop_of I ?_ t.items.length (by rw [hI]; exact ⟨[], t.items, .nils, rfl, rfl, Old.refl h, Mine.nil _ _ _, rfl⟩)
  intro n env h' hi
  rw [hI] at hi
  obtain ⟨L1, L2, v, hT, rfl, ho, hm, rfl⟩ := hi
  have b2 := (a1.old ho).1
  cases L2 with
  | nil =>
    have hall : flat (L1.map (·.2)) = A := by rw [← a5', hT]; simp
    rw [hall] at hm
    simp -implicitDefEqProofs [headP]
    exact hq v h' ho hm
  | cons p L2 =>
    obtain ⟨a, y⟩ := p
    obtain ⟨u, l, r, ht, sz, all, hn⟩ := At.item (p := a) (x := y) b2.rp.tree (by rw [hT]; simp)
    have hy := a2.ok (a, y) (by rw [hT]; simp)
    simp only [] at hy
    have hyl := hy.len
    have htot : A.length = atomsN (L1.map (·.2)) + y.text.length + atomsN (L2.map (·.2)) := by rw [← a5', flatten_length, hT, atomsN_mid]
    have hL1 := flatten_length (L1.map (·.2))
    simp -implicitDefEqProofs [headP]
    refine item_ev hn ?_
    simp -implicitDefEqProofs [RunV.cells]
    refine rlen_ev (x := y) ?_
    simp -implicitDefEqProofs [RunV.cells]
    obtain ⟨J, hJ⟩ : ∃ J : Nat → List AVal → AHeap → Prop, J = fun n env h' => ∃ (i : Nat) (v : AVal), i + n = y.text.length ∧ Old h h' ∧ Mine h h' 7 ((flat (L1.map (·.2)) ++ (atomsOf y).take i).map AtV.cells) v ∧
      env = (.dead :: .dead :: .dead :: v :: .ptr a 0 :: .cell y.cells :: .dead :: .dead :: .dead :: .dead :: .dead :: .dead :: .dead :: .dead :: .dead :: .dead :: .dead :: .dead :: .int .i64 (y.text.length : Nat) :: .int .i64 (i : Nat) :: .dead :: .dead :: .dead :: .dead :: .dead :: .dead :: .dead :: .dead :: .dead :: .dead :: []) := ⟨_, rfl⟩
    refine loop_of J ?_ y.text.length (by rw [hJ]; exact ⟨0, v, by omega, ho, by simpa using hm, rfl⟩)
    intro n env h2 hj
    rw [hJ] at hj
    obtain ⟨i, v2, hin, ho2, hm2, rfl⟩ := hj
    by_cases hlt : i < y.text.length
    · have hb := List.getElem?_eq_getElem hlt
      have w1 : IntKind.i64.wrap ((i : Int) + 1) = ((i + 1 : Nat) : Int) := by rw [w64 (by omega) (by omega)]; omega
      simp -implicitDefEqProofs [hlt, RunV.cells]
      refine atom_ev (x := y) hy hb ?_
      have hle : ((flat (L1.map (·.2)) ++ (atomsOf y).take i).map AtV.cells).length = atomsN (L1.map (·.2)) + i := by
        rw [List.length_map, List.length_append, hL1, List.length_take, atomsOf_len]; omega
      obtain ⟨v3, h3, k1, k2, k3⟩ := Mine.append1 (bytes := 32) (e := (y.atom i y.text[i]).cells) (hm2.keep ((Old.refl h2).push (.row 7 false (y.atom i y.text[i]).cells))) (by decide) rfl (by rw [hle]; omega) (ho2.push (.row 7 false (y.atom i y.text[i]).cells))
      have k1' := k1
      simp only [AtV.cells] at k1'
      simp -implicitDefEqProofs [hlt, RunV.cells, AtV.cells, buildSliceR, reps, k1', w1]
      refine .mk (m := n - 1) (by omega) (by
        rw [hJ]
        refine ⟨i + 1, v3, by omega, k3, ?_, rfl⟩
        have : (atomsOf y).take (i + 1) = (atomsOf y).take i ++ [y.atom i y.text[i]] := by
          have hg : (atomsOf y)[i]? = some (y.atom i y.text[i]) := by rw [atomsOf_get, hb]; rfl
          obtain ⟨l1, l2⟩ := List.getElem?_eq_some_iff.1 hg
          rw [List.take_succ_eq_append_getElem l1, l2]
        rw [this, ← List.append_assoc, List.map_append]
        exact k2)
    · have hii : i = y.text.length := by omega
      subst hii
      rw [List.take_of_length_le (by rw [atomsOf_len]; exact Nat.le_refl _)] at hm2
      simp -implicitDefEqProofs [hlt]
      refine rope_next (a1.old ho2).1.rp.tree a1.rp.nd hT ?_
      simp -implicitDefEqProofs
      refine .mk (m := L2.length) (by simp) (by rw [hI]; exact ⟨L1 ++ [(a, y)], L2, v2, by rw [hT]; simp, rfl, ho2, by simpa [flat_append] using hm2, rfl⟩)
end
end Go.Proofs.YthblmlkkmebciaaDoor
set_option linter.all false
set_option maxRecDepth 100000
set_option maxHeartbeats 4000000
namespace Go.Proofs.YthblmlkkmebciaaDoor
open Go Go.RowKit Go.Proofs
/-! the document's functions -/
def ixI : Option Nat → Int
  | some i => i
  | none => -1
theorem elpo_off {c : Cfg} {h : AHeap} {sz : Nat} {v : AVal} {es : List (List AVal)} (s : Sl c h sz v es) {i d e : Nat} (hi : i < es.length) : addOff (elpo v sz i d) e = .ok (elpo v sz i (d + e)) := by
  obtain ⟨vs, f, h1, _⟩ := s.row (by intro h; subst h; simp at hi)
  cases v <;> simp only [rowOf] at h1 <;> first | (cases h1; done) | (simp only [elpo, addOff, Nat.add_assoc])
theorem atIx_some {A : List AtV} {r n i : Nat} {a : AtV} (ha : A[i]? = some a) (h1 : a.r = r ∧ a.n = n) (h2 : ∀ j b, j < i → A[j]? = some b → ¬ (b.r = r ∧ b.n = n)) : atIx A r n = some i := by
  unfold atIx
  rw [List.findIdx?_eq_some_iff_getElem]
  obtain ⟨l, e⟩ := List.getElem?_eq_some_iff.1 ha
  refine ⟨l, by rw [e]; exact decide_eq_true h1, fun j hj => ?_⟩
  have := h2 j A[j] hj (List.getElem?_eq_getElem (by omega))
  simpa using this
theorem atIx_no {A : List AtV} {r n : Nat} (h : ∀ (j : Nat) (b : AtV), A[j]? = some b → ¬ (b.r = r ∧ b.n = n)) : atIx A r n = none := by
  unfold atIx
  rw [List.findIdx?_eq_none_iff]
  intro a ha
  obtain ⟨j, hj⟩ := List.mem_iff_getElem?.1 ha
  simpa using h j a hj
section
variable {ro : Nat → Option (List AVal)}
/-- a row of atoms, read -/
structure El (h : AHeap) (v : AVal) (i : Nat) (a : AtV) : Prop where
  x : indexAddrR Tryd.prog 32 v (.int .i64 (i : Nat)) = .ok (elp v 7 i)
  o : ∀ d, addOff (elp v 7 i) d = .ok (elpo v 7 i d)
  p : ∀ d e, addOff (elpo v 7 i d) e = .ok (elpo v 7 i (d + e))
  l0 : loadR (cfgR ro) h 26 (elpo v 7 i 0) = .ok (.int .u64 a.clock)
  l1 : loadR (cfgR ro) h 33 (elpo v 7 i 1) = .ok (.int .u16 a.r)
  l2 : loadR (cfgR ro) h 34 (elpo v 7 i 2) = .ok (.int .u32 a.n)
  l3 : loadR (cfgR ro) h 33 (elpo v 7 i 3) = .ok (.int .u16 a.er)
  l4 : loadR (cfgR ro) h 34 (elpo v 7 i 4) = .ok (.int .u32 a.en)
  l5 : loadR (cfgR ro) h 5 (elpo v 7 i 5) = .ok (.int .u8 a.b.toNat)
  l6 : loadR (cfgR ro) h 4 (elpo v 7 i 6) = .ok (.bool a.shown)
  l : loadR (cfgR ro) h 71 (elp v 7 i) = .ok (.agg [.int .u64 a.clock, .int .u16 a.r, .int .u32 a.n, .int .u16 a.er, .int .u32 a.en, .int .u8 a.b.toNat, .bool a.shown])
theorem El.of {h : AHeap} {v : AVal} {A : List AtV} (hs : Sl (cfgR ro) h 7 v (A.map AtV.cells)) {i : Nat} {a : AtV} (ha : A[i]? = some a) : El (ro := ro) h v i a := by
  have hi : i < (A.map AtV.cells).length := by have := (List.getElem?_eq_some_iff.1 ha).1; simpa using this
  have he : (A.map AtV.cells)[i]? = some a.cells := by rw [List.getElem?_map, ha]; rfl
  exact ⟨hs.idx un32 sz71 hi, fun d => elp_off hs hi, fun d e => elpo_off hs hi, hs.loadF he (by rfl) ag26, hs.loadF he (by rfl) ag33, hs.loadF he (by rfl) ag34, hs.loadF he (by rfl) ag33, hs.loadF he (by rfl) ag34, hs.loadF he (by rfl) ag5, hs.loadF he (by rfl) ag4, hs.load he ag71 sz71⟩
theorem At_ev {h : AHeap} {v : AVal} {A : List AtV} {r n : Nat} (hs : Sl (cfgR ro) h 7 v (A.map AtV.cells)) (hl : A.length < 2 ^ 60) {Q : AVal → AHeap → Prop} (hq : Q (.int .i64 (ixI (atIx A r n))) h) : Ev (cfgR ro) 34 [v, idA r n] h Q := by
  refine Ev.wp rfl rfl Tryd.func34 rfl ?_
  have hL : lenR (cfgR ro) h 32 v = .ok (.int .i64 (A.length : Nat)) := by have := hs.lenR (t := 32) un32; simpa using this
  simp -implicitDefEqProofs [Tryd.f34, idA]
  obtain ⟨I, hI⟩ : ∃ I : Nat → List AVal → AHeap → Prop, I = fun m env h' => h' = h ∧ ∃ i : Nat, i + m = A.length ∧ (∀ (j : Nat) (b : AtV), j < i → A[j]? = some b → ¬ (b.r = r ∧ b.n = n)) ∧
    env = (v :: .dead :: .dead :: .cell [.int .u16 r, .int .u32 n] :: .dead :: .int .i64 (i : Nat) :: .dead :: .dead :: .dead :: .dead :: .dead :: .dead :: .dead :: .dead :: .dead :: .dead :: .dead :: .dead :: .dead :: .dead :: .dead :: .dead :: .dead :: .dead :: .dead :: .dead :: .dead :: .dead :: .dead :: .dead :: .dead :: .dead :: .dead :: []) := ⟨_, rfl⟩
  refine loop_of I ?_ A.length (by rw [hI]; exact ⟨rfl, 0, by omega, fun j b hj => by omega, rfl⟩)
  intro m env h' hi
  rw [hI] at hi
  obtain ⟨rfl, i, him, hno, rfl⟩ := hi
  by_cases hlt : i < A.length
  · obtain ⟨a, ha⟩ : ∃ a, A[i]? = some a := ⟨_, List.getElem?_eq_getElem hlt⟩
    have E := El.of hs ha
    have d1 : decide ((i : Int) < (A.length : Int)) = true := decide_eq_true (by omega)
    have w1 : IntKind.i64.wrap ((i : Int) + 1) = ((i + 1 : Nat) : Int) := by rw [w64 (by omega) (by omega)]; omega
    have no : ¬ (a.r = r ∧ a.n = n) → headK I m (v :: .dead :: .dead :: .cell [.int .u16 r, .int .u32 n] :: .dead :: .int .i64 (i + 1 : Nat) :: .dead :: .dead :: .dead :: .dead :: .dead :: .dead :: .dead :: .dead :: .dead :: .dead :: .dead :: .dead :: .dead :: .dead :: .dead :: .dead :: .dead :: .dead :: .dead :: .dead :: .dead :: .dead :: .dead :: .dead :: .dead :: .dead :: .dead :: []) h' := fun hne =>
      .mk (m := m - 1) (by omega) (by rw [hI]; exact ⟨rfl, i + 1, by omega, fun j b hj hb => by
        by_cases e : j = i
        · subst e; rw [ha] at hb; cases hb; exact hne
        · exact hno j b (by omega) hb, rfl⟩)
    by_cases c1 : a.r = r
    · by_cases c2 : a.n = n
      · rw [atIx_some ha ⟨c1, c2⟩ hno] at hq
        simp only [ixI] at hq
        simp -implicitDefEqProofs [hL, hlt, E.x, E.o, E.p, E.l1, E.l2, same_self, c1, c2]
        exact hq
      · have d2 : ¬ ((a.n : Int) = (n : Int)) := by omega
        simp -implicitDefEqProofs [hL, hlt, E.x, E.o, E.p, E.l1, E.l2, same_self, c1, c2, d2, w1]
        exact no (fun h => c2 h.2)
    · have d2 : ¬ ((a.r : Int) = (r : Int)) := by omega
      simp -implicitDefEqProofs [hL, hlt, E.x, E.o, E.p, E.l1, E.l2, same_self, c1, d2, w1]
      exact no (fun h => c1 h.1)
  · have hall : atIx A r n = none := atIx_no (fun j b hb => hno j b (by have := (List.getElem?_eq_some_iff.1 hb).1; omega) hb)
    rw [hall] at hq
    simp only [ixI] at hq
    simp -implicitDefEqProofs [hL, hlt]
    exact hq
end
end Go.Proofs.YthblmlkkmebciaaDoor
set_option linter.all false
set_option maxRecDepth 100000
set_option maxHeartbeats 4000000
namespace Go.Proofs.YthblmlkkmebciaaDoor
open Go Go.RowKit Go.Proofs
theorem shownA_succ {A : List AtV} {i : Nat} {a : AtV} (ha : A[i]? = some a) : shownA (A.take (i + 1)) = shownA (A.take i) ++ (if a.shown then [a.b] else []) := by
  obtain ⟨l, e⟩ := List.getElem?_eq_some_iff.1 ha
  rw [List.take_succ_eq_append_getElem l, shownA_append, e]
  cases h : a.shown <;> simp [shownA, h]
theorem shownA_le (A : List AtV) : (shownA A).length ≤ A.length := by
  unfold shownA; rw [List.length_map]; exact List.length_filter_le _ _
section
variable {ro : Nat → Option (List AVal)}
theorem byteStr {h : AHeap} (b : UInt8) : convR (cfgR ro) (h.push (.row 1 false [.int .u8 b.toNat])) 132 9 (.sl h.next 0 1) = .ok (.str [b]) := by
  have bm : BM h (h.push (.row 1 false [.int .u8 b.toNat])) (.sl h.next 0 1) [b] := ⟨bes_one [b], .inr ⟨h.next, false, by rw [bes_len]; rfl, Nat.le_refl _, by simp, by rw [get_push_next, bes_flat]; rfl⟩⟩
  exact bm.toBS.conv un132 un9 un5
theorem Shown_ev {h : AHeap} {v : AVal} {A : List AtV} (hs : Sl (cfgR ro) h 7 v (A.map AtV.cells)) (hl : A.length < 2 ^ 60) {Q : AVal → AHeap → Prop} (hq : ∀ h', Old h h' → Q (.str (shownA A)) h') : Ev (cfgR ro) 38 [v] h Q := by
  refine Ev.wp rfl rfl Tryd.func38 rfl ?_
  have hL : ∀ h', Old h h' → lenR (cfgR ro) h' 32 v = .ok (.int .i64 (A.length : Nat)) := fun h' o => by have := (hs.old o).lenR (t := 32) un32; simpa using this
  simp -implicitDefEqProofs [Tryd.f38]
  obtain ⟨I, hI⟩ : ∃ I : Nat → List AVal → AHeap → Prop, I = fun m env h' => Old h h' ∧ ∃ i : Nat, i + m = A.length ∧
    env = (v :: .dead :: .dead :: .str (shownA (A.take i)) :: .int .i64 (i : Nat) :: .dead :: .dead :: .dead :: .dead :: .dead :: .dead :: .dead :: .dead :: .dead :: .dead :: .dead :: .dead :: .dead :: .dead :: .dead :: .dead :: .dead :: .dead :: .dead :: .dead :: .dead :: []) := ⟨_, rfl⟩
  refine loop_of I ?_ A.length (by rw [hI]; exact ⟨Old.refl h, 0, by omega, rfl⟩)
  intro m env h' hi
  rw [hI] at hi
  obtain ⟨ho, i, him, rfl⟩ := hi
  by_cases hlt : i < A.length
  · obtain ⟨a, ha⟩ : ∃ a, A[i]? = some a := ⟨_, List.getElem?_eq_getElem hlt⟩
    have E := El.of (hs.old ho) ha
    have w1 : IntKind.i64.wrap ((i : Int) + 1) = ((i + 1 : Nat) : Int) := by rw [w64 (by omega) (by omega)]; omega
    have hsc := shownA_succ ha
    have hle := shownA_le (A.take i)
    have htl : (A.take i).length ≤ i := List.length_take_le _ _
    cases hsh : a.shown with
    | true =>
      rw [hsh, if_pos rfl] at hsc
      have ho2 : Old h (h'.push (.row 1 false [.int .u8 a.b.toNat])) := ho.push _
      have hlen : ¬ (9223372036854775807 : Int) < ((shownA (A.take i)).length : Int) + 1 := by omega
      have hlen2 : ¬ 9223372036854775807 < (shownA (A.take i)).length + 1 := by omega
      have cv := byteStr (ro := ro) (h := h') a.b
      simp -implicitDefEqProofs [-convR, hL h' ho, hlt, E.x, E.o, E.p, E.l5, E.l6, hsh, same_self, buildSliceR, reps, cv, w1, hlen, hlen2]
      first | exact .mk (m := m - 1) (by omega) (by rw [hI]; exact ⟨ho2, i + 1, by omega, by rw [hsc]; simp⟩) | (refine ⟨by omega, ?_⟩; exact .mk (m := m - 1) (by omega) (by rw [hI]; exact ⟨ho2, i + 1, by omega, by rw [hsc]; simp⟩))
    | false =>
      rw [hsh] at hsc
      simp only [Bool.false_eq_true, if_false, List.append_nil] at hsc
      simp -implicitDefEqProofs [hL h' ho, hlt, E.x, E.o, E.p, E.l5, E.l6, hsh, same_self, w1]
      exact .mk (m := m - 1) (by omega) (by rw [hI]; exact ⟨ho, i + 1, by omega, by rw [hsc]; simp⟩)
  · have : A.take i = A := List.take_of_length_le (by omega)
    rw [this]
    simp -implicitDefEqProofs [hL h' ho, hlt]
    exact hq h' ho
theorem Place_ev {h : AHeap} {v : AVal} {A : List AtV} {k : Int} (hs : Sl (cfgR ro) h 7 v (A.map AtV.cells)) (hl : A.length < 2 ^ 60) (hk : -9223372036854775808 ≤ k ∧ k < 9223372036854775808) {Q : AVal → AHeap → Prop}
    (hq1 : ∀ i a, A[i]? = some a → a.shown = true → ((shownA (A.take i)).length : Int) = k → Q (.int .i64 (i : Nat)) h) (hq2 : (k < 0 ∨ ((shownA A).length : Int) ≤ k) → Q (.int .i64 (-1)) h) : Ev (cfgR ro) 39 [v, .int .i64 k] h Q := by
  refine Ev.wp rfl rfl Tryd.func39 rfl ?_
  have hL : lenR (cfgR ro) h 32 v = .ok (.int .i64 (A.length : Nat)) := by have := hs.lenR (t := 32) un32; simpa using this
  simp -implicitDefEqProofs [Tryd.f39]
  obtain ⟨I, hI⟩ : ∃ I : Nat → List AVal → AHeap → Prop, I = fun m env h' => h' = h ∧ ∃ i : Nat, i + m = A.length ∧ (k < 0 ∨ ((shownA (A.take i)).length : Int) ≤ k) ∧
    env = (v :: .int .i64 (IntKind.i64.wrap (k - ((shownA (A.take i)).length : Nat))) :: .dead :: .dead :: .dead :: .int .i64 (i : Nat) :: .dead :: .dead :: .dead :: .dead :: .dead :: .dead :: .dead :: .dead :: .dead :: .dead :: .dead :: .dead :: .dead :: .dead :: .dead :: .dead :: []) := ⟨_, rfl⟩
  refine loop_of I ?_ A.length (by rw [hI]; exact ⟨rfl, 0, by omega, by simp [shownA]; omega, by simp [shownA]; rw [w64 hk.1 hk.2]⟩)
  intro m env h' hi
  rw [hI] at hi
  obtain ⟨rfl, i, him, hinv, rfl⟩ := hi
  obtain ⟨cnt, hcnt⟩ : ∃ cnt, cnt = (shownA (A.take i)).length := ⟨_, rfl⟩
  have hle := shownA_le (A.take i)
  have htl : (A.take i).length ≤ i := List.length_take_le _ _
  rw [← hcnt] at hinv hle ⊢
  by_cases hlt : i < A.length
  · obtain ⟨a, ha⟩ : ∃ a, A[i]? = some a := ⟨_, List.getElem?_eq_getElem hlt⟩
    have E := El.of hs ha
    have w1 : IntKind.i64.wrap ((i : Int) + 1) = ((i + 1 : Nat) : Int) := by rw [w64 (by omega) (by omega)]; omega
    have hsc := congrArg List.length (shownA_succ ha)
    rw [List.length_append, ← hcnt] at hsc
    obtain ⟨kk, hkk⟩ : ∃ kk, kk = IntKind.i64.wrap (k - (cnt : Nat)) := ⟨_, rfl⟩
    rw [← hkk]
    cases hsh : a.shown with
    | true =>
      rw [hsh] at hsc
      have hsc : (shownA (A.take (i + 1))).length = cnt + 1 := by simpa using hsc
      have w2 : IntKind.i64.wrap (kk - 1) = IntKind.i64.wrap (k - ((cnt + 1 : Nat) : Int)) := by
        rw [hkk, IntKind.wrap_i64, IntKind.wrap_i64, IntKind.wrap_i64]; omega
      by_cases c : kk = 0
      · have hkc : (cnt : Int) = k := by rw [hkk, IntKind.wrap_i64] at c; omega
        simp -implicitDefEqProofs [hL, hlt, E.x, E.o, E.p, E.l6, hsh, same_self, c]
        exact hq1 i a ha hsh (by rw [← hcnt]; exact hkc)
      · have hkc : ¬ (cnt : Int) = k := fun e => c (by rw [hkk, ← e, Int.sub_self]; decide)
        simp -implicitDefEqProofs [hL, hlt, E.x, E.o, E.p, E.l6, hsh, same_self, c, w1, w2]
        exact .mk (m := m - 1) (by omega) (by rw [hI]; exact ⟨rfl, i + 1, by omega, by rw [hsc]; omega, by rw [hsc]; simp⟩)
    | false =>
      rw [hsh] at hsc
      have hsc : (shownA (A.take (i + 1))).length = cnt := by simpa using hsc
      simp -implicitDefEqProofs [hL, hlt, E.x, E.o, E.p, E.l6, hsh, same_self, w1]
      exact .mk (m := m - 1) (by omega) (by rw [hI]; exact ⟨rfl, i + 1, by omega, by rw [hsc]; exact hinv, by rw [hsc, ← hkk]; simp⟩)
  · have : A.take i = A := List.take_of_length_le (by omega)
    rw [this] at hcnt
    simp -implicitDefEqProofs [hL, hlt]
    exact hq2 (by rw [← hcnt]; exact hinv)
theorem follows_ev {h : AHeap} {a b : AtV} (h1 : a.n < 2 ^ 29) (h2 : a.en < 2 ^ 29) {Q : AVal → AHeap → Prop} (hq : Q (.bool (decide (a.fol b))) h) : Ev (cfgR ro) 51 [.agg a.cells, .agg b.cells] h Q := by
  refine Ev.wp rfl rfl Tryd.func51 rfl ?_
  obtain ⟨c, r, n, er, en, bb, sh⟩ := a
  obtain ⟨c', r', n', er', en', bb', sh'⟩ := b
  simp only at h1 h2
  have w1 : IntKind.u32.wrap ((n : Int) + 1) = ((n + 1 : Nat) : Int) := by rw [wrap32, Int.emod_eq_of_lt (by omega) (by omega)]; omega
  have w2 : IntKind.u32.wrap ((en : Int) + 1) = ((en + 1 : Nat) : Int) := by rw [wrap32, Int.emod_eq_of_lt (by omega) (by omega)]; omega
  have fin : ∀ x : Bool, (x = true ↔ (c = c' ∧ r = r' ∧ n + 1 = n' ∧ er = er' ∧ en + 1 = en' ∧ sh = sh')) → Q (.bool x) h := by
    intro x hx
    have : decide (AtV.fol ⟨c, r, n, er, en, bb, sh⟩ ⟨c', r', n', er', en', bb', sh'⟩) = x := by
      unfold AtV.fol
      cases x with
      | true => exact decide_eq_true (hx.1 rfl)
      | false => exact decide_eq_false (fun hh => by have := hx.2 hh; cases this)
    rw [this] at hq; exact hq
  obtain ⟨m1, hm1⟩ : ∃ m1, m1 = n + 1 := ⟨_, rfl⟩
  obtain ⟨m2, hm2⟩ : ∃ m2, m2 = en + 1 := ⟨_, rfl⟩
  rw [← hm1] at w1 fin
  rw [← hm2] at w2 fin
  have bad : ¬ (c = c' ∧ r = r' ∧ m1 = n' ∧ er = er' ∧ m2 = en' ∧ sh = sh') → Q (.bool false) h := fun hn => fin false ⟨fun e => (nomatch e), fun e => (hn e).elim⟩
  have eb : eqFlat Tryd.prog h .bool (.bool sh) (.bool sh') = .ok (sh == sh') := by rfl
  by_cases c1 : c = c'
  · by_cases c2 : r = r'
    · by_cases c3 : m1 = n'
      · by_cases c4 : er = er'
        · by_cases c5 : m2 = en'
          · simp -implicitDefEqProofs [Tryd.f51, AtV.cells, c1, c2, c3, c4, c5, w1, w2, eb]
            exact fin (sh == sh') (by simp [c1, c2, c3, c4, c5])
          · have d : ¬ ((m2 : Int) = (en' : Int)) := by omega
            simp -implicitDefEqProofs [Tryd.f51, AtV.cells, c1, c2, c3, c4, c5, w1, w2, d]
            exact bad (fun hh => c5 hh.2.2.2.2.1)
        · have d : ¬ ((er : Int) = (er' : Int)) := by omega
          simp -implicitDefEqProofs [Tryd.f51, AtV.cells, c1, c2, c3, c4, w1, w2, d]
          exact bad (fun hh => c4 hh.2.2.2.1)
      · have d : ¬ ((m1 : Int) = (n' : Int)) := by omega
        simp -implicitDefEqProofs [Tryd.f51, AtV.cells, c1, c2, c3, w1, w2, d]
        exact bad (fun hh => c3 hh.2.2.1)
    · have d : ¬ ((r : Int) = (r' : Int)) := by omega
      simp -implicitDefEqProofs [Tryd.f51, AtV.cells, c1, c2, w1, w2, d]
      exact bad (fun hh => c2 hh.2.1)
  · have d : ¬ ((c : Int) = (c' : Int)) := by omega
    simp -implicitDefEqProofs [Tryd.f51, AtV.cells, c1, w1, w2, d]
    exact bad (fun hh => c1 hh.1)
end
end Go.Proofs.YthblmlkkmebciaaDoor
set_option linter.all false
set_option maxRecDepth 100000
set_option maxHeartbeats 4000000
namespace Go.Proofs.YthblmlkkmebciaaDoor
open Go Go.RowKit Go.Proofs
theorem needP_snoc : ∀ (l : List AtV) (o : Option AtV) (b : AtV), needP o (l ++ [b]) = needP o l + (match l.getLast?.or o with
    | none => 1
    | some a => if a.fol b then 0 else 1)
  | [], o, b => by cases o <;> simp [needP]
  | a :: l, o, b => by
    have ih := needP_snoc l (some a) b
    have e : (a :: l).getLast?.or o = l.getLast?.or (some a) := by
      cases l with
      | nil => rfl
      | cons c l => simp [List.getLast?_cons_cons]; cases h : (c :: l).getLast? <;> simp at h ⊢
    rw [e]
    cases o <;> simp only [List.cons_append, needP] <;> rw [ih] <;> omega
theorem need_succ {A : List AtV} {i : Nat} {b : AtV} (hb : A[i]? = some b) : need (A.take (i + 1)) = need (A.take i) + (if i = 0 then 1 else match A[i - 1]? with
    | none => 1
    | some a => if a.fol b then 0 else 1) := by
  obtain ⟨l, e⟩ := List.getElem?_eq_some_iff.1 hb
  unfold need
  rw [List.take_succ_eq_append_getElem l, e, needP_snoc]
  congr 1
  by_cases h0 : i = 0
  · subst h0; rfl
  · have h1 : (A.take i).getLast? = A[i - 1]? := by
      rw [List.getLast?_eq_getElem?, List.length_take, Nat.min_eq_left (by omega), List.getElem?_take, if_pos (by omega)]
    rw [if_neg h0, h1]
    cases A[i - 1]? <;> rfl
theorem cells_inj {a b : AtV} (h : a.cells = b.cells) : a = b := by
  obtain ⟨c, r, n, er, en, bb, sh⟩ := a
  obtain ⟨c', r', n', er', en', bb', sh'⟩ := b
  simp only [AtV.cells, List.cons.injEq, AVal.int.injEq, AVal.bool.injEq, true_and, and_true, Int.natCast_inj] at h
  obtain ⟨h1, h2, h3, h4, h5, h6, h7⟩ := h
  have := UInt8.toNat_inj.1 h6
  subst h1 h2 h3 h4 h5 this h7; rfl
theorem AtV.ext_iff' (a b : AtV) : (a.clock = b.clock ∧ a.r = b.r ∧ a.n = b.n ∧ a.er = b.er ∧ a.en = b.en ∧ a.b.toNat = b.b.toNat ∧ a.shown = b.shown) ↔ a = b := by
  constructor
  · intro h
    apply cells_inj
    obtain ⟨h1, h2, h3, h4, h5, h6, h7⟩ := h
    unfold AtV.cells
    rw [h1, h2, h3, h4, h5, h6, h7]
  · rintro rfl; exact ⟨rfl, rfl, rfl, rfl, rfl, rfl, rfl⟩
instance : DecidableEq AtV := fun a b => decidable_of_iff _ (AtV.ext_iff' a b)
section
variable {ro : Nat → Option (List AVal)}
theorem Runs_ev {h : AHeap} {v : AVal} {A : List AtV} (hs : Sl (cfgR ro) h 7 v (A.map AtV.cells)) (hl : A.length < 2 ^ 60) (hb : ∀ a ∈ A, a.n < 2 ^ 29 ∧ a.en < 2 ^ 29) {Q : AVal → AHeap → Prop} (hq : Q (.int .i64 (need A : Nat)) h) : Ev (cfgR ro) 14 [v] h Q := by
  refine Ev.wp rfl rfl Tryd.func14 rfl ?_
  have hL : lenR (cfgR ro) h 32 v = .ok (.int .i64 (A.length : Nat)) := by have := hs.lenR (t := 32) un32; simpa using this
  have nle : ∀ (l : List AtV) (o : Option AtV), needP o l ≤ l.length := by
    intro l
    induction l with
    | nil => intro o; cases o <;> simp [needP]
    | cons a l ih => intro o; have := ih (some a); cases o <;> simp only [needP, List.length_cons] <;> first | omega | (split <;> omega)
  simp -implicitDefEqProofs [Tryd.f14]
  obtain ⟨I, hI⟩ : ∃ I : Nat → List AVal → AHeap → Prop, I = fun m env h' => h' = h ∧ ∃ i : Nat, i + m = A.length ∧
    env = (v :: .dead :: .dead :: .int .i64 (need (A.take i) : Nat) :: .int .i64 (i : Nat) :: .dead :: .dead :: .dead :: .dead :: .dead :: .dead :: .dead :: .dead :: .dead :: .dead :: .dead :: .dead :: .dead :: .dead :: .dead :: .dead :: .dead :: .dead :: .dead :: .dead :: .dead :: .dead :: .dead :: .dead :: []) := ⟨_, rfl⟩
  refine loop_of I ?_ A.length (by rw [hI]; exact ⟨rfl, 0, by omega, rfl⟩)
  intro m env h' hi
  rw [hI] at hi
  obtain ⟨rfl, i, him, rfl⟩ := hi
  have hn1 : need (A.take i) ≤ i := Nat.le_trans (nle _ _) (List.length_take_le _ _)
  obtain ⟨nd, hnd⟩ : ∃ nd, nd = need (A.take i) := ⟨_, rfl⟩
  rw [← hnd] at hn1 ⊢
  by_cases hlt : i < A.length
  · obtain ⟨a, ha⟩ : ∃ a, A[i]? = some a := ⟨_, List.getElem?_eq_getElem hlt⟩
    have E := El.of hs ha
    have w1 : IntKind.i64.wrap ((i : Int) + 1) = ((i + 1 : Nat) : Int) := by rw [w64 (by omega) (by omega)]; omega
    have w2 : IntKind.i64.wrap ((nd : Int) + 1) = ((nd + 1 : Nat) : Int) := by rw [w64 (by omega) (by omega)]; omega
    have hsc := need_succ ha
    rw [← hnd] at hsc
    by_cases h0 : i = 0
    · rw [if_pos h0] at hsc
      have d0 : decide (i = 0) = true := decide_eq_true (by omega)
      simp -implicitDefEqProofs [hL, hlt, d0, same_self, w1, w2]
      exact .mk (m := m - 1) (by omega) (by rw [hI]; exact ⟨rfl, i + 1, by omega, by rw [hsc]; simp⟩)
    · have d0 : decide ((i : Int) = 0) = false := decide_eq_false (by omega)
      obtain ⟨p, hp⟩ : ∃ p, A[i - 1]? = some p := ⟨_, List.getElem?_eq_getElem (by omega)⟩
      have E2 := El.of hs hp
      have w3 : IntKind.i64.wrap ((i : Int) - 1) = ((i - 1 : Nat) : Int) := by rw [w64 (by omega) (by omega)]; omega
      rw [if_neg h0, hp] at hsc
      have hpb := hb p (List.mem_of_getElem? hp)
      simp -implicitDefEqProofs [hL, hlt, d0, h0, same_self, w1, w2, w3, E.x, E2.x, E.l, E2.l]
      refine follows_ev (a := p) (b := a) hpb.1 hpb.2 ?_
      by_cases c : p.fol a
      · rw [decide_eq_true c]
        simp only [c, if_true, Nat.add_zero] at hsc
        simp -implicitDefEqProofs [hL, hlt, d0, h0, same_self, w1, w2, w3, E.x, E2.x, E.l, E2.l]
        exact .mk (m := m - 1) (by omega) (by rw [hI]; exact ⟨rfl, i + 1, by omega, by rw [hsc]; simp⟩)
      · rw [decide_eq_false c]
        simp only [c, if_false] at hsc
        simp -implicitDefEqProofs [hL, hlt, d0, h0, same_self, w1, w2, w3, E.x, E2.x, E.l, E2.l]
        exact .mk (m := m - 1) (by omega) (by rw [hI]; exact ⟨rfl, i + 1, by omega, by rw [hsc]; simp⟩)
  · have : A.take i = A := List.take_of_length_le (by omega)
    rw [this] at hnd
    rw [← hnd] at hq
    simp -implicitDefEqProofs [hL, hlt]
    exact hq
theorem eqAt0 (h : AHeap) (c r n er en b : Nat) (sh : Bool) (c' r' n' er' en' b' : Nat) (sh' : Bool) : eqIn (cfgR ro) h 10000 71 (.agg [.int .u64 c, .int .u16 r, .int .u32 n, .int .u16 er, .int .u32 en, .int .u8 b, .bool sh]) (.agg [.int .u64 c', .int .u16 r', .int .u32 n', .int .u16 er', .int .u32 en', .int .u8 b', .bool sh']) =
  Res.bind (match (c : Int) == (c' : Int) with | true => (match (r : Int) == (r' : Int) with | true => (match (n : Int) == (n' : Int) with | true => Res.ok true | false => .ok false) | false => .ok false) | false => .ok false) (fun x => match x with
   | true => Res.bind (match (er : Int) == (er' : Int) with | true => (match (en : Int) == (en' : Int) with | true => Res.ok true | false => .ok false) | false => .ok false) (fun x => match x with
     | true => (match (b : Int) == (b' : Int) with | true => (match sh == sh' with | true => Res.ok true | false => .ok false) | false => .ok false)
     | false => .ok false)
   | false => .ok false) := by kernel_rfl
theorem beqNI (a b : Nat) : ((a : Int) == (b : Int)) = decide (a = b) := by
  by_cases h : a = b
  · simp [h]
  · have : ¬ (a : Int) = (b : Int) := by omega
    simp [h, this]
theorem eqAt (h : AHeap) (a b : AtV) : eqIn (cfgR ro) h 10000 71 (.agg [.int .u64 a.clock, .int .u16 a.r, .int .u32 a.n, .int .u16 a.er, .int .u32 a.en, .int .u8 a.b.toNat, .bool a.shown]) (.agg [.int .u64 b.clock, .int .u16 b.r, .int .u32 b.n, .int .u16 b.er, .int .u32 b.en, .int .u8 b.b.toNat, .bool b.shown]) = .ok (decide (a = b)) := by
  rw [eqAt0]
  simp only [beqNI]
  obtain ⟨c, r, n, er, en, bb, sh⟩ := a
  obtain ⟨c', r', n', er', en', bb', sh'⟩ := b
  simp only [← AtV.ext_iff']
  by_cases c1 : c = c'
  · by_cases c2 : r = r'
    · by_cases c3 : n = n'
      · by_cases c4 : er = er'
        · by_cases c5 : en = en'
          · by_cases c6 : bb.toNat = bb'.toNat
            · by_cases c7 : sh = sh'
              · simp [c1, c2, c3, c4, c5, c6, c7]
              · have : (sh == sh') = false := by simpa using c7
                simp [c1, c2, c3, c4, c5, c6, c7, this]
            · simp [c1, c2, c3, c4, c5, c6]
          · simp [c1, c2, c3, c4, c5]
        · simp [c1, c2, c3, c4]
      · simp [c1, c2, c3]
    · simp [c1, c2]
  · simp [c1]
theorem eqLA : eqL 71 = true := by decide
theorem Same_ev {h : AHeap} {v w : AVal} {A B : List AtV} (hs : Sl (cfgR ro) h 7 v (A.map AtV.cells)) (ht : Sl (cfgR ro) h 7 w (B.map AtV.cells)) (hl : A.length < 2 ^ 60) (hl2 : B.length < 2 ^ 60) {Q : AVal → AHeap → Prop} (hq : ∀ x, (x = true ↔ A = B) → Q (.bool x) h) : Ev (cfgR ro) 43 [v, w] h Q := by
  refine Ev.wp rfl rfl Tryd.func43 rfl ?_
  have hL : lenR (cfgR ro) h 32 v = .ok (.int .i64 (A.length : Nat)) := by have := hs.lenR (t := 32) un32; simpa using this
  have hL2 : lenR (cfgR ro) h 32 w = .ok (.int .i64 (B.length : Nat)) := by have := ht.lenR (t := 32) un32; simpa using this
  by_cases c : A.length = B.length
  · have d0 : decide ((A.length : Int) = (B.length : Int)) = true := decide_eq_true (by omega)
    simp -implicitDefEqProofs [Tryd.f43, hL, hL2, c]
    rw [c] at hL
    obtain ⟨I, hI⟩ : ∃ I : Nat → List AVal → AHeap → Prop, I = fun m env h' => h' = h ∧ ∃ i : Nat, i + m = B.length ∧ A.take i = B.take i ∧
      env = (v :: w :: .dead :: .dead :: .dead :: .int .i64 (i : Nat) :: .dead :: .dead :: .dead :: .dead :: .dead :: .dead :: .dead :: .dead :: .dead :: .dead :: .dead :: .dead :: .dead :: .dead :: .dead :: .dead :: .dead :: .dead :: .dead :: .dead :: []) := ⟨_, rfl⟩
    refine loop_of I ?_ B.length (by rw [hI]; exact ⟨rfl, 0, by omega, rfl, rfl⟩)
    intro m env h' hi
    rw [hI] at hi
    obtain ⟨rfl, i, him, hno, rfl⟩ := hi
    by_cases hlt : i < B.length
    · obtain ⟨a, ha⟩ : ∃ a, A[i]? = some a := ⟨_, List.getElem?_eq_getElem (by omega)⟩
      obtain ⟨b, hb⟩ : ∃ b, B[i]? = some b := ⟨_, List.getElem?_eq_getElem (by omega)⟩
      have E := El.of hs ha
      have E2 := El.of ht hb
      have w1 : IntKind.i64.wrap ((i : Int) + 1) = ((i + 1 : Nat) : Int) := by rw [w64 (by omega) (by omega)]; omega
      have ee := eqAt (ro := ro) h' a b
      by_cases cc : a = b
      · rw [decide_eq_true cc] at ee
        simp -implicitDefEqProofs [hL, hL2, hlt, same_self, w1, E.x, E2.x, E.l, E2.l, ee, eqLA]
        refine .mk (m := m - 1) (by omega) (by rw [hI]; exact ⟨rfl, i + 1, by omega, by
          obtain ⟨l1, e1⟩ := List.getElem?_eq_some_iff.1 ha
          obtain ⟨l2, e2⟩ := List.getElem?_eq_some_iff.1 hb
          rw [List.take_succ_eq_append_getElem l1, List.take_succ_eq_append_getElem l2, hno, e1, e2, cc], by simp⟩)
      · rw [decide_eq_false cc] at ee
        simp -implicitDefEqProofs [hL, hL2, hlt, same_self, w1, E.x, E2.x, E.l, E2.l, ee, eqLA]
        exact hq false ⟨fun e => (nomatch e), fun e => by
          subst e; rw [ha] at hb; cases hb; exact (cc rfl).elim⟩
    · rw [List.take_of_length_le (by omega), List.take_of_length_le (by omega)] at hno
      simp -implicitDefEqProofs [hL, hL2, hlt]
      exact hq true ⟨fun _ => hno, fun _ => rfl⟩
  · have d0 : ¬ ((A.length : Int) = (B.length : Int)) := by omega
    simp -implicitDefEqProofs [Tryd.f43, hL, hL2, c, d0]
    exact hq false ⟨fun e => (nomatch e), fun e => (c (by rw [e])).elim⟩
end
end Go.Proofs.YthblmlkkmebciaaDoor
set_option linter.all false
set_option maxRecDepth 100000
set_option maxHeartbeats 4000000
namespace Go.Proofs.YthblmlkkmebciaaDoor
open Go Go.RowKit Go.Proofs
section
variable {ro : Nat → Option (List AVal)}
theorem plain8_ev {h : AHeap} {s : Str} (hl : s.length < 2 ^ 60) {Q : AVal → AHeap → Prop} (hq : Q (.bool (plain s)) h) : Ev (cfgR ro) 98 [.str s] h Q := by
  refine Ev.wp rfl rfl Tryd.func98 rfl ?_
  simp -implicitDefEqProofs [Tryd.f98]
  obtain ⟨I, hI⟩ : ∃ I : Nat → List AVal → AHeap → Prop, I = fun m env h' => h' = h ∧ ∃ i, m = s.length - i ∧ i ≤ s.length ∧ plain s = plain (s.drop i) ∧ env = (.str s :: .dead :: .dead :: .int .i64 (i : Nat) :: .dead :: .dead :: .dead :: .dead :: .dead :: .dead :: .dead :: .dead :: .dead :: .dead :: .dead :: .dead :: .dead :: .dead :: .dead :: .dead :: .dead :: .dead :: .dead :: .dead :: .dead :: .dead :: []) := ⟨_, rfl⟩
  refine loop_of I ?_ s.length (by rw [hI]; exact ⟨rfl, 0, by simp, Nat.zero_le _, rfl, rfl⟩)
  intro m env h' hi
  rw [hI] at hi
  obtain ⟨rfl, i, rfl, g1, g2, rfl⟩ := hi
  by_cases hlt : i < s.length
  · obtain ⟨b, hb⟩ : ∃ b, b = s[i] := ⟨_, rfl⟩
    have hx : idxNat (.int .i64 (i : Int)) s.length = .ok i := ix_nat hlt
    have hn : s[i]'hlt = b := hb.symm
    have hw : IntKind.i64.wrap ((i : Int) + 1) = ((i + 1 : Nat) : Int) := by rw [w64 (by omega) (by omega)]; omega
    have hs := plain_step s i hlt
    rw [← hb] at hs
    obtain ⟨n, hnn⟩ : ∃ n, n = b.toNat := ⟨_, rfl⟩
    unfold plainB at hs
    rw [← hnn] at hs
    obtain ⟨i1, hi1⟩ : ∃ i1, i1 = i + 1 := ⟨_, rfl⟩
    rw [← hi1] at hw hs
    have no : ¬ (n = 10 ∨ (32 ≤ n ∧ n ≤ 126)) → Q (.bool false) h' := fun hh => by
      rw [g2, hs, decide_eq_false hh, Bool.false_and] at hq; exact hq
    have yes : (n = 10 ∨ (32 ≤ n ∧ n ≤ 126)) → plain s = plain (s.drop i1) := fun hh => by rw [g2, hs, decide_eq_true hh, Bool.true_and]
    have go : plain s = plain (s.drop i1) → I (s.length - i1) ((.str s :: .dead :: .dead :: .int .i64 (i1 : Nat) :: .dead :: .dead :: .dead :: .dead :: .dead :: .dead :: .dead :: .dead :: .dead :: .dead :: .dead :: .dead :: .dead :: .dead :: .dead :: .dead :: .dead :: .dead :: .dead :: .dead :: .dead :: .dead :: [])) h' := fun hh => by rw [hI]; exact ⟨rfl, i1, rfl, by omega, hh, rfl⟩
    by_cases c1 : n = 10
    · simp -implicitDefEqProofs [hlt, hx, hn, hw, ← hnn, c1]
      exact .mk (m := s.length - i1) (by omega) (go (yes (.inl c1)))
    · have e1 : ¬ ((n : Int) = 10) := by omega
      by_cases c2 : n < 32
      · have d2 : decide ((n : Int) < 32) = true := decide_eq_true (by omega)
        simp -implicitDefEqProofs [hlt, hx, hn, hw, ← hnn, c1, e1, c2, d2]
        exact no (by omega)
      · have d2 : decide ((n : Int) < 32) = false := decide_eq_false (by omega)
        by_cases c3 : 126 < n
        · have d3 : decide ((126 : Int) < (n : Int)) = true := decide_eq_true (by omega)
          simp -implicitDefEqProofs [hlt, hx, hn, hw, ← hnn, c1, e1, c2, d2, c3, d3]
          exact no (by omega)
        · have d3 : decide ((126 : Int) < (n : Int)) = false := decide_eq_false (by omega)
          simp -implicitDefEqProofs [hlt, hx, hn, hw, ← hnn, c1, e1, c2, d2, c3, d3]
          exact .mk (m := s.length - i1) (by omega) (go (yes (by omega)))
  · have e : s.drop i = [] := List.drop_eq_nil_of_le (by omega)
    rw [g2, e] at hq
    simp -implicitDefEqProofs [hlt]
    exact hq
theorem right15_ev {h : AHeap} {x : RunV} (hl : x.text.length < 2 ^ 60) (hn : x.n < 2 ^ 32) (he : x.en < 2 ^ 32) {Q : AVal → AHeap → Prop} (hq : ∀ b, (b = true ↔ RunOk x ∧ plain x.text = true) → Q (.bool b) h) : Ev (cfgR ro) 66 [.agg x.cells] h Q := by
  refine Ev.wp rfl rfl Tryd.func66 rfl ?_
  have no : ¬ (RunOk x ∧ plain x.text = true) → Q (.bool false) h := fun hh => hq false ⟨(fun e => nomatch e), fun e => absurd e hh⟩
  obtain ⟨l, hll⟩ : ∃ l, l = x.text.length := ⟨_, rfl⟩
  have f1 : ∀ t, x.text.length = t → l = t := fun t e => by omega
  simp -implicitDefEqProofs [Tryd.f66, RunV.cells]
  by_cases c1 : l < 1
  · have d1 : x.text.length = 0 := by omega
    simp -implicitDefEqProofs [d1]
    exact no (fun hh => by have := hh.1.pos; omega)
  · have d1 : ¬ x.text.length = 0 := by omega
    by_cases c2 : 1024 < l
    · have d2 : 1024 < x.text.length := by omega
      have d2' : decide ((1024 : Int) < (x.text.length : Int)) = true := decide_eq_true (by omega)
      have d1' : decide ((x.text.length : Int) < 1) = false := decide_eq_false (by omega)
      simp -implicitDefEqProofs [d1, d2, d1', d2']
      exact no (fun hh => by have := hh.1.len; omega)
    · have d2 : ¬ 1024 < x.text.length := by omega
      have d2' : decide ((1024 : Int) < (x.text.length : Int)) = false := decide_eq_false (by omega)
      have d1' : decide ((x.text.length : Int) < 1) = false := decide_eq_false (by omega)
      simp -implicitDefEqProofs [d1, d2, d1', d2']
      refine plain8_ev hl ?_
      cases hp : plain x.text with
      | false =>
        simp -implicitDefEqProofs [d1, d2, d1', d2']
        exact no (by rw [hp]; simp)
      | true =>
        by_cases c3 : x.n < 1
        · have d3 : x.n = 0 := by omega
          simp -implicitDefEqProofs [d1, d2, d1', d2', d3]
          exact no (fun hh => by have := hh.1.n1; omega)
        · have d3 : ¬ x.n = 0 := by omega
          have d3' : decide ((x.n : Int) < 1) = false := decide_eq_false (by omega)
          by_cases c4 : x.en < 1
          · have d4 : x.en = 0 := by omega
            simp -implicitDefEqProofs [d1, d2, d1', d2', d3, d3', d4]
            exact no (fun hh => by have := hh.1.e1; omega)
          · have d4 : ¬ x.en = 0 := by omega
            have d4' : decide ((x.en : Int) < 1) = false := decide_eq_false (by omega)
            by_cases c5 : 268435456 < x.n
            · have d5' : decide ((268435456 : Int) < (x.n : Int)) = true := decide_eq_true (by omega)
              simp -implicitDefEqProofs [d1, d2, d1', d2', d3, d3', d4, d4', c5, d5']
              exact no (fun hh => by have := hh.1.n2; omega)
            · have d5' : decide ((268435456 : Int) < (x.n : Int)) = false := decide_eq_false (by omega)
              by_cases c6 : 268435456 < x.en
              · have d6' : decide ((268435456 : Int) < (x.en : Int)) = true := decide_eq_true (by omega)
                simp -implicitDefEqProofs [d1, d2, d1', d2', d3, d3', d4, d4', c5, d5', c6, d6']
                exact no (fun hh => by have := hh.1.e2; omega)
              · have d6' : decide ((268435456 : Int) < (x.en : Int)) = false := decide_eq_false (by omega)
                have v1 : IntKind.i64.wrap (x.n : Int) = (x.n : Int) := w64 (by omega) (by omega)
                have v2 : IntKind.i64.wrap (x.en : Int) = (x.en : Int) := w64 (by omega) (by omega)
                obtain ⟨a, ha⟩ : ∃ a, a = x.n + x.text.length := ⟨_, rfl⟩
                obtain ⟨b, hb⟩ : ∃ b, b = x.en + x.text.length := ⟨_, rfl⟩
                have v3 : IntKind.i64.wrap ((x.n : Int) + (x.text.length : Int)) = (a : Int) := by rw [w64 (by omega) (by omega)]; omega
                have v4 : IntKind.i64.wrap ((x.en : Int) + (x.text.length : Int)) = (b : Int) := by rw [w64 (by omega) (by omega)]; omega
                have v5 : IntKind.i64.wrap ((a : Int) - 1) = (a : Int) - 1 := w64 (by omega) (by omega)
                have v6 : IntKind.i64.wrap ((b : Int) - 1) = (b : Int) - 1 := w64 (by omega) (by omega)
                by_cases c7 : (a : Int) - 1 ≤ 268435456
                · by_cases c8 : (b : Int) - 1 ≤ 268435456
                  · simp -implicitDefEqProofs [d1, d2, d1', d2', d3, d3', d4, d4', c5, d5', c6, d6', v1, v2, v3, v4, v5, v6, c7, c8]
                    exact hq true ⟨fun _ => ⟨⟨by omega, by omega, by omega, by omega, by omega, by omega⟩, hp⟩, fun _ => rfl⟩
                  · simp -implicitDefEqProofs [d1, d2, d1', d2', d3, d3', d4, d4', c5, d5', c6, d6', v1, v2, v3, v4, v5, v6, c7, c8]
                    exact no (fun hh => by have := hh.1.e2; omega)
                · simp -implicitDefEqProofs [d1, d2, d1', d2', d3, d3', d4, d4', c5, d5', c6, d6', v1, v2, v3, v4, v5, v6, c7]
                  exact no (fun hh => by have := hh.1.n2; omega)
theorem atoms15_ev {h : AHeap} {x : RunV} (hx : RunOk x) {Q : AVal → AHeap → Prop} (hq : ∀ v h', Old h h' → Mine h h' 7 ((atomsOf x).map AtV.cells) v → Q v h') : Ev (cfgR ro) 42 [.agg x.cells] h Q := by
  refine Ev.wp rfl rfl Tryd.func42 rfl ?_
  obtain ⟨p1, p2, p3, p4, p5, p6⟩ := hx
  simp -implicitDefEqProofs [Tryd.f42, RunV.cells]
  obtain ⟨I, hI⟩ : ∃ I : Nat → List AVal → AHeap → Prop, I = fun m env h' => ∃ (i : Nat) (v : AVal), i + m = x.text.length ∧ Old h h' ∧ Mine h h' 7 (((atomsOf x).take i).map AtV.cells) v ∧
    env = (.dead :: .cell x.cells :: .dead :: v :: .int .i64 (i : Nat) :: .dead :: .dead :: .dead :: .dead :: .dead :: .dead :: .dead :: .dead :: .dead :: .dead :: .dead :: .dead :: .dead :: .dead :: .dead :: .dead :: .dead :: .dead :: .dead :: .dead :: .dead :: .dead :: .dead :: .dead :: .dead :: .dead :: .dead :: .dead :: .dead :: .dead :: .dead :: .dead :: .dead :: .dead :: .dead :: .dead :: .dead :: .dead :: .dead :: .dead :: .dead :: .dead :: []) := ⟨_, rfl⟩
  refine loop_of I ?_ x.text.length (by rw [hI]; exact ⟨0, .nils, by omega, Old.refl h, Mine.nil _ _ _, rfl⟩)
  intro m env h' hi
  rw [hI] at hi
  obtain ⟨i, v, him, ho, hm, rfl⟩ := hi
  by_cases hlt : i < x.text.length
  · obtain ⟨b, hbb⟩ : ∃ b, x.text[i]'hlt = b := ⟨_, rfl⟩
    have hb : x.text[i]? = some b := by rw [List.getElem?_eq_getElem hlt, hbb]
    have ix : idxNat (.int .i64 (i : Int)) x.text.length = .ok i := ix_nat hlt
    have w1 : IntKind.i64.wrap ((i : Int) + 1) = ((i + 1 : Nat) : Int) := by rw [w64 (by omega) (by omega)]; omega
    have w2 : IntKind.u32.wrap (i : Int) = (i : Int) := by rw [wrap32, Int.emod_eq_of_lt (by omega) (by omega)]
    have w3 : IntKind.u32.wrap ((x.n : Int) + (i : Int)) = ((x.n + i : Nat) : Int) := by rw [wrap32, Int.emod_eq_of_lt (by omega) (by omega)]; omega
    have w4 : IntKind.u32.wrap ((x.en : Int) + (i : Int)) = ((x.en + i : Nat) : Int) := by rw [wrap32, Int.emod_eq_of_lt (by omega) (by omega)]; omega
    have hle : (((atomsOf x).take i).map AtV.cells).length = i := by
      rw [List.length_map, List.length_take, atomsOf_len]; omega
    obtain ⟨v3, h3, k1, k2, k3⟩ := Mine.append1 (bytes := 32) (e := (x.atom i b).cells) (hm.keep ((Old.refl h').push (.row 7 false (x.atom i b).cells))) (by decide) rfl (by rw [hle]; omega) (ho.push (.row 7 false (x.atom i b).cells))
    have k1' := k1
    simp only [AtV.cells, RunV.atom] at k1'
    obtain ⟨n1, hn1⟩ : ∃ n1, n1 = x.n + i := ⟨_, rfl⟩
    obtain ⟨n2, hn2⟩ : ∃ n2, n2 = x.en + i := ⟨_, rfl⟩
    rw [← hn1, ← hn2] at k1'
    rw [← hn1] at w3
    rw [← hn2] at w4
    simp -implicitDefEqProofs [hlt, RunV.cells, AtV.cells, buildSliceR, reps, w1, w2, w3, w4, ix, hbb, same_self, k1']
    refine .mk (m := m - 1) (by omega) (by
      rw [hI]
      refine ⟨i + 1, v3, by omega, k3, ?_, rfl⟩
      have : (atomsOf x).take (i + 1) = (atomsOf x).take i ++ [x.atom i b] := by
        have hg : (atomsOf x)[i]? = some (x.atom i b) := by rw [atomsOf_get, hb]; rfl
        obtain ⟨l1, l2⟩ := List.getElem?_eq_some_iff.1 hg
        rw [List.take_succ_eq_append_getElem l1, l2]
      rw [this, List.map_append]
      exact k2)
  · rw [List.take_of_length_le (by rw [atomsOf_len]; omega)] at hm
    simp -implicitDefEqProofs [hlt, RunV.cells]
    exact hq v h' ho hm
end
end Go.Proofs.YthblmlkkmebciaaDoor
set_option linter.all false
set_option maxRecDepth 100000
set_option maxHeartbeats 4000000
namespace Go.Proofs.YthblmlkkmebciaaDoor
open Go Go.RowKit Go.Proofs
theorem atIx_lt {A : List AtV} {r n i : Nat} (h : atIx A r n = some i) : i < A.length := by
  unfold atIx at h
  rw [List.findIdx?_eq_some_iff_getElem] at h
  exact h.1
theorem row_set : ∀ (A : List AtV) (i : Nat) (v : Bool), i < A.length → overR (A.map AtV.cells).flatten (i * 7 + 6) [.bool v] = .ok ((setSh A i v).map AtV.cells).flatten
  | [], i, v, h => by simp at h
  | a :: A, 0, v, h => by
    simp only [List.map_cons, List.flatten_cons, AtV.cells, List.cons_append]
    simp [setSh, AtV.cells]
  | a :: A, i + 1, v, h => by
    have ih := row_set A i v (by simpa using h)
    simp only [List.map_cons, List.flatten_cons, AtV.cells, List.cons_append, List.nil_append, setSh] at ih ⊢
    unfold overR at ih ⊢
    split at ih
    · rename_i hle
      injection ih with ih
      simp only [List.length_cons, List.length_nil] at hle ⊢
      rw [if_pos (by omega)]
      congr 1
      have e1 : (i + 1) * 7 + 6 = (i * 7 + 6) + 1 + 1 + 1 + 1 + 1 + 1 + 1 := by omega
      have e2 : (i * 7 + 6) + 1 + 1 + 1 + 1 + 1 + 1 + 1 + (0 + 1) = (i * 7 + 6 + (0 + 1)) + 1 + 1 + 1 + 1 + 1 + 1 + 1 := by omega
      rw [e1, e2]
      simp only [List.take_succ_cons, List.drop_succ_cons, List.cons_append]
      simp only [List.length_cons, List.length_nil] at ih
      rw [ih]
    · cases ih
section
variable {ro : Nat → Option (List AVal)}
theorem Show16_ev {h : AHeap} {v : AVal} {A : List AtV} {ar an : Nat} {yes : Bool} (hs : Sl (cfgR ro) h 7 v (A.map AtV.cells)) (hv : notSlc v) (hl : A.length < 2 ^ 30) {Q : AVal → AHeap → Prop}
    (hq : ∀ v' h', Old h h' → (v' = v ∧ (showA A ar an yes).1 = A) ∨ Mine h h' 7 ((showA A ar an yes).1.map AtV.cells) v' → Q (.tuple [v', .int .i64 ((showA A ar an yes).2 : Nat)]) h') : Ev (cfgR ro) 48 [v, idA ar an, .bool yes] h Q := by
  refine Ev.wp rfl rfl Tryd.func48 rfl ?_
  simp -implicitDefEqProofs [Tryd.f48, idA]
  refine At_ev hs (by omega) ?_
  cases hix : atIx A ar an with
  | none =>
    have e : showA A ar an yes = (A, 40) := by unfold showA; rw [hix]
    rw [e] at hq
    simp -implicitDefEqProofs [same_self, ixI]
    exact hq v h (Old.refl h) (.inl ⟨rfl, rfl⟩)
  | some i =>
    have e : showA A ar an yes = (setSh A i yes, 0) := by unfold showA; rw [hix]
    rw [e] at hq
    have hil := atIx_lt hix
    have hal : (A.map AtV.cells).length = A.length := List.length_map _
    have q1 := hs.len
    have q2 := hs.read
    obtain ⟨w, h1, e1, m1, o1⟩ := (Mine.nil h h 7).append (bytes := 32) (new := A.map AtV.cells) (by decide) (fun e he => by obtain ⟨a, _, rfl⟩ := List.mem_map.1 he; rfl) (by rw [hal]; simp; omega) (Old.refl h)
    rw [List.nil_append] at m1
    rw [hal] at q1 q2 e1
    have hd : decide ((i : Int) < 0) = false := decide_eq_false (by omega)
    have ha : A[i]? = some A[i] := List.getElem?_eq_getElem hil
    have E := El.of (m1.sl (c := cfgR ro)) ha
    obtain ⟨hs7, ⟨h0, _⟩ | ⟨q, fz, rfl, g1, g2, g3⟩⟩ := m1
    · have h00 : A.length = 0 := by rw [← hal, h0]; rfl
      omega
    · have rs := row_set A i yes hil
      have ex : idxNat (.int .i64 (i : Int)) A.length = .ok i := ix_nat hil
      have hst : storeR (cfgR ro) h1 4 (elpo (.sl q 0 (A.map AtV.cells).length) 7 i 6) (.bool yes) = .ok (h1.set q (.row 7 fz ((setSh A i yes).map AtV.cells).flatten)) := by
        simp [elpo, g3, rs]
      have Ex := E.x
      have Eo := E.o
      obtain ⟨w, hw⟩ : ∃ w, w = AVal.sl q 0 (A.map AtV.cells).length := ⟨_, rfl⟩
      rw [← hw] at Ex Eo hst e1
      simp -implicitDefEqProofs [same_self, ixI, hd, q1, q2, e1, Ex, Eo, hst]
      refine hq w _ (o1.set g1 _) (.inr ⟨fun e he => by obtain ⟨a, _, rfl⟩ := List.mem_map.1 he; rfl, .inr ⟨q, fz, ?_, g1, g2, get_set_self _ _ _⟩⟩)
      rw [hw, List.length_map, List.length_map, setSh_len]
theorem eqK57 (h : AHeap) (z a b y c d : Nat) : eqIn (cfgR ro) h 10000 57 (.agg [.int .u64 z, .int .u16 a, .int .u32 b]) (.agg [.int .u64 y, .int .u16 c, .int .u32 d]) = .ok (decide (z = y ∧ a = c ∧ b = d)) := by
  have e0 : eqIn (cfgR ro) h 10000 57 (.agg [.int .u64 z, .int .u16 a, .int .u32 b]) (.agg [.int .u64 y, .int .u16 c, .int .u32 d]) = (match (z : Int) == (y : Int) with | true => (match (a : Int) == (c : Int) with | true => (match (b : Int) == (d : Int) with | true => .ok true | false => .ok false) | false => .ok false) | false => .ok false) := by kernel_rfl
  rw [e0]
  simp only [beqNI]
  by_cases c1 : z = y
  · by_cases c2 : a = c
    · by_cases c3 : b = d
      · simp [c1, c2, c3]
      · simp [c1, c2, c3]
    · simp [c1, c2]
  · simp [c1]
theorem eqI56 (h : AHeap) (a b c d : Nat) : eqIn (cfgR ro) h 10000 56 (.agg [.int .u16 a, .int .u32 b]) (.agg [.int .u16 c, .int .u32 d]) = .ok (decide (a = c ∧ b = d)) := by
  have e0 : eqIn (cfgR ro) h 10000 56 (.agg [.int .u16 a, .int .u32 b]) (.agg [.int .u16 c, .int .u32 d]) = (match (a : Int) == (c : Int) with | true => (match (b : Int) == (d : Int) with | true => .ok true | false => .ok false) | false => .ok false) := by kernel_rfl
  rw [e0]
  simp only [beqNI]
  by_cases c2 : a = c
  · by_cases c3 : b = d
    · simp [c2, c3]
    · simp [c2, c3]
  · simp [c2]
theorem eqL57 : eqL 57 = true := by decide
theorem eqL56 : eqL 56 = true := by decide
theorem atom16_ev {h : AHeap} {a b : AtV} {Q : AVal → AHeap → Prop} (hq : Q (.bool (decide (a = b))) h) : Ev (cfgR ro) 37 [.agg a.cells, .agg b.cells] h Q := by
  refine Ev.wp rfl rfl Tryd.func37 rfl ?_
  have fin : ∀ x : Bool, (x = true ↔ (a.clock = b.clock ∧ a.r = b.r ∧ a.n = b.n ∧ a.er = b.er ∧ a.en = b.en ∧ a.b.toNat = b.b.toNat ∧ a.shown = b.shown)) → Q (.bool x) h := by
    intro x hx
    rw [AtV.ext_iff'] at hx
    have : decide (a = b) = x := by
      cases x with
      | true => exact decide_eq_true (hx.1 rfl)
      | false => exact decide_eq_false (fun hh => by have := hx.2 hh; cases this)
    rw [this] at hq; exact hq
  obtain ⟨c, r, n, er, en, bb, sh⟩ := a
  obtain ⟨c', r', n', er', en', bb', sh'⟩ := b
  simp only at fin
  have bad : ¬ (c = c' ∧ r = r' ∧ n = n' ∧ er = er' ∧ en = en' ∧ bb.toNat = bb'.toNat ∧ sh = sh') → Q (.bool false) h := fun hn => fin false ⟨fun e => (nomatch e), fun e => (hn e).elim⟩
  have ek := eqK57 (ro := ro) h c r n c' r' n'
  have ei := eqI56 (ro := ro) h er en er' en'
  have eb : eqFlat Tryd.prog h .bool (.bool sh) (.bool sh') = .ok (sh == sh') := by rfl
  by_cases c1 : c = c' ∧ r = r' ∧ n = n'
  · rw [decide_eq_true c1] at ek
    by_cases c2 : er = er' ∧ en = en'
    · rw [decide_eq_true c2] at ei
      by_cases c3 : bb.toNat = bb'.toNat
      · simp -implicitDefEqProofs [Tryd.f37, AtV.cells, ek, ei, eqL57, eqL56, c3, eb]
        exact fin (sh == sh') (by simp [c1, c2, c3])
      · have d : ¬ ((bb.toNat : Int) = (bb'.toNat : Int)) := by omega
        simp -implicitDefEqProofs [Tryd.f37, AtV.cells, ek, ei, eqL57, eqL56, d]
        exact bad (fun hh => c3 hh.2.2.2.2.2.1)
    · rw [decide_eq_false c2] at ei
      simp -implicitDefEqProofs [Tryd.f37, AtV.cells, ek, ei, eqL57, eqL56]
      exact bad (fun hh => c2 ⟨hh.2.2.2.1, hh.2.2.2.2.1⟩)
  · rw [decide_eq_false c1] at ek
    simp -implicitDefEqProofs [Tryd.f37, AtV.cells, ek, ei, eqL57, eqL56]
    exact bad (fun hh => c1 ⟨hh.1, hh.2.1, hh.2.2.1⟩)
theorem f_geq {a b : Nat} {x y : Int} (ha : Wh a x) (hb : Wh b y) : floatBin .geq .f64 a b = .ok (.bool (decide (y ≤ x))) := by
  unfold floatBin
  rw [show FloatKind.f64.format = Ieee.double from rfl, order_wh ha hb]
  rcases Int.lt_trichotomy x y with h | h | h
  · rw [cmp_lt h, decide_eq_false (by omega)]; rfl
  · rw [h, cmp_eq, decide_eq_true (by omega)]; rfl
  · rw [cmp_gt h, decide_eq_true (by omega)]; rfl
theorem f_leq {a b : Nat} {x y : Int} (ha : Wh a x) (hb : Wh b y) : floatBin .leq .f64 a b = .ok (.bool (decide (x ≤ y))) := by
  unfold floatBin
  rw [show FloatKind.f64.format = Ieee.double from rfl, order_wh ha hb]
  rcases Int.lt_trichotomy x y with h | h | h
  · rw [cmp_lt h, decide_eq_true (by omega)]; rfl
  · rw [h, cmp_eq, decide_eq_true (by omega)]; rfl
  · rw [cmp_gt h, decide_eq_false (by omega)]; rfl
theorem f_eql {a b : Nat} {x y : Int} (ha : Wh a x) (hb : Wh b y) : floatBin .eql .f64 a b = .ok (.bool (decide (x = y))) := by
  unfold floatBin
  rw [show FloatKind.f64.format = Ieee.double from rfl, order_wh ha hb]
  rcases Int.lt_trichotomy x y with h | h | h
  · rw [cmp_lt h, decide_eq_false (by omega)]; rfl
  · rw [h, cmp_eq, decide_eq_true (by omega)]; rfl
  · rw [cmp_gt h, decide_eq_false (by omega)]; rfl
theorem f_neq {a b : Nat} {x y : Int} (ha : Wh a x) (hb : Wh b y) : floatBin .neq .f64 a b = .ok (.bool (!decide (x = y))) := by
  unfold floatBin
  rw [show FloatKind.f64.format = Ieee.double from rfl, order_wh ha hb]
  rcases Int.lt_trichotomy x y with h | h | h
  · rw [cmp_lt h, decide_eq_false (by omega)]; rfl
  · rw [h, cmp_eq, decide_eq_true (by omega)]; rfl
  · rw [cmp_gt h, decide_eq_false (by omega)]; rfl
theorem f_int {a : Nat} {x : Int} (ha : Wh a x) : (FloatKind.f64.decode a).toInt .zero = some x := toInt_wh ha
theorem wh_lo : Wh 13943144446339055616 (-33554432) := by
  have : FloatKind.f64.nearest (-33554432) = 13943144446339055616 := by decide +kernel
  rw [← this]; exact nearest_wh (by decide)
theorem wh_hi : Wh 4719772409484279808 33554432 := by
  have : FloatKind.f64.nearest 33554432 = 4719772409484279808 := by decide +kernel
  rw [← this]; exact nearest_wh (by decide)
theorem of03_ev {h : AHeap} {a b : Nat} {x y : Int} (ha : Wh a x) (h1 : -33554432 ≤ x) (h2 : x ≤ 33554432) (hb : Wh b y) (h3 : -33554432 ≤ y) (h4 : y ≤ 33554432) {Q : AVal → AHeap → Prop}
    (hq : Q (.tuple [.agg [.int .i64 x, .int .i64 y], .bool true]) h) : Ev (cfgR ro) 55 [.cplx .f64 a b] h Q := by
  refine Ev.wp rfl rfl Tryd.func55 rfl ?_
  have hn : Wh (FloatKind.f64.nearest x) x := nearest_wh (by omega)
  have hm : Wh (FloatKind.f64.nearest y) y := nearest_wh (by omega)
  have e1 := f_geq ha wh_lo
  have e2 := f_leq ha wh_hi
  have e3 := f_neq hn ha
  have e4 := f_int ha
  have e5 := f_geq hb wh_lo
  have e6 := f_leq hb wh_hi
  have e7 := f_neq hm hb
  have e8 := f_int hb
  have b1 : IntKind.i64.min ≤ x := by show (-9223372036854775808 : Int) ≤ x; omega
  have b2 : x ≤ IntKind.i64.max := by show x ≤ (9223372036854775807 : Int); omega
  have b3 : IntKind.i64.min ≤ y := by show (-9223372036854775808 : Int) ≤ y; omega
  have b4 : y ≤ IntKind.i64.max := by show y ≤ (9223372036854775807 : Int); omega
  have b5 : x ≤ 9223372036854775807 := by omega
  have b6 : y ≤ 9223372036854775807 := by omega
  simp -implicitDefEqProofs [Tryd.f55, e1, e2, e3, e4, e5, e6, e7, e8, h1, h2, h3, h4, b1, b2, b3, b4, b5, b6]
  exact hq
end
end Go.Proofs.YthblmlkkmebciaaDoor
set_option linter.all false
set_option maxRecDepth 100000
set_option maxHeartbeats 4000000
namespace Go.Proofs.YthblmlkkmebciaaDoor
open Go Go.RowKit Go.Proofs
/-- a call, as the law has it -/
structure OpV where
  kind : Int
  ar : Nat
  an : Nat
  x : RunV
  yes : Bool
def OpV.cells (o : OpV) : List AVal := [.int .i64 o.kind, .int .u16 o.ar, .int .u32 o.an, .int .u64 o.x.clock, .int .u16 o.x.r, .int .u32 o.x.n, .int .u16 o.x.er, .int .u32 o.x.en, .str o.x.text, .bool o.x.shown, .bool o.yes]
structure RunR (x : RunV) : Prop where
  n : x.n < 2 ^ 32
  en : x.en < 2 ^ 32
  tx : x.text.length < 2 ^ 63
structure OpR (o : OpV) : Prop where
  an : o.an < 2 ^ 32
  x : RunR o.x
def doA (A : List AtV) (o : OpV) : List AtV := if o.kind = 1 then (putA A o.ar o.an o.x).1 else if o.kind = 2 then (showA A o.ar o.an o.yes).1 else A
/-- a row of one's own, apart from a store -/
structure Wt (h0 h : AHeap) (O : Nat → Prop) (A : List AtV) (v : AVal) : Prop where
  m : Mine h0 h 7 (A.map AtV.cells) v
  no : ∀ q f n, v = .sl q f n → ¬ O q
theorem Wt.stp {h0 h h' : AHeap} {O O' : Nat → Prop} {A : List AtV} {v : AVal} (W : Wt h0 h O A v) (P : Stp h O h' O') : Wt h0 h' O' A v := by
  obtain ⟨⟨m1, m2⟩, no⟩ := W
  refine ⟨⟨m1, m2.imp_right ?_⟩, fun q f n e ho => ?_⟩
  · rintro ⟨q, fz, e, g1, g2, g3⟩
    exact ⟨q, fz, e, g1, Nat.lt_of_lt_of_le g2 P.nx, by rw [P.keep q g2 (no q 0 _ e)]; exact g3⟩
  · rcases m2 with ⟨_, e2⟩ | ⟨q', fz, e2, g1, g2, g3⟩
    · rw [e] at e2; cases e2
    · rw [e] at e2; cases e2
      rcases P.own q ho with h1 | h1
      · exact no _ _ _ e h1
      · omega
theorem Wt.old {h0 h h' : AHeap} {O : Nat → Prop} {A : List AtV} {v : AVal} (W : Wt h0 h O A v) (o : Old h h') : Wt h0 h' O A v := ⟨W.m.keep o, W.no⟩
theorem StA.keep {h h' : AHeap} {s : Nat} {O : Nat → Prop} {A : List AtV} (S : StA h s O A) (o : Old h h') : StA h' s O A := by
  obtain ⟨m, t, ix, a1, a2, a3, a4, a5, a6, rfl⟩ := S
  have kk : ∀ q, IObj m h q → h'.get q = h.get q := fun q hq => o.2 q (a1.lt q (.inr (.inr hq)))
  refine ⟨m, t, ix, (a1.old o).1, a2, a3, a4, a5, a6, funext fun q => propext ?_⟩
  unfold SOwn
  rw [IObj.keep a1 kk]
theorem Stp.ofOld {h h' : AHeap} (O : Nat → Prop) (o : Old h h') : Stp h O h' O := ⟨o.1, fun q hq _ => o.2 q hq, fun _ h => .inl h⟩
theorem StA.len {h : AHeap} {s : Nat} {O : Nat → Prop} {A : List AtV} (S : StA h s O A) : A.length ≤ 65536 := by
  obtain ⟨m, t, ix, a1, a2, a3, a4, a5, a6, a7⟩ := S
  rw [← a5, flatten_length]; exact a4
theorem StA.num {h : AHeap} {s : Nat} {O : Nat → Prop} {A : List AtV} (S : StA h s O A) : ∀ a ∈ A, a.n < 2 ^ 29 ∧ a.en < 2 ^ 29 := by
  obtain ⟨m, t, ix, a1, a2, a3, a4, a5, a6, a7⟩ := S
  intro a ha
  rw [← a5] at ha
  obtain ⟨l, hl, ha⟩ := List.mem_flatten.1 ha
  obtain ⟨x, hx, rfl⟩ := List.mem_map.1 hl
  obtain ⟨p, hp, rfl⟩ := List.mem_map.1 hx
  obtain ⟨i, hi⟩ := List.mem_iff_getElem?.1 ha
  rw [atomsOf_get] at hi
  have := a2.ok p hp
  cases hx2 : p.2.text[i]? with
  | none => rw [hx2] at hi; cases hi
  | some b =>
    rw [hx2] at hi
    cases hi
    have h1 := (List.getElem?_eq_some_iff.1 hx2).1
    have h2 := this.n2
    have h3 := this.e2
    exact ⟨by simp only []; omega, by simp only []; omega⟩
/-- a store at its beginning -/
theorem StA.new (h : AHeap) : StA (h.push (.row 0 false [.nilp, .int .u64 0, .nilm])) h.next (fun o => o = h.next) [] := by
  refine ⟨.nilm, .nil, fun _ => [], ⟨⟨⟨0, get_push_next _ _⟩, trivial, List.nodup_nil, by simp [Rt.ids, Rt.items], by simp, by simp [Rt.ids, Rt.items]⟩, ⟨fun r p => by simp [Rt.items], fun r => List.Pairwise.nil, .inl ⟨rfl, fun _ => rfl⟩⟩, fun p hp => hp, fun o ho => (by obtain ⟨q, e, _⟩ := ho; cases e)⟩, ⟨fun p hp => (by cases hp), List.Pairwise.nil⟩, fun p hp => (by cases hp), by simp [Rt.at_, Rt.rs, Rt.items, atomsN], rfl, fun _ => trivial, funext fun o => propext ?_⟩
  unfold SOwn
  constructor
  · exact fun e => .inl e
  · rintro (e | e | ⟨q, e, _⟩)
    · exact e
    · simp [Rt.ids, Rt.items] at e
    · cases e
end Go.Proofs.YthblmlkkmebciaaDoor
