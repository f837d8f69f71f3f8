/-
  A part of the proof of RopePlays, over the seat Ytbnlhhfobgjeaaa: for every input the law returns true, and the input reads as it did.
-/
import Derived.Test.YtbnlhhfobgjeaaaRd
set_option linter.all false
set_option linter.all false
set_option maxRecDepth 100000
set_option maxHeartbeats 4000000
namespace Go.Proofs.Ytbnlhhfobgjeaaa
open Go Go.RowKit Go.Proofs
def ptrsOf (L : List (Nat × Str)) : List AVal := L.map fun p => .ptr p.1 0
def strsOf (L : List (Nat × Str)) : List AVal := L.map fun p => .str p.2
def badR (w rr : Nat) (t : Rt Str) (o : Nat) : Prop := o = w ∨ o = rr ∨ o ∈ t.ids
/-- a row: a rope, its places, and the document's list -/
structure RowOk (h0 h : AHeap) (w rr : Nat) (T : Rt Str) (pv sv : AVal) : Prop where
  row : h.get w = some (.row 0 false [.ptr rr 0, pv, sv])
  R : RpO h0 h rr T
  w0 : h0.next ≤ w
  w1 : w < h.next
  w2 : w ≠ rr
  w3 : w ∉ T.ids
  pl : Plc h pv (ptrsOf T.items) (badR w rr T)
  st : Plc h sv (strsOf T.items) (badR w rr T)
theorem Plc.sl {c : Cfg} {h : AHeap} {v : AVal} {es : List AVal} {bad : Nat → Prop} (p : Plc h v es bad) : Sl c h 1 v (es.map fun e => [e]) := by
  obtain ⟨h0, m⟩ := p.mine
  exact m.sl
theorem Plc.notSlc {h : AHeap} {v : AVal} {es : List AVal} {bad : Nat → Prop} (p : Plc h v es bad) : notSlc v := by
  rcases p with ⟨_, rfl⟩ | ⟨q, fz, rfl, _⟩ <;> (intro o f l q h; cases h)
theorem Mine.plc {h0 h : AHeap} {es : List AVal} {v : AVal} {bad : Nat → Prop} (m : Mine h0 h 1 (es.map fun e => [e]) v) (hb : ∀ o, bad o → o < h0.next) : Plc h v es bad := by
  obtain ⟨_, ⟨h1, rfl⟩ | ⟨q, fz, rfl, h1, h2, h3⟩⟩ := m
  · exact .inl ⟨by simpa using h1, rfl⟩
  · exact .inr ⟨q, fz, by simp, h2, by rw [h3, flat1], fun hq => by have := hb q hq; omega⟩
theorem RpO.keep {h0 h h' : AHeap} {rr : Nat} {t : Rt Str} (R : RpO h0 h rr t) (hle : h.next ≤ h'.next) (hk : ∀ o, (o = rr ∨ o ∈ t.ids ∨ o < h0.next) → h'.get o = h.get o) : RpO h0 h' rr t := by
  obtain ⟨⟨⟨s, g1⟩, g2, g3, g4, g5, g6⟩, g7, g8, g9⟩ := R
  refine ⟨⟨⟨s, by rw [hk rr (.inl rfl)]; exact g1⟩, At.congr (fun o ho => hk o (.inr (.inl ho))) g2, g3, g4, by omega, fun o ho => by have := g6 o ho; omega⟩, g7, g8, Nat.le_trans g9.1 hle, ?_⟩
  exact fun o ho => by rw [hk o (.inr (.inr ho)), g9.2 o ho]
theorem strs_of (L : List (Nat × Str)) : (strsOf L).map (fun e => [e]) = strs (L.map (·.2)) := by simp [strsOf, strs]
section
variable {ro : Nat → Option (List AVal)}
theorem RowOk.strs {h0 h : AHeap} {w rr : Nat} {T : Rt Str} {pv sv : AVal} (r : RowOk h0 h w rr T pv sv) : Strs (cfgR ro) h sv (T.items.map (·.2)) := by
  have := r.st.sl (c := cfgR ro)
  rw [strs_of] at this
  exact this
/-- what was made behind, and the row written anew -/
theorem RowOk.write {h0 h h' : AHeap} {w rr : Nat} {T : Rt Str} {pv' sv' : AVal} (R : RpO h0 h rr T) (w0 : h0.next ≤ w) (w1 : w < h.next) (w2 : w ≠ rr) (w3 : w ∉ T.ids)
    (hle : h.next ≤ h'.next) (hk : ∀ o, o < h.next → o ≠ w → h'.get o = h.get o) (hw : h'.get w = some (.row 0 false [.ptr rr 0, pv', sv']))
    (pl : Plc h' pv' (ptrsOf T.items) (badR w rr T)) (st : Plc h' sv' (strsOf T.items) (badR w rr T)) : RowOk h0 h' w rr T pv' sv' := by
  refine ⟨hw, R.keep hle (fun o ho => hk o ?_ ?_), w0, Nat.lt_of_lt_of_le w1 hle, w2, w3, pl, st⟩
  · rcases ho with rfl | h1 | h1
    · exact R.rp.lr
    · exact R.rp.lt o h1
    · exact Nat.lt_of_lt_of_le h1 R.old.1
  · rintro rfl
    rcases ho with h1 | h1 | h1
    · exact w2 h1
    · exact w3 h1
    · omega
end
end Go.Proofs.Ytbnlhhfobgjeaaa
set_option linter.all false
set_option maxRecDepth 100000
set_option maxHeartbeats 4000000
namespace Go.Proofs.Ytbnlhhfobgjeaaa
open Go Go.RowKit Go.Proofs
section
variable {ro : Nat → Option (List AVal)}
theorem put28 {h0 h : AHeap} {w rr : Nat} {T : Rt Str} {pv sv : AVal} {a1 : Nat} {at_ : Int} {x : Str} (r : RowOk h0 h w rr T pv sv) (ha : a1 ≤ T.items.length) (hat : at_ = (a1 : Int) - 1)
    (hfit : T.items.length + 1 < 2 ^ 30 ∧ T.tx.length + x.length < 2 ^ 60) {Q : AVal → AHeap → Prop}
    (hq : ∀ h' T' pv' sv', RowOk h0 h' w rr T' pv' sv' → T'.items.length = T.items.length + 1 → T'.tx.length = T.tx.length + x.length → Q (.bool true) h') :
    Ev (cfgR ro) 28 [.ptr w 0, .int .i64 at_, .str x] h Q := by
  refine Ev.wp rfl rfl Try.func28 rfl ?_
  have hrow := r.row
  simp -implicitDefEqProofs [Try.f28]
  generalize hK : seqK _ _ _ _ _ _ _ = K
  have tail : ∀ aft z, ((T.items.take a1 = [] ∧ aft = .nilp) ∨ ∃ L0 a y, T.items.take a1 = L0 ++ [(a, y)] ∧ aft = .ptr a 0) → K (.ptr w 0 :: .int .i64 at_ :: .str x :: .dead :: .dead :: .dead :: .dead :: aft :: .dead :: .dead :: .dead :: z :: .dead :: .dead :: .dead :: .dead :: .dead :: .dead :: .dead :: .dead :: .dead :: .dead :: .dead :: .dead :: .dead :: .dead :: .dead :: .dead :: .dead :: .dead :: .dead :: .dead :: .dead :: .dead :: .dead :: .dead :: .dead :: .dead :: .dead :: .dead :: .dead :: .dead :: .dead :: .dead :: .dead :: .dead :: .dead :: .dead :: .dead :: .dead :: .dead :: .dead :: .dead :: .dead :: .dead :: .dead :: .dead :: .dead :: .dead :: .dead :: .dead :: .dead :: .dead :: .dead :: []) h := by
    intro aft z haft
    rw [← hK]
    simp -implicitDefEqProofs [hrow]
    refine putO r.R (List.take_append_drop a1 T.items).symm ⟨by omega, hfit.2⟩ haft (fun n h1 T1 R1 i1 n1 k1 m1 => ?_)
    have hw1 : h1.get w = some (.row 0 false [.ptr rr 0, pv, sv]) := by rw [k1 w r.w1 r.w2 r.w3]; exact r.row
    have pl1 : Plc h1 pv (ptrsOf T.items) (badR w rr T) := r.pl.keep m1 (fun o ho hb => k1 o ho (fun e => hb (.inr (.inl e))) (fun e => hb (.inr (.inr e)))) (fun o ho => .inl ho)
    have st1 : Plc h1 sv (strsOf T.items) (badR w rr T) := r.st.keep m1 (fun o ho hb => k1 o ho (fun e => hb (.inr (.inl e))) (fun e => hb (.inr (.inr e)))) (fun o ho => .inl ho)
    obtain ⟨es, hes⟩ : ∃ es, es = (ptrsOf T.items).map fun e => [e] := ⟨_, rfl⟩
    have esl : es.length = T.items.length := by rw [hes]; simp [ptrsOf]
    have ez : ∀ e ∈ es, e.length = 1 := by rw [hes]; simp
    have sl1 : Sl (cfgR ro) h1 1 pv es := by rw [hes]; exact pl1.sl
    have nsl := r.pl.notSlc
    have hwr : IntKind.i64.wrap (at_ + 1) = (a1 : Int) := by rw [w64 (by omega) (by omega)]; omega
    obtain ⟨h2, hh2⟩ : ∃ h2, h2 = h1.push (.row 1 false []) := ⟨_, rfl⟩
    have o2 : Old h1 h2 := by rw [hh2]; exact (Old.refl h1).push _
    have m2 : Mine h1 h2 1 [] (.sl h1.next 0 0) := ⟨by simp, .inr ⟨h1.next, false, rfl, Nat.le_refl _, by rw [hh2]; simp, by rw [hh2, get_push_next]; rfl⟩⟩
    have hw2 : h2.get w = some (.row 0 false [.ptr rr 0, pv, sv]) := by rw [o2.2 w (Nat.lt_of_lt_of_le r.w1 m1)]; exact hw1
    have ⟨c2, s2, _⟩ := (sl1.old o2).upto (by decide) nsl (at_ := a1) (by omega) .i64
    obtain ⟨e1, he1⟩ : ∃ e1, e1 = es.take a1 := ⟨_, rfl⟩
    rw [← he1] at s2
    have el1 : e1.length = a1 := by rw [he1, List.length_take]; omega
    have ez1 : ∀ e ∈ e1, e.length = 1 := fun e he => ez e (List.mem_of_mem_take (by rw [← he1]; exact he))
    obtain ⟨p1, h3, a3, m3, o3⟩ := m2.append (bytes := 8) (by decide) ez1 (by simp; omega) o2
    rw [List.nil_append] at m3
    obtain ⟨h4, hh4⟩ : ∃ h4, h4 = h3.push (.row 1 false [.ptr n 0]) := ⟨_, rfl⟩
    have o34 : Old h3 h4 := by rw [hh4]; exact (Old.refl h3).push _
    have o4 : Old h1 h4 := o3.trans o34
    obtain ⟨p2, h5, a5, m5, o5⟩ := (m3.keep o34).append1 (e := [.ptr n 0]) (bytes := 8) (by decide) rfl (by omega) o4
    have ⟨c3, _, _⟩ := (sl1.old o3).from_ (by decide) nsl (at_ := a1) (by omega) .i64
    have ⟨c5, s5, _⟩ := (sl1.old o5).from_ (by decide) nsl (at_ := a1) (by omega) .i64
    obtain ⟨e5, he5⟩ : ∃ e5, e5 = es.drop a1 := ⟨_, rfl⟩
    rw [← he5] at s5
    have el5 : e5.length = T.items.length - a1 := by rw [he5, List.length_drop]; omega
    have ez5 : ∀ e ∈ e5, e.length = 1 := fun e he => ez e (List.mem_of_mem_drop (by rw [← he5]; exact he))
    obtain ⟨p3, h6, a6, m6, o6⟩ := m5.append (bytes := 8) (by decide) ez5 (by simp; omega) o5
    have hwl : w < h1.next := Nat.lt_of_lt_of_le r.w1 m1
    have hw3 : h3.get w = some (.row 0 false [.ptr rr 0, pv, sv]) := by rw [o3.2 w hwl]; exact hw1
    have hw5 : h5.get w = some (.row 0 false [.ptr rr 0, pv, sv]) := by rw [o5.2 w hwl]; exact hw1
    have hw6 : h6.get w = some (.row 0 false [.ptr rr 0, pv, sv]) := by rw [o6.2 w hwl]; exact hw1
    obtain ⟨h7, hh7⟩ : ∃ h7, h7 = h6.set w (.row 0 false [.ptr rr 0, p3, sv]) := ⟨_, rfl⟩
    have hw7 : h7.get w = some (.row 0 false [.ptr rr 0, p3, sv]) := by rw [hh7, get_set_self]
    have k7 : ∀ o, o < h1.next → o ≠ w → h7.get o = h1.get o := fun o ho hne => by rw [hh7, get_set_ne (Ne.symm hne), o6.2 o ho]
    have n7 : h1.next ≤ h7.next := by rw [hh7]; exact o6.1
    have st7 : Plc h7 sv (strsOf T.items) (badR w rr T) := st1.keep n7 (fun o ho hb => k7 o ho (fun e => hb (.inl e))) (fun o ho => .inl ho)
    have ⟨c6, _, _⟩ := (sl1.old o6).from_ (by decide) nsl (at_ := a1) (by omega) .i64
    have hp3 := m6.cells
    simp -implicitDefEqProofs [buildSliceR, reps, ← hh2, hw2, hwr, c2, s2.len, s2.read, a3]
    simp -implicitDefEqProofs [buildSliceR, reps, ← hh4, hw3, hw5, hw6, hwr, a5, c3, c5, c6, s5.len, s5.read, a6, hp3, same_self]
    refine ⟨⟨.inl (by decide +kernel), .inl (by decide +kernel)⟩, ?_⟩
    rw [← hh7]
    have hwant : Strs (cfgR ro) h7 sv (T.items.map (·.2)) := by
      have := st7.sl (c := cfgR ro)
      rw [strs_of] at this
      exact this
    refine lput39 hwant st7.notSlc (by simp; omega) (by simpa using ha) (fun sv' h8 m8 o8 => ?_)
    have hw8 : h8.get w = some (.row 0 false [.ptr rr 0, p3, sv]) := by rw [o8.2 w (Nat.lt_of_lt_of_le hwl n7)]; exact hw7
    have hs8 := m8.cells
    simp -implicitDefEqProofs [hw8, hs8]
    have hlen : T1.items.length = T.items.length + 1 := by rw [i1]; simp; omega
    have htx : T1.tx.length = T.tx.length + x.length := by
      have e1 : T.tx = txs (T.items.take a1) ++ txs (T.items.drop a1) := by rw [← txs_append, List.take_append_drop]; rfl
      have e2 : T1.tx = txs (T.items.take a1) ++ (x ++ txs (T.items.drop a1)) := by rw [tx_items i1, txs_append]; simp [txs]
      rw [e1, e2]; simp only [List.length_append]; omega
    refine hq (h8.set w (.row 0 false [.ptr rr 0, p3, sv'])) T1 p3 sv' ?_ hlen htx
    have hbad : ∀ o, badR w rr T1 o → o < h1.next := by
      rintro o (rfl | rfl | h9)
      · exact hwl
      · exact R1.rp.lr
      · exact R1.rp.lt o h9
    have hw1' : w ∉ T1.ids := by
      intro hm
      unfold Rt.ids at hm
      rw [i1] at hm
      have : w = n ∨ w ∈ T.ids := by
        unfold Rt.ids
        rw [← List.take_append_drop a1 T.items]
        simp only [List.map_append, List.map_cons, List.mem_append, List.mem_cons] at hm ⊢
        rcases hm with h9 | h9 | h9
        · exact .inr (.inl h9)
        · exact .inl h9
        · exact .inr (.inr h9)
      rcases this with rfl | h9
      · have := r.w1; omega
      · exact r.w3 h9
    refine RowOk.write (h := h1) R1 r.w0 hwl r.w2 hw1' (Nat.le_trans n7 o8.1) (fun o ho hne => ?_) (get_set_self _ _ _) ?_ ?_
    · rw [get_set_ne (Ne.symm hne), o8.2 o (Nat.lt_of_lt_of_le ho n7), k7 o ho hne]
    · have he : e1 ++ [[.ptr n 0]] ++ e5 = (ptrsOf T1.items).map fun e => [e] := by
        rw [he1, he5, hes, i1]; simp [ptrsOf, List.map_take, List.map_drop]
      rw [he] at m6
      have : Plc h6 p3 (ptrsOf T1.items) (badR w rr T1) := m6.plc hbad
      refine this.keep (by have := o8.1; rw [hh7] at this; exact this) (fun o ho hb => ?_) (fun o ho => .inl ho)
      have hne : o ≠ w := fun e => hb (.inl e)
      rw [get_set_ne (Ne.symm hne), o8.2 o (by rw [hh7]; exact ho), hh7, get_set_ne (Ne.symm hne)]
    · have he : strs ((T.items.map (·.2)).take a1 ++ x :: (T.items.map (·.2)).drop a1) = (strsOf T1.items).map fun e => [e] := by
        rw [strs_of, i1]; simp [List.map_take, List.map_drop]
      rw [he] at m8
      have : Plc h8 sv' (strsOf T1.items) (badR w rr T1) := m8.plc (fun o ho => Nat.lt_of_lt_of_le (hbad o ho) n7)
      refine this.keep (Nat.le_refl _) (fun o ho hb => ?_) (fun o ho => .inl ho)
      rw [get_set_ne (fun e => hb (.inl e.symm))]
  by_cases hlt : 0 ≤ at_
  · obtain ⟨a0, rfl⟩ : ∃ a0, a1 = a0 + 1 := ⟨a1 - 1, by omega⟩
    obtain ⟨p, hp⟩ : ∃ p, T.items[a0]? = some p := ⟨_, List.getElem?_eq_getElem (by omega)⟩
    have hsl := r.pl.sl (c := cfgR ro)
    have hel : ((ptrsOf T.items).map fun e => [e])[a0]? = some [.ptr p.1 0] := by simp [ptrsOf, hp]
    have hix : indexAddrR Try.prog 28 pv (.int .i64 at_) = .ok (elp pv 1 a0) := by
      rw [show at_ = ((a0 : Nat) : Int) by omega]
      exact hsl.idx un28 sz24 (by simp [ptrsOf]; omega)
    have hld : loadR (cfgR ro) h 24 (elp pv 1 a0) = .ok (.ptr p.1 0) := hsl.load1 hel rfl ag24
    simp -implicitDefEqProofs [hlt, hrow, hix, hld]
    refine tail _ _ (.inr ⟨T.items.take a0, p.1, p.2, ?_, rfl⟩)
    rw [List.take_succ, hp]; rfl
  · simp -implicitDefEqProofs [hlt]
    refine tail _ _ (.inl ⟨?_, rfl⟩)
    rw [show a1 = 0 by omega]; rfl
end
end Go.Proofs.Ytbnlhhfobgjeaaa
set_option linter.all false
set_option maxRecDepth 100000
set_option maxHeartbeats 4000000
namespace Go.Proofs.Ytbnlhhfobgjeaaa
open Go Go.RowKit Go.Proofs
theorem RpO.of {h0 h h1 : AHeap} {rr : Nat} {T T1 : Rt Str} (R : RpO h0 h rr T) (R1 : Rp h1 rr T1) (hids : ∀ o ∈ T1.ids, o ∈ T.ids) (hk : ∀ o, o ≠ rr → o ∉ T.ids → h1.get o = h.get o) (hn : h.next ≤ h1.next) : RpO h0 h1 rr T1 := by
  refine ⟨R1, R.lo, fun o ho => R.los o (hids o ho), Nat.le_trans R.old.1 hn, fun o ho => ?_⟩
  rw [hk o (fun e => by have := R.lo; omega) (fun hm => by have := R.los o hm; omega), R.old.2 o ho]
section
variable {ro : Nat → Option (List AVal)}
/-- the middle of setting and removing: the places and the list written anew -/
theorem RowOk.kept {h0 h h1 : AHeap} {w rr : Nat} {T : Rt Str} {pv sv : AVal} (r : RowOk h0 h w rr T pv sv) (hk : ∀ o, o ≠ rr → o ∉ T.ids → h1.get o = h.get o) (hn : h1.next = h.next) :
    h1.get w = some (.row 0 false [.ptr rr 0, pv, sv]) ∧ w < h1.next ∧ Plc h1 pv (ptrsOf T.items) (badR w rr T) ∧ Plc h1 sv (strsOf T.items) (badR w rr T) := by
  have kk : ∀ o, o < h.next → ¬ badR w rr T o → h1.get o = h.get o := fun o ho hb => hk o (fun e => hb (.inr (.inl e))) (fun e => hb (.inr (.inr e)))
  refine ⟨by rw [hk w r.w2 r.w3]; exact r.row, by rw [hn]; exact r.w1, r.pl.keep (by omega) kk (fun o ho => .inl ho), r.st.keep (by omega) kk (fun o ho => .inl ho)⟩
theorem do15 {h0 h : AHeap} {w rr : Nat} {T : Rt Str} {pv sv : AVal} {o : OpS} (r : RowOk h0 h w rr T pv sv) (hos : o.s.length ≤ 20)
    (hfit : T.items.length + 1 < 2 ^ 30 ∧ T.tx.length + 20 < 2 ^ 59) {Q : AVal → AHeap → Prop}
    (hq : ∀ h' T' pv' sv', RowOk h0 h' w rr T' pv' sv' → T'.items.length ≤ T.items.length + 1 → T'.tx.length ≤ T.tx.length + 20 → Q (.bool true) h') :
    Ev (cfgR ro) 15 [.ptr w 0, .agg o.cells] h Q := by
  refine Ev.wp rfl rfl Try.func15 rfl ?_
  have hrow := r.row
  obtain ⟨k, p, s⟩ := o
  simp only at hos
  have hlen : lenR (cfgR ro) h 28 pv = .ok (.int .i64 T.items.length) := by
    have := (r.pl.sl (c := cfgR ro)).lenR (t := 28) un28
    simpa [ptrsOf] using this
  have same : Q (.bool true) h := hq h T pv sv r (by omega) (by omega)
  by_cases hk1 : k = 1
  · by_cases hp1 : -1 ≤ p
    · by_cases hp2 : p < (T.items.length : Int)
      · simp -implicitDefEqProofs [Try.f15, OpS.cells, hk1, hp1, hp2, hrow, hlen]
        refine put28 r (a1 := (p + 1).toNat) (by omega) (by omega) (by omega) (fun h' T' pv' sv' r' e1 e2 => ?_)
        simp -implicitDefEqProofs
        exact hq h' T' pv' sv' r' (by omega) (by omega)
      · have hp0 : ¬ p < 0 := by omega
        have hp3 : (T.items.length : Int) ≤ p := by omega
        simp -implicitDefEqProofs [Try.f15, OpS.cells, hk1, hp1, hp2, hrow, hlen, hp0, hp3]
        exact same
    · have hp0 : p < 0 := by omega
      simp -implicitDefEqProofs [Try.f15, OpS.cells, hk1, hp1, hrow, hlen, hp0]
      exact same
  by_cases hp0 : p < 0
  · simp -implicitDefEqProofs [Try.f15, OpS.cells, hk1, hrow, hlen, hp0]
    exact same
  by_cases hp3 : (T.items.length : Int) ≤ p
  · simp -implicitDefEqProofs [Try.f15, OpS.cells, hk1, hrow, hlen, hp0, hp3]
    exact same
  obtain ⟨a0, rfl⟩ : ∃ a0 : Nat, p = a0 := ⟨p.toNat, by omega⟩
  have ha0 : a0 < T.items.length := by omega
  obtain ⟨⟨a, y⟩, hp⟩ : ∃ p, T.items[a0]? = some p := ⟨_, List.getElem?_eq_getElem (by omega)⟩
  have hsl := r.pl.sl (c := cfgR ro)
  have hel : ((ptrsOf T.items).map fun e => [e])[a0]? = some [.ptr a 0] := by simp [ptrsOf, hp]
  have hix : indexAddrR Try.prog 28 pv (.int .i64 (a0 : Int)) = .ok (elp pv 1 a0) := hsl.idx un28 sz24 (by simp [ptrsOf]; omega)
  have hld : loadR (cfgR ro) h 24 (elp pv 1 a0) = .ok (.ptr a 0) := hsl.load1 hel rfl ag24
  have hT : T.items = T.items.take a0 ++ (a, y) :: T.items.drop (a0 + 1) := by
    have h1 : T.items[a0] = (a, y) := by rw [List.getElem?_eq_getElem ha0] at hp; exact Option.some.inj hp
    rw [← h1, ← List.drop_eq_getElem_cons ha0, List.take_append_drop]
  have eT : T.tx = txs (T.items.take a0) ++ (y ++ txs (T.items.drop (a0 + 1))) := by rw [tx_items hT, txs_append]; simp [txs]
  have eTl := congrArg List.length eT
  simp only [List.length_append] at eTl
  by_cases hk2 : k = 2
  · simp -implicitDefEqProofs [Try.f15, OpS.cells, hk2, hrow, hlen, hp0, hp3, hix, hld]
    refine set29 r.R.rp hT ⟨by omega, by omega⟩ (fun h1 T1 R1 i1 k1 n1 => ?_)
    obtain ⟨hw1, hwl, pl1, st1⟩ := r.kept (fun o _ ho => k1 o ho) n1
    have hld1 : loadR (cfgR ro) h1 24 (elp pv 1 a0) = .ok (.ptr a 0) := (pl1.sl (c := cfgR ro)).load1 hel rfl ag24
    have hwant : Strs (cfgR ro) h1 sv (T.items.map (·.2)) := by
      have := st1.sl (c := cfgR ro)
      rw [strs_of] at this
      exact this
    simp -implicitDefEqProofs [hw1, hld1, same_self]
    refine lset30 hwant (by simp; omega) (by simpa using ha0) (fun sv' h8 m8 o8 => ?_)
    have hw8 : h8.get w = some (.row 0 false [.ptr rr 0, pv, sv]) := by rw [o8.2 w hwl]; exact hw1
    have hs8 := m8.cells
    simp -implicitDefEqProofs [hw8, hs8, same_self]
    have hids : T1.ids = T.ids := by unfold Rt.ids; rw [i1]; (conv => rhs; rw [hT]); simp only [List.map_append, List.map_cons]
    have eT1 : T1.tx = txs (T.items.take a0) ++ (s ++ txs (T.items.drop (a0 + 1))) := by rw [tx_items i1, txs_append]; simp [txs]
    have eTl1 := congrArg List.length eT1
    simp only [List.length_append] at eTl1
    have hil : T1.items.length = T.items.length := by rw [i1, List.length_append, List.length_cons, List.length_take, List.length_drop]; omega
    have hgo : RowOk h0 (h8.set w (.row 0 false [.ptr rr 0, pv, sv'])) w rr T1 pv sv' := by
      have hbad : ∀ o, badR w rr T1 o ↔ badR w rr T o := fun o => by unfold badR; rw [hids]
      have R1' : RpO h0 h1 rr T1 := r.R.of R1 (fun o ho => by rw [← hids]; exact ho) (fun o _ ho => k1 o ho) (by omega)
      refine RowOk.write (h := h1) R1' r.w0 hwl r.w2 (by rw [hids]; exact r.w3) o8.1 (fun o ho hne => ?_) (get_set_self _ _ _) ?_ ?_
      · rw [get_set_ne (Ne.symm hne), o8.2 o ho]
      · have he : ptrsOf T1.items = ptrsOf T.items := by rw [i1]; (conv => rhs; rw [hT]); simp only [ptrsOf, List.map_append, List.map_cons]
        rw [he]
        refine pl1.keep o8.1 (fun o ho hb => ?_) (fun o ho => .inl ((hbad o).1 ho))
        rw [get_set_ne (fun e => hb (.inl e.symm)), o8.2 o ho]
      · have he : strs ((T.items.map (·.2)).take a0 ++ s :: (T.items.map (·.2)).drop (a0 + 1)) = (strsOf T1.items).map fun e => [e] := by
          rw [strs_of, i1]; simp [List.map_take, List.map_drop]
        rw [he] at m8
        have : Plc h8 sv' (strsOf T1.items) (badR w rr T1) := m8.plc (fun o ho => by
          rcases ho with rfl | rfl | ho
          · exact hwl
          · exact R1.lr
          · exact R1.lt o ho)
        refine this.keep (Nat.le_refl _) (fun o ho hb => ?_) (fun o ho => .inl ho)
        rw [get_set_ne (fun e => hb (.inl e.symm))]
    exact ⟨.inl (by decide +kernel), hq _ T1 pv sv' hgo (by omega) (by omega)⟩
  by_cases hk3 : k = 3
  · simp -implicitDefEqProofs [Try.f15, OpS.cells, hk1, hk2, hk3, hrow, hlen, hp0, hp3, hix, hld]
    refine remove31 r.R.rp hT ⟨by omega, by omega⟩ (fun h1 T1 R1 i1 k1 n1 => ?_)
    obtain ⟨hw1, hwl, pl1, st1⟩ := r.kept k1 n1
    have hld1 : loadR (cfgR ro) h1 24 (elp pv 1 a0) = .ok (.ptr a 0) := (pl1.sl (c := cfgR ro)).load1 hel rfl ag24
    obtain ⟨es, hes⟩ : ∃ es, es = (ptrsOf T.items).map fun e => [e] := ⟨_, rfl⟩
    have esl : es.length = T.items.length := by rw [hes]; simp [ptrsOf]
    have ez : ∀ e ∈ es, e.length = 1 := by rw [hes]; simp
    have sl1 : Sl (cfgR ro) h1 1 pv es := by rw [hes]; exact pl1.sl
    have nsl := r.pl.notSlc
    obtain ⟨a5, ha5⟩ : ∃ a5, a5 = a0 + 1 := ⟨_, rfl⟩
    have hwr : IntKind.i64.wrap ((a0 : Int) + 1) = (a5 : Int) := by rw [w64 (by omega) (by omega)]; omega
    obtain ⟨h2, hh2⟩ : ∃ h2, h2 = h1.push (.row 1 false []) := ⟨_, rfl⟩
    have o2 : Old h1 h2 := by rw [hh2]; exact (Old.refl h1).push _
    have m2 : Mine h1 h2 1 [] (.sl h1.next 0 0) := ⟨by simp, .inr ⟨h1.next, false, rfl, Nat.le_refl _, by rw [hh2]; simp, by rw [hh2, get_push_next]; rfl⟩⟩
    have hw2 : h2.get w = some (.row 0 false [.ptr rr 0, pv, sv]) := by rw [o2.2 w hwl]; exact hw1
    have ⟨c1, _, _⟩ := sl1.upto (by decide) nsl (at_ := a0) (by omega) .i64
    have ⟨c2, s2, _⟩ := (sl1.old o2).upto (by decide) nsl (at_ := a0) (by omega) .i64
    obtain ⟨e1, he1⟩ : ∃ e1, e1 = es.take a0 := ⟨_, rfl⟩
    rw [← he1] at s2
    have el1 : e1.length = a0 := by rw [he1, List.length_take]; omega
    have ez1 : ∀ e ∈ e1, e.length = 1 := fun e he => ez e (List.mem_of_mem_take (by rw [← he1]; exact he))
    obtain ⟨p1, h3, a3, m3, o3⟩ := m2.append (bytes := 8) (by decide) ez1 (by simp; omega) o2
    rw [List.nil_append] at m3
    have ⟨c3, s3, _⟩ := (sl1.old o3).from_ (by decide) nsl (at_ := a5) (by omega) .i64
    have ⟨c1', _, _⟩ := sl1.from_ (by decide) nsl (at_ := a5) (by omega) .i64
    have ⟨c2', _, _⟩ := (sl1.old o2).from_ (by decide) nsl (at_ := a5) (by omega) .i64
    have ⟨c3', _, _⟩ := (sl1.old o3).upto (by decide) nsl (at_ := a0) (by omega) .i64
    obtain ⟨e5, he5⟩ : ∃ e5, e5 = es.drop a5 := ⟨_, rfl⟩
    rw [← he5] at s3
    have el5 : e5.length = T.items.length - a5 := by rw [he5, List.length_drop]; omega
    have ez5 : ∀ e ∈ e5, e.length = 1 := fun e he => ez e (List.mem_of_mem_drop (by rw [← he5]; exact he))
    obtain ⟨p3, h6, a6, m6, o6⟩ := m3.append (bytes := 8) (by decide) ez5 (by omega) o3
    have hw3 : h3.get w = some (.row 0 false [.ptr rr 0, pv, sv]) := by rw [o3.2 w hwl]; exact hw1
    have hw6 : h6.get w = some (.row 0 false [.ptr rr 0, pv, sv]) := by rw [o6.2 w hwl]; exact hw1
    have ⟨c6, _, _⟩ := (sl1.old o6).from_ (by decide) nsl (at_ := a5) (by omega) .i64
    have ⟨c6', _, _⟩ := (sl1.old o6).upto (by decide) nsl (at_ := a0) (by omega) .i64
    have hp3 := m6.cells
    obtain ⟨h7, hh7⟩ : ∃ h7, h7 = h6.set w (.row 0 false [.ptr rr 0, p3, sv]) := ⟨_, rfl⟩
    have hw7 : h7.get w = some (.row 0 false [.ptr rr 0, p3, sv]) := by rw [hh7, get_set_self]
    have k7 : ∀ o, o < h1.next → o ≠ w → h7.get o = h1.get o := fun o ho hne => by rw [hh7, get_set_ne (Ne.symm hne), o6.2 o ho]
    have n7 : h1.next ≤ h7.next := by rw [hh7]; exact o6.1
    have st7 : Plc h7 sv (strsOf T.items) (badR w rr T) := st1.keep n7 (fun o ho hb => k7 o ho (fun e => hb (.inl e))) (fun o ho => .inl ho)
    simp -implicitDefEqProofs [hw1, hld1, same_self, buildSliceR, reps, ← hh2, hw2, hw3, hwr, c1, c2, c3, c1', c2', c3', c6, c6', s2.len, s2.read, s3.len, s3.read, a3, a6, hw6, hp3, same_self]
    refine ⟨⟨.inl (by decide +kernel), .inl (by decide +kernel), .inl (by decide +kernel), .inl (by decide +kernel)⟩, ?_⟩
    rw [← hh7]
    have hwant : Strs (cfgR ro) h7 sv (T.items.map (·.2)) := by
      have := st7.sl (c := cfgR ro)
      rw [strs_of] at this
      exact this
    refine lremove32 hwant st7.notSlc (by simp; omega) (by simpa using ha0) (fun sv' h8 m8 o8 => ?_)
    have hw8 : h8.get w = some (.row 0 false [.ptr rr 0, p3, sv]) := by rw [o8.2 w (Nat.lt_of_lt_of_le hwl n7)]; exact hw7
    have hs8 := m8.cells
    simp -implicitDefEqProofs [hw7, hw8, hs8, same_self]
    have hids : ∀ o ∈ T1.ids, o ∈ T.ids := by
      intro o ho
      unfold Rt.ids at ho ⊢
      rw [i1] at ho
      rw [hT]
      simp only [List.map_append, List.map_cons, List.mem_append, List.mem_cons] at ho ⊢
      rcases ho with h9 | h9
      · exact .inl h9
      · exact .inr (.inr h9)
    have eT1 : T1.tx = txs (T.items.take a0) ++ txs (T.items.drop (a0 + 1)) := by rw [tx_items i1, txs_append]
    have eTl1 := congrArg List.length eT1
    simp only [List.length_append] at eTl1
    have hil : T1.items.length < T.items.length := by rw [i1, List.length_append, List.length_take, List.length_drop]; omega
    have hgo : RowOk h0 (h8.set w (.row 0 false [.ptr rr 0, p3, sv'])) w rr T1 p3 sv' := by
      have R1' : RpO h0 h1 rr T1 := r.R.of R1 hids k1 (by omega)
      have hbad : ∀ o, badR w rr T1 o → o < h1.next := by
        rintro o (rfl | rfl | h9)
        · exact hwl
        · exact R1.lr
        · exact R1.lt o h9
      refine RowOk.write (h := h1) R1' r.w0 hwl r.w2 (fun hm => r.w3 (hids _ hm)) (Nat.le_trans n7 o8.1) (fun o ho hne => ?_) (get_set_self _ _ _) ?_ ?_
      · rw [get_set_ne (Ne.symm hne), o8.2 o (Nat.lt_of_lt_of_le ho n7), k7 o ho hne]
      · have he : e1 ++ e5 = (ptrsOf T1.items).map fun e => [e] := by
          rw [he1, he5, hes, i1, ha5]; simp [ptrsOf, List.map_take, List.map_drop]
        rw [he] at m6
        have : Plc h6 p3 (ptrsOf T1.items) (badR w rr T1) := m6.plc hbad
        refine this.keep (by have := o8.1; rw [hh7] at this; exact this) (fun o ho hb => ?_) (fun o ho => .inl ho)
        have hne : o ≠ w := fun e => hb (.inl e)
        rw [get_set_ne (Ne.symm hne), o8.2 o (by rw [hh7]; exact ho), hh7, get_set_ne (Ne.symm hne)]
      · have he : strs ((T.items.map (·.2)).take a0 ++ (T.items.map (·.2)).drop (a0 + 1)) = (strsOf T1.items).map fun e => [e] := by
          rw [strs_of, i1]; simp [List.map_take, List.map_drop]
        rw [he] at m8
        have : Plc h8 sv' (strsOf T1.items) (badR w rr T1) := m8.plc (fun o ho => Nat.lt_of_lt_of_le (hbad o ho) n7)
        refine this.keep (Nat.le_refl _) (fun o ho hb => ?_) (fun o ho => .inl ho)
        rw [get_set_ne (fun e => hb (.inl e.symm))]
    exact ⟨.inl (by decide +kernel), hq _ T1 p3 sv' hgo (by omega) (by omega)⟩
  simp -implicitDefEqProofs [Try.f15, OpS.cells, hk1, hk2, hk3, hrow, hlen, hp0, hp3]
  exact same
end
end Go.Proofs.Ytbnlhhfobgjeaaa
set_option linter.all false
set_option maxRecDepth 100000
set_option maxHeartbeats 4000000
namespace Go.Proofs.Ytbnlhhfobgjeaaa
open Go Go.RowKit Go.Proofs
theorem take_mono (l : List Str) {i j : Nat} (h : i ≤ j) : (l.take i).flatten.length ≤ (l.take j).flatten.length := by
  have : l.take j = l.take i ++ (l.take j).drop i := by
    conv => lhs; rw [← List.take_append_drop i (l.take j)]
    rw [List.take_take, Nat.min_eq_left h]
  rw [this, List.flatten_append, List.length_append]; omega
section
variable {ro : Nat → Option (List AVal)}
theorem finds4 {h : AHeap} {v : AVal} {l : List OpS} {b : Int} (hv : OpsAt (cfgR ro) h v l) (hn : l.length < 2 ^ 63) {Q : AVal → AHeap → Prop}
    (hq : ∀ h', Old h h' → Q (.bool true) h') : Ev (cfgR ro) 4 [v, .int .i64 b] h Q := by
  refine Ev.wp rfl rfl Try.func4 rfl ?_
  simp -implicitDefEqProofs [Try.f4]
  obtain ⟨q0, hq0⟩ : ∃ q0, q0 = h.next := ⟨_, rfl⟩
  rw [← hq0]
  refine anchor6 (fun h1 k1 => ?_)
  have k01 : Old h h1 := ((Old.refl h).push _).trans k1
  have hb1 : h1.get q0 = some (.row 0 false [.int .i64 b]) := by rw [hq0, k1.2 h.next (by simp), get_push_next]
  have hq1 : q0 < h1.next := by rw [hq0]; have := k1.1; simp at this; omega
  have hv1 : OpsAt (cfgR ro) h1 v l := hv.old k01
  simp -implicitDefEqProofs
  refine small14 hv1 hn (fun hs1 hs2 => ?_) ?_
  rotate_left
  · simp -implicitDefEqProofs
    exact hq h1 k01
  by_cases hb : b < 1
  · simp -implicitDefEqProofs [hb1, hb]
    exact hq h1 k01
  have hL : ∀ h', Old h1 h' → lenR (cfgR ro) h' 39 v = .ok (.int .i64 l.length) := fun h' o => by have := (Sl.old hv1 o).lenR (t := 39) un39; simpa using this
  have hX : ∀ i : Nat, i < l.length → indexAddrR Try.prog 39 v (.int .i64 (i : Int)) = .ok (elp v 3 i) := fun i hi => hv.idx un39 sz46 (by simpa using hi)
  have hA : ∀ h', Old h1 h' → ∀ i (hi : i < l.length), loadR (cfgR ro) h' 46 (elp v 3 i) = .ok (.agg l[i].cells) := fun h' o i hi => (Sl.old hv1 o).load (by simp [hi]) ag46 sz46
  obtain ⟨rr, hrr⟩ : ∃ rr, rr = h1.next := ⟨_, rfl⟩
  have hr0 : RpO h1 (h1.push (.row 0 false [.nilp, .int .u64 0])) rr .nil := by rw [hrr]; exact new27 (Old.refl h1)
  obtain ⟨h2, hh2⟩ : ∃ h2, h2 = h1.push (.row 0 false [.nilp, .int .u64 0]) := ⟨_, rfl⟩
  rw [← hh2] at hr0
  obtain ⟨w, hw⟩ : ∃ w, w = h2.next := ⟨_, rfl⟩
  have hrow0 : RowOk h1 (h2.push (.row 0 false [.ptr rr 0, .nils, .nils])) w rr .nil .nils .nils := by
    refine ⟨by rw [hw, get_push_next], hr0.keep (by simp) (fun o ho => ?_), ?_, by rw [hw]; simp, ?_, by simp [Rt.ids, Rt.items], .inl ⟨rfl, rfl⟩, .inl ⟨rfl, rfl⟩⟩
    · have h3 := hr0.old.1
      have h4 := hr0.rp.lr
      rw [AHeap.get_push, if_neg (by rcases ho with rfl | h5 | h5; omega; simp [Rt.ids, Rt.items] at h5; omega)]
    · rw [hw]; exact hr0.old.1
    · have := hr0.rp.lr; omega
  simp -implicitDefEqProofs [hb1, hb, ← hrr, ← hh2, ← hw, hL _ hrow0.R.old]
  obtain ⟨I, hI⟩ : ∃ I : Nat → List AVal → AHeap → Prop, I = fun m env h' => ∃ (i : Nat) (T : Rt Str) (pv sv : AVal), m + i = l.length ∧ RowOk h1 h' w rr T pv sv ∧ T.items.length ≤ i ∧ T.tx.length ≤ 20 * i ∧
      env = (.dead :: .dead :: .dead :: .ptr q0 0 :: .dead :: .ptr w 0 :: .dead :: .dead :: .dead :: .dead :: .dead :: .dead :: .dead :: .dead :: .dead :: .dead :: .dead :: .dead :: .dead :: .dead :: .dead :: .dead :: .dead :: .dead :: v :: .int .i64 (l.length : Nat) :: .int .i64 (i : Nat) :: .dead :: .dead :: .dead :: .dead :: .dead :: .dead :: .dead :: .dead :: .dead :: .dead :: .dead :: .dead :: .dead :: .dead :: .dead :: .dead :: .dead :: .dead :: .dead :: .dead :: .dead :: .dead :: .dead :: .dead :: .dead :: .dead :: .dead :: .dead :: .dead :: .dead :: .dead :: .dead :: .dead :: .dead :: .dead :: .dead :: .dead :: .dead :: .dead :: .dead :: .dead :: .dead :: .dead :: .dead :: .dead :: .dead :: .dead :: .dead :: .dead :: .dead :: .dead :: .dead :: .dead :: .dead :: .dead :: .dead :: .dead :: .dead :: []) := ⟨_, rfl⟩
  refine loop_of I ?_ l.length (by rw [hI]; exact ⟨0, .nil, .nils, .nils, rfl, hrow0, by simp [Rt.items], by simp [Rt.tx, Rt.items], rfl⟩)
  intro m env h' hi
  rw [hI] at hi
  obtain ⟨i, T, pv, sv, hm, R, hT1, hT2, rfl⟩ := hi
  by_cases hlt : i < l.length
  · have hA' := hA h' R.R.old i hlt
    rw [OpS.cells] at hA'
    simp -implicitDefEqProofs [hlt, hX i hlt, hA']
    refine do15 (o := l[i]) R (hs2 _ (List.getElem_mem hlt)) ⟨by omega, by omega⟩ (fun h3 T' pv' sv' R' e1 e2 => ?_)
    have w1 : IntKind.i64.wrap ((i : Int) + 1) = ((i + 1 : Nat) : Int) := by rw [w64 (by omega) (by omega)]; push_cast; rfl
    simp -implicitDefEqProofs [w1]
    exact .mk (m := m - 1) (by omega) (by rw [hI]; exact ⟨i + 1, T', pv', sv', by omega, R', by omega, by omega, by simp⟩)
  have hbq : h'.get q0 = some (.row 0 false [.int .i64 b]) := by rw [R.R.old.2 q0 hq1]; exact hb1
  have hrow := R.row
  have hst : Strs (cfgR ro) h' sv (T.items.map (·.2)) := R.strs
  obtain ⟨W, hW⟩ : ∃ W, W = T.items.map (·.2) := ⟨_, rfl⟩
  have hWt : W.flatten = T.tx := by rw [hW]; rfl
  have hWl : W.length = T.items.length := by rw [hW]; simp
  rw [← hW] at hst
  have ok : Old h h' := k01.trans R.R.old
  simp -implicitDefEqProofs [hlt, hrow]
  refine find16 R.R.rp (by omega) (by omega) hbq (fun hf => ?_) (fun L1 a y L2 f1 f2 f3 => ?_)
  · simp -implicitDefEqProofs [hrow, hbq]
    refine find18 hst (by omega) (by rw [hWt]; omega) (by omega) (fun j j1 j2 j3 => ?_) (fun _ => ?_)
    · exfalso
      have := take_mono W (i := j + 1) (j := W.length) (by omega)
      rw [List.take_length, hWt] at this
      omega
    · simp -implicitDefEqProofs [hrow, hbq, same_self]
      refine join19 hst (by omega) (by rw [hWt]; omega) ?_
      simp -implicitDefEqProofs [hWt, hrow, same_self]
      exact hq h' ok
  · simp -implicitDefEqProofs [hrow, hbq]
    have tk : ∀ j, j = L1.length → (W.take j).flatten = txs L1 := by
      rintro j rfl
      rw [hW, f1, List.map_append, List.take_left' (by simp)]; rfl
    have tk1 : ∀ j, j = L1.length → (W.take (j + 1)).flatten = txs L1 ++ y := by
      rintro j rfl
      rw [hW, f1, show L1 ++ (a, y) :: L2 = (L1 ++ [(a, y)]) ++ L2 by simp, List.map_append, List.take_left' (by simp)]; simp [txs]
    have hl1 : L1.length < W.length := by rw [hWl, f1]; simp
    refine find18 hst (by omega) (by rw [hWt]; omega) (by omega) (fun j j1 j2 j3 => ?_) (fun hh => ?_)
    · have hj : j = L1.length := by
        rcases Nat.lt_trichotomy j L1.length with h9 | h9 | h9
        · have := take_mono W (i := j + 1) (j := L1.length) h9
          rw [tk _ rfl] at this; omega
        · exact h9
        · have := take_mono W (i := L1.length + 1) (j := j) h9
          rw [tk1 _ rfl, List.length_append] at this; omega
      have hpl : ((ptrsOf T.items).map fun e => [e])[j]? = some [.ptr a 0] := by rw [hj, f1]; simp [ptrsOf]
      have hix : indexAddrR Try.prog 28 pv (.int .i64 (j : Int)) = .ok (elp pv 1 j) := (R.pl.sl (c := cfgR ro)).idx un28 sz24 (by simp [ptrsOf]; omega)
      have hld : loadR (cfgR ro) h' 24 (elp pv 1 j) = .ok (.ptr a 0) := (R.pl.sl (c := cfgR ro)).load1 hpl rfl ag24
      have ⟨c1, s1, _⟩ := Sl.upto (es := W.map fun s => [.str s]) hst (by decide) R.st.notSlc (at_ := j) (by simp; omega) .i64
      have hst2 : Strs (cfgR ro) h' (cutV sv 1 0 j) (W.take j) := by unfold Strs; rw [List.map_take]; exact s1
      have hj0 : ¬ ((j : Int) < 0) := by omega
      simp -implicitDefEqProofs [hrow, hix, hld, ptrEq_self, c1, hj0, hbq, same_self]
      refine join19 hst2 (by simp; omega) ?_ ?_
      · have := take_mono W (i := j) (j := W.length) (by omega)
        rw [List.take_length, hWt] at this; omega
      · rw [tk j hj]
        simp -implicitDefEqProofs [hrow, hix, hld, ptrEq_self, c1, same_self]
        exact hq h' ok
    · exfalso
      rw [hWt] at hh
      have := take_mono W (i := L1.length + 1) (j := W.length) (by omega)
      rw [List.take_length, hWt, tk1 _ rfl, List.length_append] at this; omega
end
end Go.Proofs.Ytbnlhhfobgjeaaa
