/-
  A part of the proof of RopeRows, over the seat Ytbnlhhfobgjeaaa: for every input the law returns true, and the input reads as it did.
-/
import Derived.Test.YtbnlhhfobgjeaaaR2K
set_option linter.all false
set_option maxRecDepth 100000
set_option maxHeartbeats 4000000
namespace Go.Proofs.Ytbnlhhfobgjeaaa
open Go Go.RowKit Go.Proofs
section
variable {ro : Nat → Option (List AVal)}
def lastOf (L : List (Nat × Str)) : AVal := match L.getLast? with
  | none => .nilp
  | some p => .ptr p.1 0
def esOf (b : Bool) (P : List (Nat × Str)) : List AVal := (if b then P.reverse else P).map fun p => .ptr p.1 0
def badOf (h0 : AHeap) (rr : Nat) (t : Rt Str) (o : Nat) : Prop := o < h0.next ∨ o = rr ∨ o ∈ t.ids
theorem rows3 {h : AHeap} {n : Int} {back : Bool} {Q : AVal → AHeap → Prop} (hq : ∀ h', Old h h' → Q (.bool true) h') : Ev (cfgR ro) 3 [.int .i64 n, .bool back] h Q := by
  refine Ev.wp rfl rfl Try.func3 rfl ?_
  simp -implicitDefEqProofs [Try.f3]
  refine anchor6 (fun h1 k1 => ?_)
  by_cases hn1 : n < 1
  · simp -implicitDefEqProofs [hn1]
    exact hq h1 k1
  by_cases hn2 : 2000 < n
  · simp -implicitDefEqProofs [hn1, hn2]
    exact hq h1 k1
  simp -implicitDefEqProofs [hn1, hn2]
  obtain ⟨N, rfl⟩ : ∃ N : Nat, n = N := ⟨n.toNat, by omega⟩
  obtain ⟨rr, hrr⟩ : ∃ rr, rr = h1.next := ⟨_, rfl⟩
  obtain ⟨I, hI⟩ : ∃ I : Nat → List AVal → AHeap → Prop, I = fun m env h' => ∃ (i : Nat) (t : Rt Str) (v : AVal) (P : List (Nat × Str)) (z : AVal), m + i = N ∧ RpO h h' rr t ∧ t.items = P ∧ P.length = i ∧ (∀ p ∈ P, p.2 = [97]) ∧ Plc h' v (esOf back P) (badOf h rr t) ∧
      env = (.int .i64 (N : Nat) :: .bool back :: .dead :: .dead :: .dead :: .ptr rr 0 :: (if back then .nilp else lastOf P) :: v :: .dead :: .dead :: .dead :: .dead :: .dead :: .dead :: .dead :: .dead :: .dead :: .dead :: .dead :: .dead :: .dead :: .dead :: .int .i64 (N : Nat) :: .int .i64 (i : Nat) :: z :: .dead :: .dead :: .dead :: .dead :: .dead :: .dead :: .dead :: .dead :: .dead :: .dead :: .dead :: .dead :: .dead :: .dead :: .dead :: .dead :: .dead :: .dead :: .dead :: .dead :: .dead :: .dead :: .dead :: .dead :: .dead :: .dead :: .dead :: .dead :: .dead :: .dead :: .dead :: .dead :: .dead :: .dead :: .dead :: .dead :: .dead :: .dead :: .dead :: .dead :: .dead :: .dead :: .dead :: .dead :: .dead :: .dead :: .dead :: .dead :: .dead :: .dead :: .dead :: .dead :: .dead :: .dead :: .dead :: .dead :: .dead :: .dead :: .dead :: .dead :: .dead :: .dead :: .dead :: .dead :: .dead :: .dead :: .dead :: .dead :: .dead :: .dead :: []) := ⟨_, rfl⟩
  refine loop_of I ?_ N (by rw [hI, hrr]; exact ⟨0, .nil, .nils, [], .dead, rfl, new27 k1, rfl, rfl, by simp, .inl ⟨by cases back <;> rfl, rfl⟩, by cases back <;> rfl⟩)
  intro m env h' hi
  rw [hI] at hi
  obtain ⟨i, t, v, P, z, hm, R, hP, hl, ha, hv, rfl⟩ := hi
  have htx : ∀ P : List (Nat × Str), (∀ p ∈ P, p.2 = [97]) → (txs P).length = P.length := by
    intro P
    induction P with
    | nil => intro _; rfl
    | cons p P ih =>
      intro ha
      have := ih (fun q hq => ha q (by simp [hq]))
      have h2 := ha p (by simp)
      simp only [txs, List.map_cons, List.flatten_cons, List.length_append, List.length_cons] at this ⊢
      rw [this, h2]; simp; omega
  by_cases hlt : i < N
  · simp -implicitDefEqProofs [hlt]
    have haft : ((if back then ([] : List (Nat × Str)) else P) = [] ∧ (if back then AVal.nilp else lastOf P) = .nilp) ∨ ∃ L0 a y, (if back then ([] : List (Nat × Str)) else P) = L0 ++ [(a, y)] ∧ (if back then AVal.nilp else lastOf P) = .ptr a 0 := by
      cases back with
      | true => exact .inl ⟨rfl, rfl⟩
      | false =>
        rcases List.eq_nil_or_concat P with rfl | ⟨L0, ⟨a, y⟩, rfl⟩
        · exact .inl ⟨rfl, rfl⟩
        · refine .inr ⟨L0, a, y, by simp, ?_⟩
          simp [lastOf]
    refine putO (L1 := if back then [] else P) (L2 := if back then P else []) R (by cases back <;> simp [hP]) ?_ haft (fun q h2 t2 r2 i2 n2 k2 m2 => ?_)
    · rw [tx_items hP, htx P ha, hP, hl]; simp; omega
    obtain ⟨P2, hP2⟩ : ∃ P2, P2 = (if back then [] else P) ++ (q, [97]) :: (if back then P else []) := ⟨_, rfl⟩
    rw [← hP2] at i2
    have hl2 : P2.length = i + 1 := by rw [hP2]; cases back <;> simp [hl]
    have ha2 : ∀ p ∈ P2, p.2 = [97] := by
      intro p hp
      rw [hP2] at hp
      cases back <;> simp at hp <;> rcases hp with h5 | h5
      · exact ha p h5
      · rw [h5]
      · rw [h5]
      · exact ha p h5
    have hes : esOf back P ++ [.ptr q 0] = esOf back P2 := by
      rw [hP2]
      cases back <;> simp [esOf]
    have hlast : (if back then AVal.nilp else .ptr q 0) = (if back then .nilp else lastOf P2) := by
      rw [hP2]
      cases back <;> simp [lastOf]
    have hbad : ∀ o, badOf h rr t2 o → badOf h rr t o ∨ h'.next ≤ o := by
      intro o ho
      rcases ho with ho | rfl | ho
      · exact .inl (.inl ho)
      · exact .inl (.inr (.inl rfl))
      · unfold badOf Rt.ids at *
        rw [i2, hP2] at ho
        rw [hP]
        cases back <;> simp at ho ⊢ <;> rcases ho with h5 | h5
        · exact .inl (.inr (.inr h5))
        · exact .inr (by rw [h5]; exact n2)
        · exact .inr (by rw [h5]; exact n2)
        · exact .inl (.inr (.inr h5))
    have hv2 : Plc h2 v (esOf back P) (badOf h rr t2) := hv.keep m2 (fun o h5 h6 => k2 o h5 (fun e => h6 (.inr (.inl e))) (fun e => h6 (.inr (.inr e)))) hbad
    have hlt2 : ∀ o, badOf h rr t2 o → o < h2.next := by
      rintro o (h5 | rfl | h5)
      · exact Nat.lt_of_lt_of_le h5 r2.old.1
      · exact r2.rp.lr
      · exact r2.rp.lt o h5
    have hv3 : Plc (h2.push (.row 1 false [.ptr q 0])) v (esOf back P) (badOf h rr t2) := hv2.keep (by simp) (fun o h5 _ => by rw [AHeap.get_push, if_neg (by omega)]) (fun o h5 => .inl h5)
    have hel : (esOf back P).length = i := by unfold esOf; cases back <;> simp [hl]
    obtain ⟨v', h3, e1, e2, e3, e4⟩ := hv3.app (e := .ptr q 0) (fun o h5 => by have := hlt2 o h5; simp; omega) (by rw [hel]; omega)
    have r3 : RpO h h3 rr t2 := by
      have keep : ∀ o, badOf h rr t2 o → h3.get o = h2.get o := fun o h5 => by rw [e4 o h5, AHeap.get_push, if_neg (by have := hlt2 o h5; omega)]
      have hle : h2.next ≤ h3.next := by simp at e3; omega
      obtain ⟨⟨⟨s, g1⟩, g2, g3, g4, g5, g6⟩, g7, g8, g9⟩ := r2
      refine ⟨⟨⟨s, by rw [keep rr (.inr (.inl rfl))]; exact g1⟩, At.congr (fun o ho => keep o (.inr (.inr ho))) g2, g3, g4, by omega, fun o ho => by have := g6 o ho; omega⟩, g7, g8, Nat.le_trans g9.1 hle, ?_⟩
      exact fun o ho => by rw [keep o (.inl ho), g9.2 o ho]
    simp -implicitDefEqProofs [buildSliceR, reps, e1]
    have w1 : IntKind.i64.wrap ((i : Int) + 1) = ((i + 1 : Nat) : Int) := by rw [w64 (by omega) (by omega)]; push_cast; rfl
    rw [hes] at e2
    cases back with
    | false =>
      simp -implicitDefEqProofs [w1]
      refine .mk (m := m - 1) (by omega) (by rw [hI]; exact ⟨i + 1, t2, v', P2, .dead, by omega, r3, i2, hl2, ha2, e2, by simpa using hlast⟩)
    | true =>
      simp -implicitDefEqProofs [w1]
      refine .mk (m := m - 1) (by omega) (by rw [hI]; exact ⟨i + 1, t2, v', P2, .dead, by omega, r3, i2, hl2, ha2, e2, by simp⟩)
  · have hiN : i = N := by omega
    subst hiN
    simp -implicitDefEqProofs
    obtain ⟨s0, hs0⟩ := R.rp.root
    refine first8 hs0 R.rp.tree ?_
    rw [lm_head, hP]
    simp -implicitDefEqProofs
    obtain ⟨J, hJ⟩ : ∃ J : Nat → List AVal → AHeap → Prop, J = fun m env h2 => h2 = h' ∧ ∃ (k : Nat) (z : AVal), m + k = i ∧
      env = (.int .i64 (i : Nat) :: .bool back :: .dead :: .dead :: .dead :: .ptr rr 0 :: .dead :: v :: .dead :: headP (P.drop k) :: .dead :: .dead :: .dead :: .dead :: .dead :: .dead :: .dead :: .dead :: .dead :: .dead :: .dead :: .dead :: .dead :: .dead :: .dead :: .dead :: .dead :: .dead :: .dead :: .dead :: .dead :: .dead :: .dead :: .dead :: .dead :: .dead :: .dead :: .dead :: .dead :: .dead :: .dead :: .int .i64 (i : Nat) :: .int .i64 (k : Nat) :: z :: .dead :: .dead :: .dead :: .dead :: .dead :: .dead :: .dead :: .dead :: .dead :: .dead :: .dead :: .dead :: .dead :: .dead :: .dead :: .dead :: .dead :: .dead :: .dead :: .dead :: .dead :: .dead :: .dead :: .dead :: .dead :: .dead :: .dead :: .dead :: .dead :: .dead :: .dead :: .dead :: .dead :: .dead :: .dead :: .dead :: .dead :: .dead :: .dead :: .dead :: .dead :: .dead :: .dead :: .dead :: .dead :: .dead :: .dead :: .dead :: .dead :: .dead :: .dead :: []) := ⟨_, rfl⟩
    refine loop_of J ?_ i (by rw [hJ]; exact ⟨rfl, 0, .dead, rfl, rfl⟩)
    intro m env h2 hj
    rw [hJ] at hj
    obtain ⟨rfl, k, z2, hmk, rfl⟩ := hj
    obtain ⟨h0, hmine⟩ := hv.mine
    have hsl := hmine.sl (c := cfgR ro)
    have hel : (esOf back P).length = i := by unfold esOf; cases back <;> simp [hl]
    have hX : ∀ j : Nat, j < i → indexAddrR Try.prog 28 v (.int .i64 (j : Int)) = .ok (elp v 1 j) := fun j hj => hsl.idx un28 sz24 (by simpa [hel] using hj)
    have hA : ∀ j : Nat, ∀ p, (esOf back P)[j]? = some p → loadR (cfgR ro) h2 24 (elp v 1 j) = .ok p := fun j p hp => hsl.load1 (e := [p]) (by simp [hp]) rfl ag24
    by_cases hk : k < i
    · obtain ⟨⟨a, y⟩, hpk⟩ : ∃ p, P[k]? = some p := ⟨P[k], by simp [hl, hk]⟩
      have hkl : k < P.length := by omega
      have hdrop : P.drop k = (a, y) :: P.drop (k + 1) := by
        rw [List.drop_eq_getElem_cons hkl]
        rw [List.getElem?_eq_getElem hkl] at hpk
        injection hpk with hpk
        rw [hpk]
      have hsplit : t.items = P.take k ++ (a, y) :: P.drop (k + 1) := by rw [hP, ← hdrop, List.take_append_drop]
      have hhead : headP (P.drop k) = .ptr a 0 := by rw [hdrop]; rfl
      have hlk : (P.take k).length = k := by rw [List.length_take]; omega
      have htl : (txs (P.take k)).length = k := by rw [htx _ (fun p hp => ha p (List.mem_of_mem_take hp)), hlk]
      have w1 : IntKind.i64.wrap ((k : Int) + 1) = ((k + 1 : Nat) : Int) := by rw [w64 (by omega) (by omega)]; push_cast; rfl
      rw [hhead]
      cases back with
      | false =>
        have he : (esOf false P)[k]? = some (.ptr a 0) := by simp [esOf, hpk]
        simp -implicitDefEqProofs [hk, hX k hk, hA k _ he, ptrEq_self]
        refine index9 R.rp.tree R.rp.nd hsplit (by rw [hP]; omega) ?_
        rw [hlk]
        simp -implicitDefEqProofs
        refine before10 R.rp.tree R.rp.nd hsplit (by rw [tx_items hP, htx P ha]; omega) ?_
        simp -implicitDefEqProofs [htl]
        refine next11 R.rp.tree R.rp.nd hsplit ?_
        simp -implicitDefEqProofs [w1]
        exact .mk (m := m - 1) (by omega) (by rw [hJ]; exact ⟨rfl, k + 1, .dead, by omega, by simp⟩)
      | true =>
        have hk' : i - 1 - k < i := by omega
        obtain ⟨w, hw⟩ : ∃ w, (esOf true P)[k]? = some w := ⟨(esOf true P)[k]'(by omega), by simp⟩
        have he : (esOf true P)[i - 1 - k]? = some (.ptr a 0) := by
          simp only [esOf, if_true, List.getElem?_map]
          rw [List.getElem?_reverse (by omega), show P.length - 1 - (i - 1 - k) = k by omega, hpk]
          rfl
        have w2 : IntKind.i64.wrap ((i : Int) - 1) = (i : Int) - 1 := w64 (by omega) (by omega)
        have w3 : IntKind.i64.wrap ((i : Int) - 1 - k) = ((i - 1 - k : Nat) : Int) := by rw [w64 (by omega) (by omega)]; omega
        simp -implicitDefEqProofs [hk, hX k hk, hA k _ hw, w2, w3, hX _ hk', hA _ _ he, ptrEq_self]
        refine index9 R.rp.tree R.rp.nd hsplit (by rw [hP]; omega) ?_
        rw [hlk]
        simp -implicitDefEqProofs
        refine before10 R.rp.tree R.rp.nd hsplit (by rw [tx_items hP, htx P ha]; omega) ?_
        simp -implicitDefEqProofs [htl]
        refine next11 R.rp.tree R.rp.nd hsplit ?_
        simp -implicitDefEqProofs [w1]
        exact .mk (m := m - 1) (by omega) (by rw [hJ]; exact ⟨rfl, k + 1, .dead, by omega, by simp⟩)
    · have hki : k = i := by omega
      subst hki
      have : headP (P.drop k) = .nilp := by rw [← hl, List.drop_length]; rfl
      rw [this]
      simp -implicitDefEqProofs
      refine len12 R.rp ?_
      rw [hP, hl]
      simp -implicitDefEqProofs
      refine all13 R.rp ?_
      have : t.tx.length = k := by rw [tx_items hP, htx P ha, hl]
      simp -implicitDefEqProofs [this]
      exact hq _ R.old
end
end Go.Proofs.Ytbnlhhfobgjeaaa
