/-
  A part of the proof of RopePlays, over the seat Ytbnlhhfobgjeaaa: for every input the law returns true, and the input reads as it did.
-/
import Derived.Test.YtbnlhhfobgjeaaaRc
import Derived.Test.YtbnlhhfobgjeaaaZe
set_option linter.all false
set_option linter.all false
set_option maxRecDepth 100000
set_option maxHeartbeats 4000000
namespace Go.Proofs.Ytbnlhhfobgjeaaa
open Go Go.RowKit Go.Proofs
section
variable {ro : Nat → Option (List AVal)}
def lastOf (L : List (Nat × Str)) : AVal := match L.getLast? with
  | none => .nilp
  | some p => .ptr p.1 0
def esOf (b : Bool) (P : List (Nat × Str)) : List AVal := (if b then P.reverse else P).map fun p => .ptr p.1 0
def badOf (h0 : AHeap) (rr : Nat) (t : Rt Str) (o : Nat) : Prop := o < h0.next ∨ o = rr ∨ o ∈ t.ids
theorem rows3 {h : AHeap} {n : Int} {back : Bool} {Q : AVal → AHeap → Prop} (hq : ∀ h', Old h h' → Q (.bool true) h') : Ev (cfgR ro) 3 [.int .i64 n, .bool back] h Q := by
  refine Ev.wp rfl rfl Try.func3 rfl ?_
  simp -implicitDefEqProofs [Try.f3]
  refine anchor6 (fun h1 k1 => ?_)
  by_cases hn1 : n < 1
  · simp -implicitDefEqProofs [hn1]
    exact hq h1 k1
  by_cases hn2 : 2000 < n
  · simp -implicitDefEqProofs [hn1, hn2]
    exact hq h1 k1
  simp -implicitDefEqProofs [hn1, hn2]
  obtain ⟨N, rfl⟩ : ∃ N : Nat, n = N := ⟨n.toNat, by omega⟩
  obtain ⟨rr, hrr⟩ : ∃ rr, rr = h1.next := ⟨_, rfl⟩
  obtain ⟨I, hI⟩ : ∃ I : Nat → List AVal → AHeap → Prop, I = fun m env h' => ∃ (i : Nat) (t : Rt Str) (v : AVal) (P : List (Nat × Str)) (z : AVal), m + i = N ∧ RpO h h' rr t ∧ t.items = P ∧ P.length = i ∧ (∀ p ∈ P, p.2 = [97]) ∧ Plc h' v (esOf back P) (badOf h rr t) ∧
      env = (.int .i64 (N : Nat) :: .bool back :: .dead :: .dead :: .dead :: .ptr rr 0 :: (if back then .nilp else lastOf P) :: v :: .dead :: .dead :: .dead :: .dead :: .dead :: .dead :: .dead :: .dead :: .dead :: .dead :: .dead :: .dead :: .dead :: .dead :: .int .i64 (N : Nat) :: .int .i64 (i : Nat) :: z :: .dead :: .dead :: .dead :: .dead :: .dead :: .dead :: .dead :: .dead :: .dead :: .dead :: .dead :: .dead :: .dead :: .dead :: .dead :: .dead :: .dead :: .dead :: .dead :: .dead :: .dead :: .dead :: .dead :: .dead :: .dead :: .dead :: .dead :: .dead :: .dead :: .dead :: .dead :: .dead :: .dead :: .dead :: .dead :: .dead :: .dead :: .dead :: .dead :: .dead :: .dead :: .dead :: .dead :: .dead :: .dead :: .dead :: .dead :: .dead :: .dead :: .dead :: .dead :: .dead :: .dead :: .dead :: .dead :: .dead :: .dead :: .dead :: .dead :: .dead :: .dead :: .dead :: .dead :: .dead :: .dead :: .dead :: .dead :: .dead :: .dead :: .dead :: []) := ⟨_, rfl⟩
  refine loop_of I ?_ N (by rw [hI, hrr]; exact ⟨0, .nil, .nils, [], .dead, rfl, new27 k1, rfl, rfl, by simp, .inl ⟨by cases back <;> rfl, rfl⟩, by cases back <;> rfl⟩)
  intro m env h' hi
  rw [hI] at hi
  obtain ⟨i, t, v, P, z, hm, R, hP, hl, ha, hv, rfl⟩ := hi
  have htx : ∀ P : List (Nat × Str), (∀ p ∈ P, p.2 = [97]) → (txs P).length = P.length := by
    intro P
    induction P with
    | nil => intro _; rfl
    | cons p P ih =>
      intro ha
      have := ih (fun q hq => ha q (by simp [hq]))
      have h2 := ha p (by simp)
      simp only [txs, List.map_cons, List.flatten_cons, List.length_append, List.length_cons] at this ⊢
      rw [this, h2]; simp; omega
  by_cases hlt : i < N
  · simp -implicitDefEqProofs [hlt]
    have haft : ((if back then ([] : List (Nat × Str)) else P) = [] ∧ (if back then AVal.nilp else lastOf P) = .nilp) ∨ ∃ L0 a y, (if back then ([] : List (Nat × Str)) else P) = L0 ++ [(a, y)] ∧ (if back then AVal.nilp else lastOf P) = .ptr a 0 := by
      cases back with
      | true => exact .inl ⟨rfl, rfl⟩
      | false =>
        rcases List.eq_nil_or_concat P with rfl | ⟨L0, ⟨a, y⟩, rfl⟩
        · exact .inl ⟨rfl, rfl⟩
        · refine .inr ⟨L0, a, y, by simp, ?_⟩
          simp [lastOf]
    refine putO (L1 := if back then [] else P) (L2 := if back then P else []) R (by cases back <;> simp [hP]) ?_ haft (fun q h2 t2 r2 i2 n2 k2 m2 => ?_)
    · rw [tx_items hP, htx P ha, hP, hl]; simp; omega
    obtain ⟨P2, hP2⟩ : ∃ P2, P2 = (if back then [] else P) ++ (q, [97]) :: (if back then P else []) := ⟨_, rfl⟩
    rw [← hP2] at i2
    have hl2 : P2.length = i + 1 := by rw [hP2]; cases back <;> simp [hl]
    have ha2 : ∀ p ∈ P2, p.2 = [97] := by
      intro p hp
      rw [hP2] at hp
      cases back <;> simp at hp <;> rcases hp with h5 | h5
      · exact ha p h5
      · rw [h5]
      · rw [h5]
      · exact ha p h5
    have hes : esOf back P ++ [.ptr q 0] = esOf back P2 := by
      rw [hP2]
      cases back <;> simp [esOf]
    have hlast : (if back then AVal.nilp else .ptr q 0) = (if back then .nilp else lastOf P2) := by
      rw [hP2]
      cases back <;> simp [lastOf]
    have hbad : ∀ o, badOf h rr t2 o → badOf h rr t o ∨ h'.next ≤ o := by
      intro o ho
      rcases ho with ho | rfl | ho
      · exact .inl (.inl ho)
      · exact .inl (.inr (.inl rfl))
      · unfold badOf Rt.ids at *
        rw [i2, hP2] at ho
        rw [hP]
        cases back <;> simp at ho ⊢ <;> rcases ho with h5 | h5
        · exact .inl (.inr (.inr h5))
        · exact .inr (by rw [h5]; exact n2)
        · exact .inr (by rw [h5]; exact n2)
        · exact .inl (.inr (.inr h5))
    have hv2 : Plc h2 v (esOf back P) (badOf h rr t2) := hv.keep m2 (fun o h5 h6 => k2 o h5 (fun e => h6 (.inr (.inl e))) (fun e => h6 (.inr (.inr e)))) hbad
    have hlt2 : ∀ o, badOf h rr t2 o → o < h2.next := by
      rintro o (h5 | rfl | h5)
      · exact Nat.lt_of_lt_of_le h5 r2.old.1
      · exact r2.rp.lr
      · exact r2.rp.lt o h5
    have hv3 : Plc (h2.push (.row 1 false [.ptr q 0])) v (esOf back P) (badOf h rr t2) := hv2.keep (by simp) (fun o h5 _ => by rw [AHeap.get_push, if_neg (by omega)]) (fun o h5 => .inl h5)
    have hel : (esOf back P).length = i := by unfold esOf; cases back <;> simp [hl]
    obtain ⟨v', h3, e1, e2, e3, e4⟩ := hv3.app (e := .ptr q 0) (fun o h5 => by have := hlt2 o h5; simp; omega) (by rw [hel]; omega)
    have r3 : RpO h h3 rr t2 := by
      have keep : ∀ o, badOf h rr t2 o → h3.get o = h2.get o := fun o h5 => by rw [e4 o h5, AHeap.get_push, if_neg (by have := hlt2 o h5; omega)]
      have hle : h2.next ≤ h3.next := by simp at e3; omega
      obtain ⟨⟨⟨s, g1⟩, g2, g3, g4, g5, g6⟩, g7, g8, g9⟩ := r2
      refine ⟨⟨⟨s, by rw [keep rr (.inr (.inl rfl))]; exact g1⟩, At.congr (fun o ho => keep o (.inr (.inr ho))) g2, g3, g4, by omega, fun o ho => by have := g6 o ho; omega⟩, g7, g8, Nat.le_trans g9.1 hle, ?_⟩
      exact fun o ho => by rw [keep o (.inl ho), g9.2 o ho]
    simp -implicitDefEqProofs [buildSliceR, reps, e1]
    have w1 : IntKind.i64.wrap ((i : Int) + 1) = ((i + 1 : Nat) : Int) := by rw [w64 (by omega) (by omega)]; push_cast; rfl
    rw [hes] at e2
    cases back with
    | false =>
      simp -implicitDefEqProofs [w1]
      refine .mk (m := m - 1) (by omega) (by rw [hI]; exact ⟨i + 1, t2, v', P2, .dead, by omega, r3, i2, hl2, ha2, e2, by simpa using hlast⟩)
    | true =>
      simp -implicitDefEqProofs [w1]
      refine .mk (m := m - 1) (by omega) (by rw [hI]; exact ⟨i + 1, t2, v', P2, .dead, by omega, r3, i2, hl2, ha2, e2, by simp⟩)
  · have hiN : i = N := by omega
    subst hiN
    simp -implicitDefEqProofs
    obtain ⟨s0, hs0⟩ := R.rp.root
    refine first8 hs0 R.rp.tree ?_
    rw [lm_head, hP]
    simp -implicitDefEqProofs
    obtain ⟨J, hJ⟩ : ∃ J : Nat → List AVal → AHeap → Prop, J = fun m env h2 => h2 = h' ∧ ∃ (k : Nat) (z : AVal), m + k = i ∧
      env = (.int .i64 (i : Nat) :: .bool back :: .dead :: .dead :: .dead :: .ptr rr 0 :: .dead :: v :: .dead :: headP (P.drop k) :: .dead :: .dead :: .dead :: .dead :: .dead :: .dead :: .dead :: .dead :: .dead :: .dead :: .dead :: .dead :: .dead :: .dead :: .dead :: .dead :: .dead :: .dead :: .dead :: .dead :: .dead :: .dead :: .dead :: .dead :: .dead :: .dead :: .dead :: .dead :: .dead :: .dead :: .dead :: .int .i64 (i : Nat) :: .int .i64 (k : Nat) :: z :: .dead :: .dead :: .dead :: .dead :: .dead :: .dead :: .dead :: .dead :: .dead :: .dead :: .dead :: .dead :: .dead :: .dead :: .dead :: .dead :: .dead :: .dead :: .dead :: .dead :: .dead :: .dead :: .dead :: .dead :: .dead :: .dead :: .dead :: .dead :: .dead :: .dead :: .dead :: .dead :: .dead :: .dead :: .dead :: .dead :: .dead :: .dead :: .dead :: .dead :: .dead :: .dead :: .dead :: .dead :: .dead :: .dead :: .dead :: .dead :: .dead :: .dead :: .dead :: []) := ⟨_, rfl⟩
    refine loop_of J ?_ i (by rw [hJ]; exact ⟨rfl, 0, .dead, rfl, rfl⟩)
    intro m env h2 hj
    rw [hJ] at hj
    obtain ⟨rfl, k, z2, hmk, rfl⟩ := hj
    obtain ⟨h0, hmine⟩ := hv.mine
    have hsl := hmine.sl (c := cfgR ro)
    have hel : (esOf back P).length = i := by unfold esOf; cases back <;> simp [hl]
    have hX : ∀ j : Nat, j < i → indexAddrR Try.prog 28 v (.int .i64 (j : Int)) = .ok (elp v 1 j) := fun j hj => hsl.idx un28 sz24 (by simpa [hel] using hj)
    have hA : ∀ j : Nat, ∀ p, (esOf back P)[j]? = some p → loadR (cfgR ro) h2 24 (elp v 1 j) = .ok p := fun j p hp => hsl.load1 (e := [p]) (by simp [hp]) rfl ag24
    by_cases hk : k < i
    · obtain ⟨⟨a, y⟩, hpk⟩ : ∃ p, P[k]? = some p := ⟨P[k], by simp [hl, hk]⟩
      have hkl : k < P.length := by omega
      have hdrop : P.drop k = (a, y) :: P.drop (k + 1) := by
        rw [List.drop_eq_getElem_cons hkl]
        rw [List.getElem?_eq_getElem hkl] at hpk
        injection hpk with hpk
        rw [hpk]
      have hsplit : t.items = P.take k ++ (a, y) :: P.drop (k + 1) := by rw [hP, ← hdrop, List.take_append_drop]
      have hhead : headP (P.drop k) = .ptr a 0 := by rw [hdrop]; rfl
      have hlk : (P.take k).length = k := by rw [List.length_take]; omega
      have htl : (txs (P.take k)).length = k := by rw [htx _ (fun p hp => ha p (List.mem_of_mem_take hp)), hlk]
      have w1 : IntKind.i64.wrap ((k : Int) + 1) = ((k + 1 : Nat) : Int) := by rw [w64 (by omega) (by omega)]; push_cast; rfl
      rw [hhead]
      cases back with
      | false =>
        have he : (esOf false P)[k]? = some (.ptr a 0) := by simp [esOf, hpk]
        simp -implicitDefEqProofs [hk, hX k hk, hA k _ he, ptrEq_self]
        refine index9 R.rp.tree R.rp.nd hsplit (by rw [hP]; omega) ?_
        rw [hlk]
        simp -implicitDefEqProofs
        refine before10 R.rp.tree R.rp.nd hsplit (by rw [tx_items hP, htx P ha]; omega) ?_
        simp -implicitDefEqProofs [htl]
        refine next11 R.rp.tree R.rp.nd hsplit ?_
        simp -implicitDefEqProofs [w1]
        exact .mk (m := m - 1) (by omega) (by rw [hJ]; exact ⟨rfl, k + 1, .dead, by omega, by simp⟩)
      | true =>
        have hk' : i - 1 - k < i := by omega
        obtain ⟨w, hw⟩ : ∃ w, (esOf true P)[k]? = some w := ⟨(esOf true P)[k]'(by omega), by simp⟩
        have he : (esOf true P)[i - 1 - k]? = some (.ptr a 0) := by
          simp only [esOf, if_true, List.getElem?_map]
          rw [List.getElem?_reverse (by omega), show P.length - 1 - (i - 1 - k) = k by omega, hpk]
          rfl
        have w2 : IntKind.i64.wrap ((i : Int) - 1) = (i : Int) - 1 := w64 (by omega) (by omega)
        have w3 : IntKind.i64.wrap ((i : Int) - 1 - k) = ((i - 1 - k : Nat) : Int) := by rw [w64 (by omega) (by omega)]; omega
        simp -implicitDefEqProofs [hk, hX k hk, hA k _ hw, w2, w3, hX _ hk', hA _ _ he, ptrEq_self]
        refine index9 R.rp.tree R.rp.nd hsplit (by rw [hP]; omega) ?_
        rw [hlk]
        simp -implicitDefEqProofs
        refine before10 R.rp.tree R.rp.nd hsplit (by rw [tx_items hP, htx P ha]; omega) ?_
        simp -implicitDefEqProofs [htl]
        refine next11 R.rp.tree R.rp.nd hsplit ?_
        simp -implicitDefEqProofs [w1]
        exact .mk (m := m - 1) (by omega) (by rw [hJ]; exact ⟨rfl, k + 1, .dead, by omega, by simp⟩)
    · have hki : k = i := by omega
      subst hki
      have : headP (P.drop k) = .nilp := by rw [← hl, List.drop_length]; rfl
      rw [this]
      simp -implicitDefEqProofs
      refine len12 R.rp ?_
      rw [hP, hl]
      simp -implicitDefEqProofs
      refine all13 R.rp ?_
      have : t.tx.length = k := by rw [tx_items hP, htx P ha, hl]
      simp -implicitDefEqProofs [this]
      exact hq _ R.old
end
end Go.Proofs.Ytbnlhhfobgjeaaa
set_option linter.all false
set_option maxRecDepth 100000
set_option maxHeartbeats 4000000
namespace Go.Proofs.Ytbnlhhfobgjeaaa
open Go Go.RowKit Go.Proofs
/-- the rightmost place -/
def Rt.rm : Rt Str → AVal
  | .nil => .nilp
  | .node o _ _ _ .nil => .ptr o 0
  | .node _ _ _ _ (.node o2 h2 x2 l2 r2) => Rt.rm (.node o2 h2 x2 l2 r2)
theorem lastOf_append (A : List (Nat × Str)) {L : List (Nat × Str)} (h : L ≠ []) : lastOf (A ++ L) = lastOf L := by
  rcases List.eq_nil_or_concat L with rfl | ⟨L0, p, rfl⟩
  · exact (h rfl).elim
  · unfold lastOf
    rw [List.concat_eq_append, ← List.append_assoc, List.getLast?_append, List.getLast?_append, List.getLast?_append]
    rfl
theorem rm_last : ∀ t : Rt Str, t.rm = lastOf t.items
  | .nil => rfl
  | .node o ht x l .nil => by simp [Rt.rm, Rt.items, lastOf]
  | .node o ht x l (.node o2 h2 x2 l2 r2) => by
    show Rt.rm (.node o2 h2 x2 l2 r2) = _
    rw [rm_last (.node o2 h2 x2 l2 r2)]
    rw [items_node o ht]
    have hne : (Rt.node o2 h2 x2 l2 r2).items ≠ [] := by rw [items_node]; simp
    rw [show l.items ++ (o, x) :: (Rt.node o2 h2 x2 l2 r2).items = (l.items ++ [(o, x)]) ++ (Rt.node o2 h2 x2 l2 r2).items by simp, lastOf_append _ hne]
section
variable {ro : Nat → Option (List AVal)}
theorem item34 {h : AHeap} {a ht sz : Nat} {u l r : AVal} {x all : Str} (hn : h.get a = some (nrow u l r ht sz x all)) {Q : AVal → AHeap → Prop} (hq : Q (.agg [.str x]) h) : Ev (cfgR ro) 34 [.ptr a 0] h Q := by
  refine Ev.wp rfl rfl Try.func34 rfl ?_
  rw [nrow] at hn
  simp -implicitDefEqProofs [Try.f34, hn]
  exact hq
theorem rightmost41 {h : AHeap} {up : AVal} {t : Rt Str} (ha : At TS h up t) {Q : AVal → AHeap → Prop} (hq : Q t.rm h) : Ev (cfgR ro) 41 [t.ptr] h Q := by
  refine Ev.wp rfl rfl Try.func41 rfl ?_
  simp -implicitDefEqProofs [Try.f41]
  refine scope_loop (fun m env h' => h' = h ∧ ∃ t' up, At TS h up t' ∧ t'.rm = t.rm ∧ m = t'.items.length ∧ env = (t'.ptr :: .dead :: .dead :: .dead :: .dead :: .dead :: .dead :: .dead :: .dead :: .dead :: .dead :: .dead :: .dead :: .dead :: .dead :: .dead :: .dead :: [])) ?_ _ ⟨rfl, t, up, ha, rfl, rfl, rfl⟩
  rintro m env h' ih ⟨rfl, t', up', ha', hlm, rfl, rfl⟩
  cases t' with
  | nil =>
    simp -implicitDefEqProofs [Rt.ptr]
    rw [← hlm] at hq
    exact hq
  | node o ht x l r =>
    obtain ⟨a1, a2, a3⟩ := at_node.1 ha'
    rw [nrow] at a1
    cases r with
    | nil =>
      rw [ptr_nil] at a1
      simp -implicitDefEqProofs [ptr_node, a1]
      rw [← hlm] at hq
      exact hq
    | node o2 h2 x2 l2 r2 =>
      rw [ptr_node] at a1
      simp -implicitDefEqProofs [ptr_node, a1]
      refine ih _ ?_ _ _ ⟨rfl, _, _, a3, by rw [← hlm]; rfl, rfl, rfl⟩
      simp [Rt.items]
      omega
theorem last40 {h : AHeap} {rr : Nat} {t : Rt Str} (R : Rp h rr t) {Q : AVal → AHeap → Prop} (hq : Q (lastOf t.items) h) : Ev (cfgR ro) 40 [.ptr rr 0] h Q := by
  obtain ⟨s, hr⟩ := R.root
  refine Ev.wp rfl rfl Try.func40 rfl ?_
  rw [rrow] at hr
  simp -implicitDefEqProofs [Try.f40, hr]
  refine rightmost41 R.tree ?_
  rw [rm_last]
  simp -implicitDefEqProofs
  exact hq
/-- the cell above, and whether it leads to us by its left -/
theorem aboveL {h : AHeap} {f : Frm Str} {c : List (Frm Str)} {n ht : Nat} {x : Str} {l r : Rt Str} (ha : At TS h .nilp (plug (f :: c) (.node n ht x l r))) (hnd : (plug (f :: c) (.node n ht x l r)).ids.Nodup) :
    eqIn (cfgR ro) h 10000 24 (if f.left then .ptr n 0 else f.sib.ptr) (.ptr n 0) = .ok f.left := by
  obtain ⟨j1, _, p2, p3⟩ := At.split ha
  have hn := (at_node.1 j1).1
  have hns : n ∉ f.sib.ids := fun hm => (apart_tree hnd).2 n (by rw [ids_node]; simp) (cids_cons.2 (.inr (.inl hm)))
  cases f.left with
  | false => exact eq_place p2 hns hn
  | true =>
    show eqIn (cfgR ro) h 10000 24 (.ptr n 0) (.ptr n 0) = _
    rw [eq24_pp, ptrEq_self]
theorem prev36 {h : AHeap} {T : Rt Str} {a : Nat} {y : Str} {L1 L2 : List (Nat × Str)} (ha : At TS h .nilp T) (hnd : T.ids.Nodup) (hT : T.items = L1 ++ (a, y) :: L2) {Q : AVal → AHeap → Prop} (hq : Q (lastOf L1) h) : Ev (cfgR ro) 36 [.ptr a 0] h Q := by
  obtain ⟨c, ht, l, r, e1, e2⟩ := place hT hnd
  refine Ev.wp rfl rfl Try.func36 rfl ?_
  have h0 := (At.split (t := .node a ht y l r) (e1 ▸ ha)).1
  obtain ⟨ja, jl, jr⟩ := at_node.1 h0
  have ja' := ja
  rw [nrow] at ja'
  cases l with
  | node o2 h2 x2 l2 r2 =>
    rw [ptr_node] at ja'
    simp -implicitDefEqProofs [Try.f36, ja']
    rw [← ptr_node (o := o2) (ht := h2) (x := x2) (l := l2) (r := r2)]
    refine rightmost41 jl ?_
    simp -implicitDefEqProofs
    rw [rm_last]
    have : lastOf (Rt.node o2 h2 x2 l2 r2).items = lastOf L1 := by
      rw [← e2, lastOf_append _ (by rw [items_node]; simp)]
    rw [this]; exact hq
  | nil =>
    rw [ptr_nil] at ja'
    simp -implicitDefEqProofs [Try.f36, ja']
    refine scope_loop2 (by simp [findLabel]) (fun m env h' => h' = h ∧ ∃ c n ht x l r z, m = c.length ∧ T = plug c (.node n ht x l r) ∧ bef c = L1 ∧ env = (.ptr n 0 :: .dead :: .dead :: .dead :: .dead :: .dead :: .dead :: z :: .dead :: .dead :: .dead :: .dead :: .dead :: .dead :: .dead :: .dead :: .dead :: .dead :: .dead :: .dead :: .dead :: .dead :: .dead :: .dead :: .dead :: .dead :: .dead :: .dead :: .dead :: .dead :: .dead :: .dead :: .dead :: .dead :: .dead :: .dead :: .dead :: [])) ?_ c.length ⟨rfl, c, a, ht, y, .nil, r, _, rfl, e1, by rw [← e2]; simp [Rt.items], rfl⟩
    rintro m env h' ih ⟨rfl, c, n, ht, x, l, r, z, rfl, g1, g2, rfl⟩
    have hA : At TS h' .nilp (plug c (.node n ht x l r)) := g1 ▸ ha
    obtain ⟨ja, jl, jr⟩ := at_node.1 (At.split hA).1
    rw [nrow] at ja
    cases c with
    | nil =>
      rw [upOf] at ja
      simp -implicitDefEqProofs [ja]
      have : L1 = [] := by rw [← g2]; rfl
      rw [this] at hq; exact hq
    | cons f c =>
      obtain ⟨psz, pall, p1, p2, _⟩ := above (ro := ro) hA (g1 ▸ hnd)
      have p3 := aboveL (ro := ro) hA (g1 ▸ hnd)
      rw [upOf] at ja
      rw [nrow] at p1
      have hp : ∃ l2 r2, plug1 f (.node n ht x l r) = .node f.o f.ht f.x l2 r2 := by unfold plug1; cases f.left <;> exact ⟨_, _, rfl⟩
      obtain ⟨l2, r2, hp⟩ := hp
      cases hl : f.left with
      | false =>
        rw [hl] at p1 p3
        simp only [Bool.false_eq_true, if_false] at p1 p3
        simp -implicitDefEqProofs [ja, p1, p3, cells_ptr]
        refine ⟨by cases f.sib <;> simp [Rt.ptr], ?_⟩
        have : lastOf L1 = .ptr f.o 0 := by rw [← g2]; simp [bef, hl, lastOf]
        rw [this] at hq; exact hq
      | true =>
        rw [hl] at p1 p3
        simp only [if_true] at p1 p3
        simp -implicitDefEqProofs [ja, p1, ptrEq_self]
        refine ih _ ?_ _ _ ⟨rfl, c, f.o, f.ht, f.x, l2, r2, _, rfl, by rw [g1, plug, hp], by rw [← g2]; simp [bef, hl], rfl⟩
        simp
theorem set29 {h : AHeap} {rr : Nat} {T : Rt Str} {a : Nat} {y x : Str} {L1 L2 : List (Nat × Str)} (R : Rp h rr T) (hT : T.items = L1 ++ (a, y) :: L2)
    (hfit : T.items.length < 2 ^ 60 ∧ T.tx.length + x.length < 2 ^ 60) {Q : AVal → AHeap → Prop}
    (hq : ∀ h' t', Rp h' rr t' → t'.items = L1 ++ (a, x) :: L2 → (∀ o, o ∉ T.ids → h'.get o = h.get o) → h'.next = h.next → Q (.tuple []) h') : Ev (cfgR ro) 29 [.ptr rr 0, .ptr a 0, .agg [.str x]] h Q := by
  obtain ⟨⟨s, hr⟩, ha, hnd, hrt, hlr, hlt⟩ := R
  obtain ⟨c, ht, l, r, e1, e2⟩ := place hT hnd
  refine Ev.wp rfl rfl Try.func29 rfl ?_
  obtain ⟨hA, hC⟩ := At.split (t := .node a ht y l r) (e1 ▸ ha)
  obtain ⟨ja, jl, jr⟩ := at_node.1 hA
  have ja' := ja
  rw [nrow] at ja'
  simp -implicitDefEqProofs [Try.f29, ja']
  obtain ⟨H, hH⟩ : ∃ H, H = h.set a (nrow (upOf c) l.ptr r.ptr ht (l.items.length + 1 + r.items.length) x (l.tx ++ y ++ r.tx)) := ⟨_, rfl⟩
  have hnd1 : (plug c (.node a ht y l r)).ids.Nodup := e1 ▸ hnd
  obtain ⟨nd1, nd2⟩ := apart_tree hnd1
  obtain ⟨ndl, ndr, hal, har, _⟩ := apart_node nd1
  have hac : a ∉ cids c := nd2 a (by rw [ids_node]; simp)
  have hG : ∀ o, o ≠ a → H.get o = h.get o := fun o ho => by rw [hH, get_set_ne (Ne.symm ho)]
  have hS : Stl H c a ht x l r := ⟨⟨_, _, by rw [hH, get_set_self]⟩, At.congr (fun o ho => hG o (fun e => hal (by rw [← e]; exact ho))) jl, At.congr (fun o ho => hG o (fun e => har (by rw [← e]; exact ho))) jr, CA.congr (fun o ho => hG o (fun e => hac (by rw [← e]; exact ho))) hC⟩
  have hi : (plug c (.node a ht x l r)).items = L1 ++ (a, x) :: L2 := by
    have q := plug_items c (.node a ht y l r)
    rw [← e1, hT, ← e2, items_node] at q
    have q2 : L2 = r.items ++ aft c := by simpa using q
    rw [plug_items, items_node, q2, ← e2]
    simp
  have hids : (plug c (.node a ht x l r)).ids = T.ids := by
    unfold Rt.ids; rw [hi, hT]; simp
  have hF : Fit (plug c (.node a ht x l r)) := by
    unfold Fit
    rw [tx_items hi, hi]
    rw [tx_items hT, hT] at hfit
    simp only [txs, List.map_append, List.map_cons, List.flatten_append, List.flatten_cons, List.length_append, List.length_cons] at hfit ⊢
    omega
  have hEv : Ev (cfgR ro) 24 [.ptr a 0] H (fun v h' => v = .tuple [] ∧ Q (.tuple []) h') := by
    refine climb24 hS (by rw [hids]; exact hnd) hF (fun h' c1 c2 c3 => ⟨rfl, ?_⟩)
    rw [hids] at c2
    refine hq h' _ ⟨⟨s, ?_⟩, c1, by rw [hids]; exact hnd, by rw [hids]; exact hrt, by rw [c3, hH]; exact hlr, by rw [hids, c3, hH]; exact hlt⟩ hi (fun o ho => ?_) (by rw [c3, hH]; rfl)
    · rw [c2 rr hrt, hG rr (fun e => hrt (by rw [e, e1]; exact plug_mem.2 (.inl (by rw [ids_node]; simp)))), hr, e1, plug_ptr, plug_ptr]; rfl
    · rw [c2 o ho, hG o (fun e => ho (by rw [e, e1]; exact plug_mem.2 (.inl (by rw [ids_node]; simp))))]
  rw [hH] at hEv
  simp [nrow] at hEv
  refine Ev.mono hEv ?_
  rintro v h2 ⟨rfl, q⟩
  simp -implicitDefEqProofs
  exact q
end
end Go.Proofs.Ytbnlhhfobgjeaaa
set_option linter.all false
set_option maxRecDepth 100000
set_option maxHeartbeats 4000000
namespace Go.Proofs.Ytbnlhhfobgjeaaa
open Go Go.RowKit Go.Proofs
section
variable {ro : Nat → Option (List AVal)}
theorem hang38n {h : AHeap} {c : List (Frm Str)} {rr old : Nat} {s : Int} {ol or_ : AVal} {oht osz : Nat} {ox oall : Str} {it : List (Nat × Str)}
    (hroot : h.get rr = some (rrow (rootOf c (.ptr old 0)) s)) (hold : h.get old = some (nrow (upOf c) ol or_ oht osz ox oall)) (hc : CX h c it (.ptr old 0))
    (d2 : old ∉ cids c) (d4 : rr ∉ cids c) (d6 : rr ≠ old) (d7 : (plug c (Rt.nil : Rt Str)).ids.Nodup) {Q : AVal → AHeap → Prop}
    (hq : ∀ h', h'.get rr = some (rrow (rootOf c .nilp) s) → CX h' c it .nilp → (∀ o, o ≠ rr → o ∉ cids c → h'.get o = h.get o) → h'.next = h.next → Q (.tuple []) h') :
    Ev (cfgR ro) 38 [.ptr rr 0, .ptr old 0, .nilp] h Q := by
  refine Ev.wp rfl rfl Try.func38 rfl ?_
  cases c with
  | nil =>
    simp only [upOf, rootOf] at *
    rw [nrow] at hold
    rw [rrow] at hroot
    simp -implicitDefEqProofs [Try.f38, hold, hroot]
    refine hq _ ?_ trivial (fun o a _ => ?_) rfl
    · rw [get_set_self]; rfl
    · rw [get_set_ne (Ne.symm a)]
  | cons f c =>
    simp only [upOf, rootOf] at *
    obtain ⟨h1, h2, h3⟩ := hc
    obtain ⟨J, hJ⟩ : ∃ J, J = itf f it := ⟨_, rfl⟩
    obtain ⟨sz, hsz⟩ : ∃ sz, sz = J.length := ⟨_, rfl⟩
    obtain ⟨all, hall⟩ : ∃ all, all = (J.map (·.2)).flatten := ⟨_, rfl⟩
    rw [← hJ, ← hsz, ← hall] at h1
    rw [← hJ] at h3
    have df : f.o ∈ cids (f :: c) := cids_cons.2 (.inl rfl)
    have n2 : old ≠ f.o := fun e => d2 (by rw [e]; exact df)
    have n3 : rr ≠ f.o := fun e => d4 (by rw [e]; exact df)
    have hsibo : old ∉ f.sib.ids := fun hm => d2 (cids_cons.2 (.inr (.inl hm)))
    have dd : f.o ∉ f.sib.ids ∧ f.o ∉ cids c := by
      rw [plug] at d7
      obtain ⟨q1, q2⟩ := apart_tree d7
      unfold plug1 at q1 q2
      cases hl : f.left with
      | true =>
        rw [hl] at q1 q2
        obtain ⟨_, _, _, q3, _⟩ := apart_node q1
        exact ⟨q3, q2 _ (by rw [ids_node]; simp)⟩
      | false =>
        rw [hl] at q1 q2
        obtain ⟨_, _, q3, _, _⟩ := apart_node q1
        exact ⟨q3, q2 _ (by rw [ids_node]; simp)⟩
    have fin : ∀ h', h'.get f.o = some (nrow (upOf c) (lptr f .nilp) (rptr' f .nilp) f.ht sz f.x all) → (∀ o, o ≠ f.o → h'.get o = h.get o) → h'.next = h.next → Q (.tuple []) h' := by
      intro h' g1 g2 g3
      refine hq h' ?_ ⟨by rw [← hJ, ← hsz, ← hall, g1], ?_, hJ ▸ ?_⟩ (fun o b hcd => ?_) g3
      · rw [g2 rr n3]; exact hroot
      · exact At.congr (fun o ho => g2 o (fun e => dd.1 (by rw [← e]; exact ho))) h2
      · exact CX.congr (fun o ho => g2 o (fun e => dd.2 (by rw [← e]; exact ho))) h3
      · exact g2 o (fun e => hcd (by rw [e]; exact df))
    have hold' := hold
    rw [nrow] at hold'
    cases hl : f.left with
    | true =>
      have e1 : lptr f (.ptr old 0) = .ptr old 0 := by simp only [lptr, hl]
      have e2 : rptr' f (.ptr old 0) = f.sib.ptr := by simp only [rptr', hl]
      rw [e1, e2, nrow] at h1
      simp -implicitDefEqProofs [Try.f38, hold', h1, ptrEq_self]
      exact fin _ (by rw [get_set_self, lptr, rptr', hl]; rfl) (fun o ho => get_set_ne (Ne.symm ho)) rfl
    | false =>
      have e1 : lptr f (.ptr old 0) = f.sib.ptr := by simp only [lptr, hl]
      have e2 : rptr' f (.ptr old 0) = .ptr old 0 := by simp only [rptr', hl]
      rw [e1, e2, nrow] at h1
      have heq := eq_place (ro := ro) h2 hsibo hold
      simp -implicitDefEqProofs [Try.f38, hold', h1, heq, cells_ptr]
      refine ⟨by cases f.sib <;> simp [Rt.ptr], ?_⟩
      exact fin _ (by rw [get_set_self, lptr, rptr', hl]; rfl) (fun o ho => get_set_ne (Ne.symm ho)) rfl
/-- the place that an index names -/
theorem at35 {h : AHeap} {rr : Nat} {T : Rt Str} {i : Int} (R : Rp h rr T) (hfit : T.items.length < 2 ^ 60) {Q : AVal → AHeap → Prop}
    (hq1 : (i < 0 ∨ (T.items.length : Int) ≤ i) → Q .nilp h) (hq2 : ∀ p, 0 ≤ i → T.items[i.toNat]? = some p → Q (.ptr p.1 0) h) : Ev (cfgR ro) 35 [.ptr rr 0, .int .i64 i] h Q := by
  obtain ⟨s, hr⟩ := R.root
  refine Ev.wp rfl rfl Try.func35 rfl ?_
  rw [rrow] at hr
  by_cases h0 : i < 0
  · simp -implicitDefEqProofs [Try.f35, hr, h0]
    exact hq1 (.inl h0)
  by_cases h1 : (T.items.length : Int) ≤ i
  · simp -implicitDefEqProofs [Try.f35, hr, h0]
    refine len12 R ?_
    simp -implicitDefEqProofs [h1]
    exact hq1 (.inr h1)
  simp -implicitDefEqProofs [Try.f35, hr, h0]
  refine len12 R ?_
  simp -implicitDefEqProofs [h1]
  obtain ⟨k, rfl⟩ : ∃ k : Nat, i = k := ⟨i.toNat, by omega⟩
  have hk : k < T.items.length := by omega
  refine scope_loop2 (by simp [findLabel]) (fun m env h' => h' = h ∧ ∃ (t : Rt Str) (up : AVal) (j : Nat) (z6 z18 z26 z33 : AVal), m = t.items.length ∧ At TS h up t ∧ t.items.length < 2 ^ 60 ∧ j < t.items.length ∧ t.items[j]? = T.items[k]? ∧ env = (.dead :: .int .i64 (j : Nat) :: .dead :: .dead :: .dead :: t.ptr :: z6 :: .dead :: .dead :: .dead :: .dead :: .dead :: .dead :: .dead :: .dead :: .dead :: .dead :: .dead :: z18 :: .dead :: .dead :: .dead :: .dead :: .dead :: .dead :: .dead :: z26 :: .dead :: .dead :: .dead :: .dead :: .dead :: .dead :: z33 :: .dead :: .dead :: .dead :: .dead :: .dead :: .dead :: .dead :: .dead :: .dead :: [])) ?_ T.items.length ⟨rfl, T, .nilp, k, _, _, _, _, rfl, R.tree, hfit, hk, rfl, rfl⟩
  rintro m env h' ih ⟨rfl, t, up, j, z6, z18, z26, z33, rfl, a0, a1, a2, a3, rfl⟩
  cases t with
  | nil => simp [Rt.items] at a2
  | node o ht x l r =>
    obtain ⟨b1, b2, b3⟩ := at_node.1 a0
    rw [nrow] at b1
    rw [items_node] at a1 a2 a3
    simp only [List.length_append, List.length_cons] at a1 a2
    simp -implicitDefEqProofs [ptr_node, b1]
    refine len26 b2 ?_
    by_cases c1 : (j : Int) < (l.items.length : Int)
    · simp -implicitDefEqProofs [c1, b1]
      refine ih _ ?_ _ _ ⟨rfl, l, _, j, _, _, _, _, rfl, b2, by omega, by omega, by rw [← a3, List.getElem?_append_left (by omega)], rfl⟩
      rw [items_node]; simp
    by_cases c2 : (l.items.length : Int) < (j : Int)
    · have w1 : IntKind.i64.wrap ((j : Int) - l.items.length) = (j : Int) - l.items.length := w64 (by omega) (by omega)
      have w2 : IntKind.i64.wrap ((j : Int) - l.items.length - 1) = ((j - l.items.length - 1 : Nat) : Int) := by rw [w64 (by omega) (by omega)]; omega
      simp -implicitDefEqProofs [c1, c2, b1, w1, w2]
      refine ih _ ?_ _ _ ⟨rfl, r, _, j - l.items.length - 1, _, _, _, _, rfl, b3, by omega, by omega, ?_, rfl⟩
      · rw [items_node]; simp; try omega
      · rw [← a3, List.getElem?_append_right (by omega), show j - l.items.length = (j - l.items.length - 1) + 1 by omega, List.getElem?_cons_succ, Nat.add_sub_cancel]
    · simp -implicitDefEqProofs [c1, c2, b1]
      refine hq2 (o, x) (by omega) ?_
      rw [show ((k : Int).toNat) = k by simp, ← a3, List.getElem?_append_right (by omega), show j - l.items.length = 0 by omega]
      rfl
end
end Go.Proofs.Ytbnlhhfobgjeaaa
set_option linter.all false
set_option maxRecDepth 100000
set_option maxHeartbeats 4000000
namespace Go.Proofs.Ytbnlhhfobgjeaaa
open Go Go.RowKit Go.Proofs
section
variable {ro : Nat → Option (List AVal)}
theorem climbNil {h : AHeap} {Q : AVal → AHeap → Prop} (hq : Q (.tuple []) h) : Ev (cfgR ro) 24 [.nilp] h Q := by
  refine Ev.wp rfl rfl Try.func24 rfl ?_
  simp -implicitDefEqProofs [Try.f24]
  refine loop_of (fun m env h' => h' = h ∧ env = [.nilp, .dead, .dead, .dead, .dead, .dead, .dead, .dead, .dead, .dead]) ?_ 0 ⟨rfl, rfl⟩
  rintro m env h' ⟨rfl, rfl⟩
  simp -implicitDefEqProofs
  exact hq
theorem remove31 {h : AHeap} {rr : Nat} {T : Rt Str} {a : Nat} {y : Str} {L1 L2 : List (Nat × Str)} (R : Rp h rr T) (hT : T.items = L1 ++ (a, y) :: L2)
    (hfit : T.items.length < 2 ^ 60 ∧ T.tx.length < 2 ^ 60) {Q : AVal → AHeap → Prop}
    (hq : ∀ h' t', Rp h' rr t' → t'.items = L1 ++ L2 → (∀ o, o ≠ rr → o ∉ T.ids → h'.get o = h.get o) → h'.next = h.next → Q (.tuple []) h') : Ev (cfgR ro) 31 [.ptr rr 0, .ptr a 0] h Q := by
  obtain ⟨⟨s, hr⟩, ha, hnd, hrt, hlr, hlt⟩ := R
  obtain ⟨c, ht, l, r, e1, e2⟩ := place hT hnd
  have e3 : r.items ++ aft c = L2 := by
    have q := plug_items c (.node a ht y l r)
    rw [← e1, hT, ← e2, items_node] at q
    simpa using q.symm
  refine Ev.wp rfl rfl Try.func31 rfl ?_
  simp -implicitDefEqProofs [Try.f31]
  refine scope_loop (fun m env h' => ∃ (c : List (Frm Str)) (ht : Nat) (l r : Rt Str) (z4 z40 : AVal), m = l.items.length + r.items.length ∧ bef c ++ l.items = L1 ∧ r.items ++ aft c = L2 ∧ At TS h' .nilp (plug c (.node a ht y l r)) ∧ (∃ s, h'.get rr = some (rrow (plug c (.node a ht y l r)).ptr s)) ∧ (∀ o, o ≠ rr → o ∉ T.ids → h'.get o = h.get o) ∧ h'.next = h.next ∧ env = (.ptr rr 0 :: .ptr a 0 :: .dead :: .dead :: z4 :: .dead :: .dead :: .dead :: .dead :: .dead :: .dead :: .dead :: .dead :: .dead :: .dead :: .dead :: .dead :: .dead :: .dead :: .dead :: .dead :: .dead :: .dead :: .dead :: .dead :: .dead :: .dead :: .dead :: .dead :: .dead :: .dead :: .dead :: .dead :: .dead :: .dead :: .dead :: .dead :: .dead :: .dead :: .dead :: z40 :: .dead :: .dead :: .dead :: .dead :: .dead :: .dead :: .dead :: .dead :: .dead :: .dead :: .dead :: .dead :: .dead :: .dead :: .dead :: .dead :: .dead :: .dead :: .dead :: .dead :: .dead :: .dead :: [])) ?_ _ ⟨c, ht, l, r, _, _, rfl, e2, e3, e1 ▸ ha, ⟨s, by rw [← e1]; exact hr⟩, fun _ _ _ => rfl, rfl, rfl⟩
  rintro m env h' ih ⟨c, ht, l, r, z4, z40, rfl, g1, g2, i1, ⟨s2, i3⟩, i4, i5, rfl⟩
  have hi : (plug c (.node a ht y l r)).items = T.items := by
    rw [plug_items, items_node, hT, ← g1, ← g2]; simp
  have k4 : (plug c (.node a ht y l r)).ids = T.ids := by unfold Rt.ids; rw [hi]
  have k1 : (plug c (.node a ht y l r)).ids.Nodup := by rw [k4]; exact hnd
  have k2 : rr ∉ (plug c (.node a ht y l r)).ids := by rw [k4]; exact hrt
  have k3 : Fit (plug c (.node a ht y l r)) := by unfold Fit Rt.tx; rw [hi]; exact hfit
  obtain ⟨ja, jl, jr⟩ := at_node.1 (At.split i1).1
  have ja0 := ja
  rw [nrow] at ja
  cases l with
  | nil =>
    cases r with
    | nil =>
      rw [ptr_nil] at ja
      simp -implicitDefEqProofs [ja]
      obtain ⟨x1, x2⟩ := CX.split i1
      obtain ⟨nd1, nd2⟩ := apart_tree k1
      have hac : a ∉ cids c := nd2 a (by rw [ids_node]; simp)
      have hrc : rr ∉ cids c := fun hm => k2 (plug_mem.2 (.inr hm))
      have hra : rr ≠ a := fun e => k2 (plug_mem.2 (.inl (by rw [ids_node, e]; simp)))
      have hnil : (plug c (Rt.nil : Rt Str)).items = L1 ++ L2 := by rw [plug_items, ← g1, ← g2]; simp [Rt.items]
      have hsub : ∀ o, o ∈ (plug c (Rt.nil : Rt Str)).ids → o ∈ T.ids := fun o ho => by
        rw [← k4]
        rcases plug_mem.1 ho with h1 | h1
        · cases h1
        · exact plug_mem.2 (.inr h1)
      have hT' : a ∈ T.ids := by rw [← k4]; exact plug_mem.2 (.inl (by rw [ids_node]; simp))
      refine hang38n (c := c) (old := a) (s := s2) (by rw [i3, plug_ptr]; rfl) ja0 x2 hac hrc hra (plug_nd k1) (fun h2 q1 q2 q3 q4 => ?_)
      have ja2 : h2.get a = _ := (q3 a (Ne.symm hra) hac).trans ja
      simp -implicitDefEqProofs [ja2]
      have fin : ∀ h3 : AHeap, At TS h3 .nilp (plug c (Rt.nil : Rt Str)) → (∀ o, o ∉ cids c → h3.get o = h2.get o) → h3.next = h2.next → Ev (cfgR ro) 24 [upOf c] h2 (fun v h4 => v = .tuple [] ∧ h4 = h3) → True := fun _ _ _ _ _ => trivial
      have done : ∀ h3 : AHeap, At TS h3 .nilp (plug c (Rt.nil : Rt Str)) → (∀ o, o ∉ cids c → h3.get o = h2.get o) → h3.next = h2.next → ∀ v, Q (.tuple []) (h3.set a v) := by
        intro h3 w1 w2 w3 v
        refine hq _ (plug c Rt.nil) ⟨⟨s2, ?_⟩, At.congr (fun o ho => get_set_ne (fun e => hac (by rcases plug_mem.1 ho with h1 | h1; cases h1; rw [e]; exact h1))) w1, plug_nd k1, fun hm => hrt (hsub _ hm), ?_, ?_⟩ hnil (fun o o2 o3 => ?_) ?_
        · rw [get_set_ne (Ne.symm hra), w2 rr hrc, q1, plug_ptr]; rfl
        · show rr < h3.next; rw [w3, q4, i5]; exact hlr
        · intro o ho; show o < h3.next; rw [w3, q4, i5]; exact hlt o (hsub o ho)
        · have hoc : o ∉ cids c := fun hm => o3 (by rw [← k4]; exact plug_mem.2 (.inr hm))
          rw [get_set_ne (fun e => o3 (by rw [← e]; exact hT')), w2 o hoc, q3 o o2 hoc, i4 o o2 o3]
        · show h3.next = h.next; rw [w3, q4, i5]
      have go : Ev (cfgR ro) 24 [upOf c] h2 (fun v h3 => v = .tuple [] ∧ At TS h3 .nilp (plug c (Rt.nil : Rt Str)) ∧ (∀ o, o ∉ cids c → h3.get o = h2.get o) ∧ h3.next = h2.next) := by
        cases c with
        | nil => exact climbNil ⟨rfl, trivial, fun _ _ => rfl, rfl⟩
        | cons f c =>
          obtain ⟨l2, r2, w1, w2⟩ := Stl.up (t := Rt.nil) trivial (CX.ca q2)
          have e : plug (f :: c) (Rt.nil : Rt Str) = plug c (.node f.o f.ht f.x l2 r2) := by rw [plug, w1]
          have hids : ∀ o, o ∉ cids (f :: c) → o ∉ (plug c (.node f.o f.ht f.x l2 r2)).ids := fun o ho hm => by
            rw [← e] at hm
            rcases plug_mem.1 hm with h1 | h1
            · cases h1
            · exact ho h1
          refine climb24 w2 (by rw [← e]; exact plug_nd k1) (by
            rw [← e]; unfold Fit at k3 ⊢; rw [plug_items, plug_tx] at k3 ⊢; simp [Rt.items, Rt.tx] at k3 ⊢; omega) (fun h3 t1 t2 t3 => ⟨rfl, by rw [e]; exact t1, fun o ho => t2 o (hids o ho), t3⟩)
      refine Ev.mono go ?_
      rintro v h3 ⟨rfl, w1, w2, w3⟩
      have ja3 : h3.get a = _ := (w2 a hac).trans ja2
      simp -implicitDefEqProofs [ja3]
      exact done h3 w1 w2 w3 _
    | node ro' rh rx rl rr2 =>
      have jr1 := (at_node.1 jr).1
      rw [nrow] at jr1
      rw [ptr_nil, ptr_node] at ja
      simp -implicitDefEqProofs [ja]
      refine rise25 (f := ⟨a, ht, y, false, .nil⟩) (c := c) i1 i3 (riseF k1 k2) k3 (fun h4 d1 d2 d3 d4 => ?_)
      simp -implicitDefEqProofs
      refine ih _ ?_ _ _ ⟨⟨ro', rh, rx, true, rr2⟩ :: c, ht, .nil, rl, _, _, rfl, by rw [← g1]; simp [bef], by rw [← g2]; simp [aft, Rt.items], d1, ⟨s2, d2⟩, fun o o2 o3 => by rw [d3 o o2 (fun hm => o3 (by rw [← k4]; exact hm)), i4 o o2 o3], by rw [d4, i5], rfl⟩
      simp [Rt.items]; try omega
  | node lo lh lx ll lr =>
    have jl1 := (at_node.1 jl).1
    rw [nrow] at jl1
    cases r with
    | nil =>
      rw [ptr_nil, ptr_node] at ja
      simp -implicitDefEqProofs [ja, jl1]
      refine rise25 (f := ⟨a, ht, y, true, .nil⟩) (c := c) i1 i3 (riseF k1 k2) k3 (fun h4 d1 d2 d3 d4 => ?_)
      simp -implicitDefEqProofs
      refine ih _ ?_ _ _ ⟨⟨lo, lh, lx, false, ll⟩ :: c, ht, lr, .nil, _, _, rfl, by rw [← g1]; simp [bef, Rt.items], by rw [← g2]; simp [aft], d1, ⟨s2, d2⟩, fun o o2 o3 => by rw [d3 o o2 (fun hm => o3 (by rw [← k4]; exact hm)), i4 o o2 o3], by rw [d4, i5], rfl⟩
      simp [Rt.items]; try omega
    | node ro' rh rx rl rr2 =>
      have jr1 := (at_node.1 jr).1
      rw [nrow] at jr1
      rw [ptr_node, ptr_node] at ja
      by_cases hh : (rh : Int) < (lh : Int)
      · simp -implicitDefEqProofs [ja, jl1, jr1, hh]
        refine rise25 (f := ⟨a, ht, y, true, .node ro' rh rx rl rr2⟩) (c := c) i1 i3 (riseF k1 k2) k3 (fun h4 d1 d2 d3 d4 => ?_)
        simp -implicitDefEqProofs
        refine ih _ ?_ _ _ ⟨⟨lo, lh, lx, false, ll⟩ :: c, ht, lr, .node ro' rh rx rl rr2, _, _, rfl, by rw [← g1]; simp [bef, Rt.items], by rw [← g2]; simp [aft], d1, ⟨s2, d2⟩, fun o o2 o3 => by rw [d3 o o2 (fun hm => o3 (by rw [← k4]; exact hm)), i4 o o2 o3], by rw [d4, i5], rfl⟩
        simp [Rt.items]; try omega
      · simp -implicitDefEqProofs [ja, jl1, jr1, hh]
        refine rise25 (f := ⟨a, ht, y, false, .node lo lh lx ll lr⟩) (c := c) i1 i3 (riseF k1 k2) k3 (fun h4 d1 d2 d3 d4 => ?_)
        simp -implicitDefEqProofs
        refine ih _ ?_ _ _ ⟨⟨ro', rh, rx, true, rr2⟩ :: c, ht, .node lo lh lx ll lr, rl, _, _, rfl, by rw [← g1]; simp [bef], by rw [← g2]; simp [aft, Rt.items], d1, ⟨s2, d2⟩, fun o o2 o3 => by rw [d3 o o2 (fun hm => o3 (by rw [← k4]; exact hm)), i4 o o2 o3], by rw [d4, i5], rfl⟩
        simp [Rt.items]; try omega
end
end Go.Proofs.Ytbnlhhfobgjeaaa
set_option linter.all false
set_option maxRecDepth 100000
set_option maxHeartbeats 4000000
namespace Go.Proofs.Ytbnlhhfobgjeaaa
open Go Go.RowKit Go.Proofs
structure OpS where
  k : Int
  p : Int
  s : Str
def OpS.cells (o : OpS) : List AVal := [.int .i64 o.k, .int .i64 o.p, .str o.s]
def OpsAt (c : Cfg) (h : AHeap) (v : AVal) (l : List OpS) : Prop := Sl c h 3 v (l.map OpS.cells)
def Strs (c : Cfg) (h : AHeap) (v : AVal) (l : List Str) : Prop := Sl c h 1 v (l.map fun s => [.str s])
section
variable {ro : Nat → Option (List AVal)}
theorem small14 {h : AHeap} {v : AVal} {l : List OpS} (hv : OpsAt (cfgR ro) h v l) (hn : l.length < 2 ^ 63) {Q : AVal → AHeap → Prop}
    (hq1 : l.length ≤ 80 → (∀ o ∈ l, o.s.length ≤ 20) → Q (.bool true) h) (hq2 : Q (.bool false) h) : Ev (cfgR ro) 14 [v] h Q := by
  refine Ev.wp rfl rfl Try.func14 rfl ?_
  have hL : lenR (cfgR ro) h 39 v = .ok (.int .i64 l.length) := by have := hv.lenR (t := 39) un39; simpa using this
  have hX : ∀ i : Nat, i < l.length → indexAddrR Try.prog 39 v (.int .i64 (i : Int)) = .ok (elp v 3 i) := fun i hi => hv.idx un39 sz46 (by simpa using hi)
  have hA : ∀ i (hi : i < l.length), loadR (cfgR ro) h 46 (elp v 3 i) = .ok (.agg l[i].cells) := fun i hi => hv.load (by simp [hi]) ag46 sz46
  simp -implicitDefEqProofs [Try.f14, hL]
  obtain ⟨I, hI⟩ : ∃ I : Nat → List AVal → AHeap → Prop, I = fun m env h' => h' = h ∧ ∃ (i : Nat) (z : AVal), m + i = l.length ∧ (∀ o ∈ l.take i, o.s.length ≤ 20) ∧ env = (v :: .dead :: .dead :: .dead :: .dead :: v :: .int .i64 (l.length : Nat) :: .int .i64 (i : Nat) :: z :: .dead :: .dead :: .dead :: .dead :: .dead :: .dead :: .dead :: .dead :: .dead :: .dead :: []) := ⟨_, rfl⟩
  refine loop_of I ?_ l.length (by rw [hI]; exact ⟨rfl, 0, .dead, rfl, by simp, rfl⟩)
  intro m env h' hi
  rw [hI] at hi
  obtain ⟨rfl, i, z, hm, hall, rfl⟩ := hi
  by_cases hlt : i < l.length
  · have e0 := hA i hlt
    rw [OpS.cells] at e0
    by_cases h20 : (20 : Int) < (l[i].s.length : Int)
    · simp -implicitDefEqProofs [hlt, hX i hlt, e0, h20]
      exact hq2
    · have w1 : IntKind.i64.wrap ((i : Int) + 1) = ((i + 1 : Nat) : Int) := by rw [w64 (by omega) (by omega)]; push_cast; rfl
      simp -implicitDefEqProofs [hlt, hX i hlt, e0, h20, w1]
      have hall2 : ∀ o ∈ l.take (i + 1), o.s.length ≤ 20 := by
        intro o ho
        rw [List.take_succ_eq_append_getElem hlt, List.mem_append] at ho
        rcases ho with h1 | h1
        · exact hall o h1
        · have : o = l[i] := by simpa using h1
          rw [this]; omega
      exact .mk (m := m - 1) (by omega) (by rw [hI]; exact ⟨rfl, i + 1, .dead, by omega, hall2, by simp⟩)
  · have ht : l.take i = l := List.take_of_length_le (by omega)
    rw [ht] at hall
    by_cases h80 : (l.length : Int) ≤ 80
    · simp -implicitDefEqProofs [hlt, hL, h80]
      exact hq1 (by omega) hall
    · simp -implicitDefEqProofs [hlt, hL, h80]
      exact hq2
theorem join19 {h : AHeap} {v : AVal} {l : List Str} (hv : Strs (cfgR ro) h v l) (hn : l.length < 2 ^ 62) (ht : l.flatten.length < 2 ^ 62) {Q : AVal → AHeap → Prop}
    (hq : Q (.str l.flatten) h) : Ev (cfgR ro) 19 [v] h Q := by
  refine Ev.wp rfl rfl Try.func19 rfl ?_
  have hL : lenR (cfgR ro) h 42 v = .ok (.int .i64 l.length) := by have := hv.lenR (t := 42) un42; simpa using this
  have hX : ∀ i : Nat, i < l.length → indexAddrR Try.prog 42 v (.int .i64 (i : Int)) = .ok (elp v 1 i) := fun i hi => hv.idx un42 sz9 (by simpa using hi)
  have hA : ∀ i (hi : i < l.length), loadR (cfgR ro) h 9 (elp v 1 i) = .ok (.str l[i]) := fun i hi => hv.load1 (e := [.str l[i]]) (by simp [hi]) rfl ag9
  simp -implicitDefEqProofs [Try.f19]
  obtain ⟨I, hI⟩ : ∃ I : Nat → List AVal → AHeap → Prop, I = fun m env h' => h' = h ∧ ∃ (i : Nat) (z : AVal), m + i = l.length ∧ env = (v :: .dead :: .dead :: .str (l.take i).flatten :: .int .i64 (i : Nat) :: .dead :: .dead :: .dead :: z :: .dead :: .dead :: .dead :: .dead :: .dead :: .dead :: .dead :: .dead :: .dead :: []) := ⟨_, rfl⟩
  refine loop_of I ?_ l.length (by rw [hI]; exact ⟨rfl, 0, .dead, rfl, by simp⟩)
  intro m env h' hi
  rw [hI] at hi
  obtain ⟨rfl, i, z, hm, rfl⟩ := hi
  by_cases hlt : i < l.length
  · have w1 : IntKind.i64.wrap ((i : Int) + 1) = ((i + 1 : Nat) : Int) := by rw [w64 (by omega) (by omega)]; push_cast; rfl
    have hsp : l.flatten = (l.take i).flatten ++ (l[i] ++ (l.drop (i + 1)).flatten) := by
      rw [show l.flatten = (l.take i ++ l.drop i).flatten by rw [List.take_append_drop], List.drop_eq_getElem_cons hlt, List.flatten_append, List.flatten_cons]
    have hlen := congrArg List.length hsp
    simp only [List.length_append] at hlen
    have hnx : (l.take (i + 1)).flatten = (l.take i).flatten ++ l[i] := by rw [List.take_succ_eq_append_getElem hlt, List.flatten_append, List.flatten_cons, List.flatten_nil, List.append_nil]
    obtain ⟨acc, hacc⟩ : ∃ acc, acc = (l.take i).flatten := ⟨_, rfl⟩
    rw [← hacc] at hlen hnx ⊢
    simp -implicitDefEqProofs [hL, hlt, hX i hlt, hA i hlt, w1]
    exact ⟨by omega, .mk (m := m - 1) (by omega) (by rw [hI]; exact ⟨rfl, i + 1, .dead, by omega, by simp [hnx]⟩)⟩
  · simp -implicitDefEqProofs [hL, hlt]
    have : l.take i = l := List.take_of_length_le (by omega)
    rw [this]
    exact hq
theorem find18 {h : AHeap} {v : AVal} {l : List Str} {b : Int} (hv : Strs (cfgR ro) h v l) (hn : l.length < 2 ^ 62) (ht : l.flatten.length < 2 ^ 62) (hb : 1 ≤ b) {Q : AVal → AHeap → Prop}
    (hq1 : ∀ i : Nat, i < l.length → b ≤ ((l.take (i + 1)).flatten.length : Int) → ((l.take i).flatten.length : Int) < b → Q (.int .i64 i) h) (hq2 : (l.flatten.length : Int) < b → Q (.int .i64 (-1)) h) : Ev (cfgR ro) 18 [v, .int .i64 b] h Q := by
  refine Ev.wp rfl rfl Try.func18 rfl ?_
  have hL : lenR (cfgR ro) h 42 v = .ok (.int .i64 l.length) := by have := hv.lenR (t := 42) un42; simpa using this
  have hX : ∀ i : Nat, i < l.length → indexAddrR Try.prog 42 v (.int .i64 (i : Int)) = .ok (elp v 1 i) := fun i hi => hv.idx un42 sz9 (by simpa using hi)
  have hA : ∀ i (hi : i < l.length), loadR (cfgR ro) h 9 (elp v 1 i) = .ok (.str l[i]) := fun i hi => hv.load1 (e := [.str l[i]]) (by simp [hi]) rfl ag9
  simp -implicitDefEqProofs [Try.f18]
  obtain ⟨I, hI⟩ : ∃ I : Nat → List AVal → AHeap → Prop, I = fun m env h' => h' = h ∧ ∃ (i n : Nat) (z z2 : AVal), m + i = l.length ∧ n = (l.take i).flatten.length ∧ (n : Int) < b ∧ env = (v :: .int .i64 b :: .dead :: .dead :: .dead :: .int .i64 (n : Nat) :: .int .i64 (i : Nat) :: .dead :: .dead :: .dead :: z :: .dead :: .dead :: .dead :: .dead :: .dead :: .dead :: .dead :: .dead :: .dead :: .dead :: .dead :: z2 :: .dead :: []) := ⟨_, rfl⟩
  refine loop_of I ?_ l.length (by rw [hI]; exact ⟨rfl, 0, 0, .dead, .dead, rfl, by simp, by omega, rfl⟩)
  intro m env h' hi
  rw [hI] at hi
  obtain ⟨rfl, i, n, z, z2, hm, hnn, hnb, rfl⟩ := hi
  by_cases hlt : i < l.length
  · have w1 : IntKind.i64.wrap ((i : Int) + 1) = ((i + 1 : Nat) : Int) := by rw [w64 (by omega) (by omega)]; push_cast; rfl
    have hnx : (l.take (i + 1)).flatten.length = n + l[i].length := by rw [List.take_succ_eq_append_getElem hlt, List.flatten_append, List.flatten_cons, List.flatten_nil, List.append_nil, List.length_append, ← hnn]
    have hsp : l.flatten = (l.take (i + 1)).flatten ++ (l.drop (i + 1)).flatten := by rw [← List.flatten_append, List.take_append_drop]
    have hlen := congrArg List.length hsp
    rw [List.length_append, hnx] at hlen
    obtain ⟨n', hn'⟩ : ∃ n', n' = n + l[i].length := ⟨_, rfl⟩
    have w2 : IntKind.i64.wrap ((n : Int) + (l[i].length : Int)) = (n' : Int) := by rw [w64 (by omega) (by omega)]; omega
    by_cases hge : b ≤ (n' : Int)
    · simp -implicitDefEqProofs [hL, hlt, hX i hlt, hA i hlt, w2, hge]
      exact hq1 i hlt (by rw [hnx]; omega) (by rw [← hnn]; exact hnb)
    · simp -implicitDefEqProofs [hL, hlt, hX i hlt, hA i hlt, w1, w2, hge]
      exact .mk (m := m - 1) (by omega) (by rw [hI]; exact ⟨rfl, i + 1, n', .dead, _, by omega, by rw [hnx, hn'], by omega, by simp; rfl⟩)
  · simp -implicitDefEqProofs [hL, hlt]
    have : l.take i = l := List.take_of_length_le (by omega)
    rw [this] at hnn
    exact hq2 (by omega)
end
end Go.Proofs.Ytbnlhhfobgjeaaa
set_option linter.all false
set_option maxRecDepth 100000
set_option maxHeartbeats 4000000
namespace Go.Proofs.Ytbnlhhfobgjeaaa
open Go Go.RowKit Go.Proofs
section
variable {ro : Nat → Option (List AVal)}
theorem clo17 {h : AHeap} {b : Int} {x : Str} {q e : Nat} {fz : Bool} (hg : h.get q = some (.row e fz [.int .i64 b])) {Q : AVal → AHeap → Prop} (hq : Q (.bool (decide (b ≤ (x.length : Int)))) h) : Ev (cfgR ro) 17 [.agg [.str x], .ptr q 0] h Q := by
  refine Ev.wp rfl rfl Try.func17 rfl ?_
  simp -implicitDefEqProofs [Try.f17, hg]
  exact hq
end
end Go.Proofs.Ytbnlhhfobgjeaaa
set_option linter.all false
set_option maxRecDepth 100000
set_option maxHeartbeats 4000000
namespace Go.Proofs.Ytbnlhhfobgjeaaa
open Go Go.RowKit Go.Proofs
section
variable {ro : Nat → Option (List AVal)}
theorem find16 {h : AHeap} {rr q e : Nat} {fz : Bool} {b : Int} {T : Rt Str} (R : Rp h rr T) (hfit : T.tx.length < 2 ^ 60) (hb : 1 ≤ b) (hg : h.get q = some (.row e fz [.int .i64 b])) {Q : AVal → AHeap → Prop}
    (hq1 : (T.tx.length : Int) < b → Q (.tuple [.nilp, .agg [.str T.tx]]) h)
    (hq2 : ∀ L1 a y L2, T.items = L1 ++ (a, y) :: L2 → ((txs L1).length : Int) < b → b ≤ ((txs L1).length : Int) + (y.length : Int) → Q (.tuple [.ptr a 0, .agg [.str (txs L1)]]) h) :
    Ev (cfgR ro) 16 [.ptr rr 0, .func 17 [] [.ptr q 0]] h Q := by
  refine Ev.wp rfl rfl Try.func16 rfl ?_
  obtain ⟨s, hr⟩ := R.root
  have hr' := hr
  rw [rrow] at hr'
  cases hT : T with
  | nil =>
    rw [hT] at hr' hq1 R
    simp -implicitDefEqProofs [Try.f16, hr', Rt.ptr]
    refine all13 R ?_
    simp -implicitDefEqProofs
    exact hq1 (by simp [Rt.tx, Rt.items]; omega)
  | node o ht x l r =>
    have ha := R.tree
    rw [hT] at ha hr'
    obtain ⟨a1, a2, a3⟩ := at_node.1 ha
    rw [nrow] at a1
    rw [ptr_node] at hr'
    simp -implicitDefEqProofs [Try.f16, hr', a1]
    refine clo17 hg ?_
    have htx : T.tx = l.tx ++ x ++ r.tx := by rw [hT, tx_node]
    simp only [← List.append_assoc, ← htx]
    obtain ⟨tx, htx2⟩ : ∃ tx, tx = T.tx := ⟨_, rfl⟩
    rw [← htx2] at hq1 hfit ⊢
    by_cases hlt : b ≤ (tx.length : Int)
    · simp -implicitDefEqProofs [hlt]
      refine scope_loop2 (by simp [findLabel]) (fun m env h' => h' = h ∧ ∃ c n ht x l r L0 z0 z24, T = plug c (.node n ht x l r) ∧ txs (bef c) = L0 ∧ (L0.length : Int) < b ∧ b ≤ (L0.length : Int) + ((Rt.node n ht x l r).tx.length : Int) ∧ m = (Rt.node n ht x l r).items.length ∧
        env = (z0 :: .func 17 [] [.ptr q 0] :: .dead :: .dead :: .dead :: .cell [.str []] :: .cell [.str L0] :: .ptr n 0 :: .dead :: .dead :: .dead :: .dead :: .dead :: .dead :: .dead :: .dead :: .dead :: .dead :: .dead :: .dead :: .dead :: .dead :: .dead :: .dead :: z24 :: .dead :: .dead :: .dead :: .dead :: .dead :: .dead :: .dead :: .dead :: .dead :: .dead :: .dead :: .dead :: .dead :: .dead :: .dead :: .dead :: .dead :: .dead :: .dead :: .dead :: .dead :: .dead :: .dead :: .dead :: .dead :: .dead :: .dead :: .dead :: .dead :: .dead :: .dead :: .dead :: .dead :: .dead :: .dead :: .dead :: .dead :: .dead :: .dead :: .dead :: .dead :: .dead :: .dead :: .dead :: [])) ?_ _ ⟨rfl, [], o, ht, x, l, r, [], _, _, hT, rfl, by simp; omega, by rw [← hT, ← htx2]; simpa using hlt, rfl, rfl⟩
      rintro m env h' ih ⟨rfl, c, n, ht, x, l, r, L0, z0, z24, g1, g2, g3, g4, rfl, rfl⟩
      have hA : At TS h' .nilp (plug c (.node n ht x l r)) := g1 ▸ R.tree
      obtain ⟨ja, jl, jr⟩ := at_node.1 (At.split hA).1
      have ja' := ja
      rw [nrow] at ja'
      have htn : (Rt.node n ht x l r).tx = l.tx ++ x ++ r.tx := tx_node _ _ _ _ _
      have hfl : L0.length + (l.tx.length + x.length + r.tx.length) < 2 ^ 60 := by
        have : T.tx = txs (bef c) ++ (l.tx ++ x ++ r.tx) ++ txs (aft c) := by rw [g1, plug_tx, htn]; rfl
        have := congrArg List.length this
        simp only [List.length_append, g2] at this
        rw [← htx2] at this
        omega
      rw [htn] at g4
      simp only [List.length_append] at g4
      simp -implicitDefEqProofs [ja', undR, Try.underlying31, Try.underlying32, meth31, meth32]
      refine sum27 jl ?_
      simp -implicitDefEqProofs [ja', undR, Try.underlying31, Try.underlying32, meth31, meth32]
      refine plus58 (by omega) ?_
      obtain ⟨S1, hS1⟩ : ∃ S1, S1 = L0 ++ l.tx := ⟨_, rfl⟩
      rw [← hS1]
      have hl1 : S1.length = L0.length + l.tx.length := by rw [hS1, List.length_append]
      have hq2' : (S1.length : Int) < b → b ≤ (S1.length : Int) + (x.length : Int) → Q (.tuple [.ptr n 0, .agg [.str S1]]) h' := by
        intro k1 k2
        have e : S1 = txs (bef c ++ l.items) := by rw [hS1, txs_append, g2]; rfl
        rw [e] at k1 k2 ⊢
        refine hq2 (bef c ++ l.items) n x (r.items ++ aft c) ?_ k1 k2
        rw [g1, plug_items, items_node]; simp
      cases hll : l with
      | nil =>
        have hpl : l.ptr = .nilp := by rw [hll]; rfl
        have htl : l.tx.length = 0 := by rw [hll]; rfl
        rw [hpl] at ja'
        have hlt0 : (S1.length : Int) < b := by omega
        simp -implicitDefEqProofs [ja', undR, Try.underlying31, Try.underlying32, meth31, meth32, hpl, ptr_nil, ptr_node]
        refine meas57 ?_
        simp -implicitDefEqProofs [ja', undR, Try.underlying31, Try.underlying32, meth31, meth32, hpl, ptr_nil, ptr_node]
        refine plus58 (by rw [hS1]; simp only [List.length_append]; omega) ?_
        obtain ⟨S2, hS2⟩ : ∃ S2, S2 = S1 ++ x := ⟨_, rfl⟩
        rw [← hS2]
        simp -implicitDefEqProofs [ja', undR, Try.underlying31, Try.underlying32, meth31, meth32, hpl, ptr_nil, ptr_node]
        refine clo17 hg ?_
        have hl2 : S2.length = S1.length + x.length := by rw [hS2, List.length_append]
        by_cases hge : b ≤ (S2.length : Int)
        · simp -implicitDefEqProofs [hge]
          exact hq2' hlt0 (by omega)
        · cases hrr : r with
          | nil =>
            have htr : r.tx.length = 0 := by rw [hrr]; rfl
            exfalso
            omega
          | node o3 h3 x3 l3 r3 =>
            rw [hrr, ptr_node] at ja'
            simp -implicitDefEqProofs [hge, ja', undR, Try.underlying31, Try.underlying32, meth31, meth32, hpl, ptr_nil, ptr_node]
            have hil : r.items.length = l3.items.length + (r3.items.length + 1) := by rw [hrr]; simp [Rt.items]
            have him : (Rt.node n ht x l r).items.length = l.items.length + (r.items.length + 1) := by simp [Rt.items]
            refine ih _ ?_ _ _ ⟨rfl, ⟨n, ht, x, false, l⟩ :: c, o3, h3, x3, l3, r3, S2, _, _, ?_, ?_, ?_, ?_, rfl, rfl⟩
            · first | (rw [him, hil]; simp [Rt.items]; omega) | (simp [Rt.items] at him ⊢; omega)
            · rw [g1, hrr]; rfl
            · show txs (bef c ++ _) = _
              rw [txs_append, g2, hS2, hS1]; simp [txs, Rt.tx]
            · omega
            · have e9 := congrArg (fun t : Rt Str => t.tx.length) hrr; omega
      | node o2 h2 x2 l2 r2 =>
        have hpl : l.ptr = .ptr o2 0 := by rw [hll]; rfl
        rw [hpl] at ja'
        simp -implicitDefEqProofs [ja', undR, Try.underlying31, Try.underlying32, meth31, meth32, hpl, ptr_nil, ptr_node]
        refine clo17 hg ?_
        by_cases hle : b ≤ (S1.length : Int)
        · simp -implicitDefEqProofs [ja', undR, Try.underlying31, Try.underlying32, meth31, meth32, hpl, ptr_nil, ptr_node, hle]
          have hil : l.items.length = l2.items.length + (r2.items.length + 1) := by rw [hll]; simp [Rt.items]
          have him : (Rt.node n ht x l r).items.length = l.items.length + (r.items.length + 1) := by simp [Rt.items]
          refine ih _ ?_ _ _ ⟨rfl, ⟨n, ht, x, true, r⟩ :: c, o2, h2, x2, l2, r2, L0, _, _, ?_, ?_, g3, ?_, rfl, rfl⟩
          · first | (rw [him, hil]; simp [Rt.items]; omega) | (simp [Rt.items] at him ⊢; omega)
          · rw [g1, hll]; rfl
          · show txs (bef c ++ []) = _
            rw [List.append_nil, g2]
          · rw [← hll]; omega
        · have hlt0 : (S1.length : Int) < b := by omega
          simp -implicitDefEqProofs [ja', undR, Try.underlying31, Try.underlying32, meth31, meth32, hpl, ptr_nil, ptr_node, hle]
          refine meas57 ?_
          simp -implicitDefEqProofs [ja', undR, Try.underlying31, Try.underlying32, meth31, meth32, hpl, ptr_nil, ptr_node]
          refine plus58 (by rw [hS1]; simp only [List.length_append]; omega) ?_
          obtain ⟨S2, hS2⟩ : ∃ S2, S2 = S1 ++ x := ⟨_, rfl⟩
          rw [← hS2]
          simp -implicitDefEqProofs [ja', undR, Try.underlying31, Try.underlying32, meth31, meth32, hpl, ptr_nil, ptr_node]
          refine clo17 hg ?_
          have hl2 : S2.length = S1.length + x.length := by rw [hS2, List.length_append]
          by_cases hge : b ≤ (S2.length : Int)
          · simp -implicitDefEqProofs [hge]
            exact hq2' hlt0 (by omega)
          · cases hrr : r with
            | nil =>
              have htr : r.tx.length = 0 := by rw [hrr]; rfl
              exfalso
              omega
            | node o3 h3 x3 l3 r3 =>
              rw [hrr, ptr_node] at ja'
              simp -implicitDefEqProofs [hge, ja', undR, Try.underlying31, Try.underlying32, meth31, meth32, hpl, ptr_nil, ptr_node]
              have hil : r.items.length = l3.items.length + (r3.items.length + 1) := by rw [hrr]; simp [Rt.items]
              have him : (Rt.node n ht x l r).items.length = l.items.length + (r.items.length + 1) := by simp [Rt.items]
              refine ih _ ?_ _ _ ⟨rfl, ⟨n, ht, x, false, l⟩ :: c, o3, h3, x3, l3, r3, S2, _, _, ?_, ?_, ?_, ?_, rfl, rfl⟩
              · first | (rw [him, hil]; simp [Rt.items]; omega) | (simp [Rt.items] at him ⊢; omega)
              · rw [g1, hrr]; rfl
              · show txs (bef c ++ _) = _
                rw [txs_append, g2, hS2, hS1]; simp [txs, Rt.tx]
              · omega
              · have e9 := congrArg (fun t : Rt Str => t.tx.length) hrr; omega
    · simp -implicitDefEqProofs [hlt]
      refine all13 R ?_
      simp -implicitDefEqProofs
      rw [← htx2]
      exact hq1 (by omega)
end
end Go.Proofs.Ytbnlhhfobgjeaaa
set_option linter.all false
set_option maxRecDepth 100000
set_option maxHeartbeats 4000000
namespace Go.Proofs.Ytbnlhhfobgjeaaa
open Go Go.RowKit Go.Proofs
def strs (l : List Str) : List (List AVal) := l.map fun s => [.str s]
theorem strs_len (l : List Str) : (strs l).length = l.length := by simp [strs]
theorem strs_sz (l : List Str) : ∀ e ∈ strs l, e.length = 1 := by simp [strs]
theorem strs_take (l : List Str) (n : Nat) : (strs l).take n = strs (l.take n) := by simp [strs]
theorem strs_drop (l : List Str) (n : Nat) : (strs l).drop n = strs (l.drop n) := by simp [strs]
theorem flat1' : ∀ l : List Str, (l.map fun s => [AVal.str s]).flatten = l.map AVal.str
  | [] => rfl
  | e :: es => by simp [flat1' es]
section
variable {ro : Nat → Option (List AVal)}
theorem Mine.appS {h0 h : AHeap} {es new : List (List AVal)} {v w : AVal} (o : Mine h0 h 1 es v) (k : Old h0 h) (hw : Sl (cfgR ro) h 1 w new) (hn : ∀ e ∈ new, e.length = 1) (hb : es.length + new.length < 2 ^ 40) :
    ∃ v' h', appCore 1 16 h v new.length new.flatten = .ok (v', h') ∧ Mine h0 h' 1 (es ++ new) v' ∧ Old h0 h' := o.append (by decide) hn (by omega) k
theorem lput39 {h : AHeap} {v : AVal} {l : List Str} {at_ : Nat} {x : Str} (hv : Strs (cfgR ro) h v l) (hns : notSlc v) (hn : l.length < 2 ^ 30) (ha : at_ ≤ l.length) {Q : AVal → AHeap → Prop}
    (hq : ∀ v' h', Mine h h' 1 (strs (l.take at_ ++ x :: l.drop at_)) v' → Old h h' → Q v' h') : Ev (cfgR ro) 39 [v, .int .i64 at_, .str x] h Q := by
  refine Ev.wp rfl rfl Try.func39 rfl ?_
  have ⟨c1, s1, n1⟩ := Sl.upto (es := strs l) hv (by decide) hns (at_ := at_) (by simpa [strs] using ha) .i64
  obtain ⟨e1, he1⟩ : ∃ e1, e1 = (strs l).take at_ := ⟨_, rfl⟩
  rw [← he1] at s1
  have el1 : e1.length = at_ := by rw [he1, List.length_take, strs_len]; omega
  have ez1 : ∀ e ∈ e1, e.length = 1 := fun e he => strs_sz l e (List.mem_of_mem_take (by rw [← he1]; exact he))
  obtain ⟨w1, h1, a1, m1, o1⟩ := (Mine.nil h h 1).appS (Old.refl h) s1 ez1 (by simp; omega)
  simp only [List.nil_append] at m1
  have o2 : Old h (h1.push (.row 1 false [.str x])) := o1.push _
  have m1' : Mine h (h1.push (.row 1 false [.str x])) 1 e1 w1 := m1.keep ((Old.refl h1).push _)
  obtain ⟨w2, h2, a2, m2, o3⟩ := m1'.append1 (e := [.str x]) (bytes := 16) (by decide) rfl (by omega) o2
  have hv2 : Sl (cfgR ro) h2 1 v (strs l) := hv.old o3
  have ⟨c3, s3, n3⟩ := hv2.from_ (by decide) hns (at_ := at_) (by simpa [strs] using ha) .i64
  obtain ⟨e3, he3⟩ : ∃ e3, e3 = (strs l).drop at_ := ⟨_, rfl⟩
  rw [← he3] at s3
  have el3 : e3.length = l.length - at_ := by rw [he3, List.length_drop, strs_len]
  have ez3 : ∀ e ∈ e3, e.length = 1 := fun e he => strs_sz l e (List.mem_of_mem_drop (by rw [← he3]; exact he))
  obtain ⟨w3, h3, a3, m3, o4⟩ := m2.appS o3 s3 ez3 (by simp; omega)
  simp -implicitDefEqProofs [Try.f39, buildSliceR, reps, c1, s1.len, s1.read, a1, a2, c3, s3.len, s3.read, a3]
  refine hq _ _ ?_ o4
  rw [show strs (l.take at_ ++ x :: l.drop at_) = e1 ++ [[.str x]] ++ e3 by rw [he1, he3]; simp [strs]]
  exact m3
theorem lset30 {h : AHeap} {v : AVal} {l : List Str} {at_ : Nat} {x : Str} (hv : Strs (cfgR ro) h v l) (hn : l.length < 2 ^ 30) (ha : at_ < l.length) {Q : AVal → AHeap → Prop}
    (hq : ∀ v' h', Mine h h' 1 (strs (l.take at_ ++ x :: l.drop (at_ + 1))) v' → Old h h' → Q v' h') : Ev (cfgR ro) 30 [v, .int .i64 at_, .str x] h Q := by
  refine Ev.wp rfl rfl Try.func30 rfl ?_
  have s1 : Sl (cfgR ro) h 1 v (strs l) := hv
  obtain ⟨e1, he1⟩ : ∃ e1, e1 = strs l := ⟨_, rfl⟩
  rw [← he1] at s1
  have el1 : e1.length = l.length := by rw [he1, strs_len]
  have ez1 : ∀ e ∈ e1, e.length = 1 := fun e he => strs_sz l e (by rw [← he1]; exact he)
  obtain ⟨w1, h1, a1, m1, o1⟩ := (Mine.nil h h 1).appS (Old.refl h) s1 ez1 (by simp; omega)
  simp only [List.nil_append] at m1
  obtain ⟨_, ⟨rfl, rfl⟩ | ⟨q, fz, rfl, k1, k2, k3⟩⟩ := m1
  · simp at el1; omega
  · have hx : idxNat (.int .i64 (at_ : Int)) e1.length = .ok at_ := ix_nat (by omega)
    have hfl : e1.flatten.length = e1.length := by rw [flat_len ez1]; omega
    have hov : overR e1.flatten at_ [.str x] = .ok (e1.flatten.take at_ ++ [.str x] ++ e1.flatten.drop (at_ + 1)) := by
      unfold overR; rw [if_pos (by rw [hfl]; simp; omega)]; rfl
    simp -implicitDefEqProofs [Try.f30, s1.len, s1.read, a1, hx, k3, hov]
    refine hq _ _ ?_ (o1.set k1 _)
    have he : e1.flatten = l.map AVal.str := by rw [he1, strs, flat1' l]
    refine ⟨strs_sz _, .inr ⟨q, fz, ?_, k1, k2, ?_⟩⟩
    · rw [strs_len, el1]; simp; omega
    · rw [get_set_self, he]
      congr 2
      simp only [strs, flat1', List.map_append, List.map_cons, List.flatten_append, List.flatten_cons, List.map_take, List.map_drop, List.singleton_append, List.append_assoc]
      rw [← List.map_take, ← List.map_drop, ← List.map_take, ← List.map_drop, flat1', flat1']
theorem lremove32 {h : AHeap} {v : AVal} {l : List Str} {at_ : Nat} (hv : Strs (cfgR ro) h v l) (hns : notSlc v) (hn : l.length < 2 ^ 30) (ha : at_ < l.length) {Q : AVal → AHeap → Prop}
    (hq : ∀ v' h', Mine h h' 1 (strs (l.take at_ ++ l.drop (at_ + 1))) v' → Old h h' → Q v' h') : Ev (cfgR ro) 32 [v, .int .i64 at_] h Q := by
  refine Ev.wp rfl rfl Try.func32 rfl ?_
  have ⟨c1, s1, n1⟩ := Sl.upto (es := strs l) hv (by decide) hns (at_ := at_) (by simp [strs]; omega) .i64
  obtain ⟨e1, he1⟩ : ∃ e1, e1 = (strs l).take at_ := ⟨_, rfl⟩
  rw [← he1] at s1
  have el1 : e1.length = at_ := by rw [he1, List.length_take, strs_len]; omega
  have ez1 : ∀ e ∈ e1, e.length = 1 := fun e he => strs_sz l e (List.mem_of_mem_take (by rw [← he1]; exact he))
  obtain ⟨w1, h1, a1, m1, o1⟩ := (Mine.nil h h 1).appS (Old.refl h) s1 ez1 (by simp; omega)
  simp only [List.nil_append] at m1
  have hv2 : Sl (cfgR ro) h1 1 v (strs l) := hv.old o1
  have ⟨c3, s3, n3⟩ := hv2.from_ (by decide) hns (at_ := at_ + 1) (by simp [strs]; omega) .i64
  obtain ⟨e3, he3⟩ : ∃ e3, e3 = (strs l).drop (at_ + 1) := ⟨_, rfl⟩
  rw [← he3] at s3
  have el3 : e3.length = l.length - (at_ + 1) := by rw [he3, List.length_drop, strs_len]
  have ez3 : ∀ e ∈ e3, e.length = 1 := fun e he => strs_sz l e (List.mem_of_mem_drop (by rw [← he3]; exact he))
  obtain ⟨w3, h3, a3, m3, o4⟩ := m1.appS o1 s3 ez3 (by omega)
  have w1' : IntKind.i64.wrap ((at_ : Int) + 1) = ((at_ + 1 : Nat) : Int) := by rw [w64 (by omega) (by omega)]; push_cast; rfl
  obtain ⟨a5, ha5⟩ : ∃ a5, a5 = at_ + 1 := ⟨_, rfl⟩
  rw [← ha5] at w1' c3 s3
  simp -implicitDefEqProofs [Try.f32, c1, s1.len, s1.read, a1, c3, s3.len, s3.read, a3, w1']
  refine hq _ _ ?_ o4
  rw [show strs (l.take at_ ++ l.drop (at_ + 1)) = e1 ++ e3 by rw [he1, he3]; simp [strs]]
  exact m3
end
end Go.Proofs.Ytbnlhhfobgjeaaa
