/-
  A part of the proof of RopePlays, over the seat Ytbnlhhfobgjeaaa: for every input the law returns true, and the input reads as it did.
-/
import Derived.Test.YtbnlhhfobgjeaaaRe
import Derived.Test.YtbnlhhfobgjeaaaRows
import Derived.ProofKit
set_option linter.all false
set_option linter.all false
set_option maxRecDepth 100000
set_option maxHeartbeats 4000000
namespace Go.Proofs.Ytbnlhhfobgjeaaa
open Go Go.RowKit Go.Proofs
theorem headP_get (L : List (Nat × Str)) : headP L = match L[0]? with | none => .nilp | some p => .ptr p.1 0 := by cases L <;> rfl
section
variable {ro : Nat → Option (List AVal)}
theorem RowOk.idx {h0 h : AHeap} {w rr : Nat} {T : Rt Str} {pv sv : AVal} (r : RowOk h0 h w rr T pv sv) {j : Nat} (hj : j < T.items.length) :
    indexAddrR Try.prog 28 pv (.int .i64 (j : Int)) = .ok (elp pv 1 j) ∧ loadR (cfgR ro) h 24 (elp pv 1 j) = .ok (.ptr T.items[j].1 0) := by
  have hsl := r.pl.sl (c := cfgR ro)
  have hel : ((ptrsOf T.items).map fun e => [e])[j]? = some [.ptr T.items[j].1 0] := by simp [ptrsOf, hj]
  exact ⟨hsl.idx un28 sz24 (by simp [ptrsOf]; omega), hsl.load1 hel rfl ag24⟩
theorem RowOk.idxW {h0 h : AHeap} {w rr : Nat} {T : Rt Str} {pv sv : AVal} (r : RowOk h0 h w rr T pv sv) {j : Nat} (hj : j < T.items.length) :
    indexAddrR Try.prog 42 sv (.int .i64 (j : Int)) = .ok (elp sv 1 j) ∧ loadR (cfgR ro) h 9 (elp sv 1 j) = .ok (.str T.items[j].2) := by
  have hsl := r.st.sl (c := cfgR ro)
  have hel : ((strsOf T.items).map fun e => [e])[j]? = some [.str T.items[j].2] := by simp [strsOf, hj]
  exact ⟨hsl.idx un42 sz9 (by simp [strsOf]; omega), hsl.load1 hel rfl ag9⟩
theorem RowOk.lens {h0 h : AHeap} {w rr : Nat} {T : Rt Str} {pv sv : AVal} (r : RowOk h0 h w rr T pv sv) :
    lenR (cfgR ro) h 28 pv = .ok (.int .i64 T.items.length) ∧ lenR (cfgR ro) h 42 sv = .ok (.int .i64 T.items.length) := by
  constructor
  · have := (r.pl.sl (c := cfgR ro)).lenR (t := 28) un28
    simpa [ptrsOf] using this
  · have := (r.st.sl (c := cfgR ro)).lenR (t := 42) un42
    simpa [strsOf] using this
theorem ends33 {h0 h : AHeap} {w rr : Nat} {T : Rt Str} {pv sv : AVal} (r : RowOk h0 h w rr T pv sv) (hfit : T.items.length < 2 ^ 30 ∧ T.tx.length < 2 ^ 59) {Q : AVal → AHeap → Prop} (hq : Q (.bool true) h) :
    Ev (cfgR ro) 33 [.ptr w 0] h Q := by
  refine Ev.wp rfl rfl Try.func33 rfl ?_
  have hrow := r.row
  have hlp := (r.lens (ro := ro)).1
  have hlw := (r.lens (ro := ro)).2
  obtain ⟨n, hn⟩ : ∃ n, n = T.items.length := ⟨_, rfl⟩
  rw [← hn] at hlp hlw
  simp -implicitDefEqProofs [Try.f33, hrow]
  refine len12 r.R.rp ?_
  rw [← hn]
  simp -implicitDefEqProofs [hrow, hlw, same_self]
  refine all13 r.R.rp ?_
  simp -implicitDefEqProofs [hrow, hlw, same_self]
  refine join19 r.strs (by simp; omega) (by show T.tx.length < _; omega) ?_
  have hWt : (T.items.map (·.2)).flatten = T.tx := rfl
  rw [hWt]
  simp -implicitDefEqProofs [hrow, hlw, same_self]
  refine at35 r.R.rp (by omega) (fun _ => ?_) (fun p hp _ => by omega)
  simp -implicitDefEqProofs [hrow, hlw, same_self]
  refine at35 r.R.rp (by omega) (fun _ => ?_) (fun p hp he => ?_)
  rotate_left
  · simp [hn] at he
  by_cases h0 : n = 0
  · have hnil : T.items = [] := List.length_eq_zero_iff.1 (by omega)
    obtain ⟨s, hs⟩ := r.R.rp.root
    simp -implicitDefEqProofs [hrow, hlw, same_self, h0]
    refine first8 hs r.R.rp.tree ?_
    rw [lm_head, hnil, headP]
    simp -implicitDefEqProofs [hrow, hlw, same_self]
    refine last40 r.R.rp ?_
    rw [hnil, lastOf]
    simp -implicitDefEqProofs
    exact hq
  · obtain ⟨s, hs⟩ := r.R.rp.root
    have hx0 : indexAddrR Try.prog 28 pv (.int .i64 0) = .ok (elp pv 1 0) ∧ loadR (cfgR ro) h 24 (elp pv 1 0) = .ok (.ptr T.items[0].1 0) := r.idx (ro := ro) (j := 0) (by omega)
    obtain ⟨n1, hn1⟩ : ∃ n1, n1 = n - 1 := ⟨_, rfl⟩
    have w1 : IntKind.i64.wrap ((n : Int) - 1) = (n1 : Int) := by rw [w64 (by omega) (by omega)]; omega
    have hx1 := r.idx (ro := ro) (j := n1) (by omega)
    simp -implicitDefEqProofs [hrow, hlw, same_self, h0]
    refine first8 hs r.R.rp.tree ?_
    have e0 : headP T.items = .ptr T.items[0].1 0 := by
      rw [headP_get, List.getElem?_eq_getElem (by omega)]
    have e1 : lastOf T.items = .ptr T.items[n1].1 0 := by
      have : T.items.getLast? = some T.items[n1] := by
        rw [List.getLast?_eq_getElem?, show T.items.length - 1 = n1 by omega, List.getElem?_eq_getElem (by omega)]
      rw [lastOf, this]
    rw [lm_head, e0]
    simp -implicitDefEqProofs [hrow, hlw, hlp, same_self, hx0, ptrEq_self]
    refine last40 r.R.rp ?_
    rw [e1]
    simp -implicitDefEqProofs [hrow, hlw, hlp, same_self, hx0, hx1, w1, ptrEq_self]
    exact hq
end
end Go.Proofs.Ytbnlhhfobgjeaaa
set_option linter.all false
set_option maxRecDepth 100000
set_option maxHeartbeats 4000000
namespace Go.Proofs.Ytbnlhhfobgjeaaa
open Go Go.RowKit Go.Proofs
section
variable {ro : Nat → Option (List AVal)}
theorem node_at {h : AHeap} {T : Rt Str} {a : Nat} {y : Str} {L1 L2 : List (Nat × Str)} (ha : At TS h .nilp T) (hnd : T.ids.Nodup) (hT : T.items = L1 ++ (a, y) :: L2) :
    ∃ u l r ht sz all, h.get a = some (nrow u l r ht sz y all) := by
  obtain ⟨c, ht, l, r, e1, e2⟩ := place hT hnd
  exact ⟨_, _, _, _, _, _, (at_node.1 (At.split (t := .node a ht y l r) (e1 ▸ ha)).1).1⟩
theorem is20 {h0 h : AHeap} {w rr : Nat} {T : Rt Str} {pv sv : AVal} (r : RowOk h0 h w rr T pv sv) (hfit : T.items.length < 2 ^ 30 ∧ T.tx.length < 2 ^ 59) {Q : AVal → AHeap → Prop} (hq : Q (.bool true) h) :
    Ev (cfgR ro) 20 [.ptr w 0] h Q := by
  refine Ev.wp rfl rfl Try.func20 rfl ?_
  have hrow := r.row
  have hlp := (r.lens (ro := ro)).1
  have hlw := (r.lens (ro := ro)).2
  obtain ⟨n, hn⟩ : ∃ n, n = T.items.length := ⟨_, rfl⟩
  rw [← hn] at hlp hlw
  simp -implicitDefEqProofs [Try.f20, hrow]
  refine ends33 r hfit ?_
  simp -implicitDefEqProofs [hrow, hlp]
  obtain ⟨I, hI⟩ : ∃ I : Nat → List AVal → AHeap → Prop, I = fun m env h' => h' = h ∧ ∃ (i : Nat), m + i = n ∧ env = (.ptr w 0 :: .dead :: .dead :: .dead :: .dead :: .dead :: .dead :: .dead :: .dead :: .dead :: .dead :: .dead :: .dead :: pv :: .int .i64 (n : Nat) :: .int .i64 (i : Nat) :: .dead :: .dead :: .dead :: .dead :: .dead :: .dead :: .dead :: .dead :: .dead :: .dead :: .dead :: .dead :: .dead :: .dead :: .dead :: .dead :: .dead :: .dead :: .dead :: .dead :: .dead :: .dead :: .dead :: .dead :: .dead :: .dead :: .dead :: .dead :: .dead :: .dead :: .dead :: .dead :: .dead :: .dead :: .dead :: .dead :: .dead :: .dead :: .dead :: .dead :: .dead :: .dead :: .dead :: .dead :: .dead :: .dead :: .dead :: .dead :: .dead :: .dead :: .dead :: .dead :: .dead :: .dead :: .dead :: .dead :: .dead :: .dead :: .dead :: .dead :: .dead :: .dead :: .dead :: .dead :: .dead :: .dead :: .dead :: .dead :: .dead :: .dead :: .dead :: .dead :: .dead :: .dead :: .dead :: .dead :: .dead :: .dead :: .dead :: .dead :: .dead :: .dead :: .dead :: .dead :: .dead :: .dead :: .dead :: .dead :: .dead :: .dead :: .dead :: .dead :: .dead :: .dead :: .dead :: .dead :: .dead :: .dead :: .dead :: .dead :: .dead :: .dead :: .dead :: .dead :: .dead :: .dead :: .dead :: .dead :: .dead :: .dead :: .dead :: .dead :: .dead :: .dead :: .dead :: []) := ⟨_, rfl⟩
  refine loop_of I ?_ n (by rw [hI]; exact ⟨rfl, 0, rfl, rfl⟩)
  intro m env h' hi
  rw [hI] at hi
  obtain ⟨rfl, i, hm, rfl⟩ := hi
  by_cases hlt : i < n
  · have hi' : i < T.items.length := by omega
    obtain ⟨a, y, hay⟩ : ∃ a y, T.items[i] = (a, y) := ⟨_, _, rfl⟩
    have hT : T.items = T.items.take i ++ (a, y) :: T.items.drop (i + 1) := by
      rw [← hay, ← List.drop_eq_getElem_cons hi', List.take_append_drop]
    have hx := r.idx (ro := ro) hi'
    have hxw := r.idxW (ro := ro) hi'
    rw [hay] at hx hxw
    obtain ⟨u, ll, rl, ht, sz, all, hnode⟩ := node_at r.R.rp.tree r.R.rp.nd hT
    simp -implicitDefEqProofs [hlt, hx, hrow]
    refine item34 hnode ?_
    simp -implicitDefEqProofs [hlt, hx, hrow, hxw, same_self]
    refine at35 r.R.rp (by omega) (fun _ => by omega) (fun p hp he => ?_)
    have hpa : p.1 = a := by
      simp only [Int.toNat_natCast] at he
      rw [List.getElem?_eq_getElem hi', hay] at he
      cases he; rfl
    rw [hpa]
    simp -implicitDefEqProofs [hlt, hx, hrow, hxw, same_self, ptrEq_self]
    refine index9 r.R.rp.tree r.R.rp.nd hT (by omega) ?_
    have hl1 : (T.items.take i).length = i := by rw [List.length_take]; omega
    rw [hl1]
    have hst : Strs (cfgR ro) h' sv (T.items.map (·.2)) := r.strs
    obtain ⟨W, hW⟩ : ∃ W, W = T.items.map (·.2) := ⟨_, rfl⟩
    have hWt : W.flatten = T.tx := by rw [hW]; rfl
    have hWl : W.length = T.items.length := by rw [hW]; simp
    rw [← hW] at hst
    have ⟨c1, s1, _⟩ := Sl.upto (es := W.map fun s => [.str s]) hst (by decide) r.st.notSlc (at_ := i) (by simp; omega) .i64
    have hst2 : Strs (cfgR ro) h' (cutV sv 1 0 i) (W.take i) := by unfold Strs; rw [List.map_take]; exact s1
    have htk : (W.take i).flatten = txs (T.items.take i) := by rw [hW, ← List.map_take]; rfl
    simp -implicitDefEqProofs [hlt, hx, hrow, hxw, same_self, ptrEq_self]
    refine before10 r.R.rp.tree r.R.rp.nd hT (by omega) ?_
    simp -implicitDefEqProofs [hlt, hx, hrow, hxw, same_self, ptrEq_self, c1]
    refine join19 hst2 (by simp; omega) ?_ ?_
    · have := take_mono W (i := i) (j := W.length) (by omega)
      rw [List.take_length, hWt] at this; omega
    rw [htk]
    simp -implicitDefEqProofs [hlt, hx, hrow, hxw, same_self, ptrEq_self, c1]
    refine next11 r.R.rp.tree r.R.rp.nd hT ?_
    simp -implicitDefEqProofs
    refine prev36 r.R.rp.tree r.R.rp.nd hT ?_
    obtain ⟨i2, hi2⟩ : ∃ i2, i2 = i + 1 := ⟨_, rfl⟩
    obtain ⟨i0, hi0⟩ : ∃ i0, i0 = i - 1 := ⟨_, rfl⟩
    have w1 : IntKind.i64.wrap ((i : Int) + 1) = (i2 : Int) := by rw [w64 (by omega) (by omega)]; omega
    rw [← hi2]
    have hpv : ∀ j (hj : 0 < i) , j = i0 → ∃ (hj : j < T.items.length), lastOf (T.items.take i) = .ptr T.items[j].1 0 := by
      rintro j hj rfl
      have h9 : j < T.items.length := by omega
      refine ⟨h9, ?_⟩
      have : (T.items.take i).getLast? = some T.items[j] := by
        rw [List.getLast?_eq_getElem?, hl1, ← hi0, List.getElem?_take, if_pos (by omega), List.getElem?_eq_getElem h9]
      rw [lastOf, this]
    have hnx : ∀ (hj : i2 < T.items.length), headP (T.items.drop i2) = .ptr T.items[i2].1 0 := by
      intro hj
      rw [headP_get, List.getElem?_drop, Nat.add_zero, List.getElem?_eq_getElem hj]
    have hnx0 : ¬ i2 < T.items.length → headP (T.items.drop i2) = .nilp := by
      intro hj
      rw [headP_get, List.getElem?_drop, Nat.add_zero, List.getElem?_eq_none (by omega)]
    have hpv0 : i = 0 → lastOf (T.items.take i) = .nilp := by rintro rfl; rfl
    have fin : headK I m (.ptr w 0 :: .dead :: .dead :: .dead :: .dead :: .dead :: .dead :: .dead :: .dead :: .dead :: .dead :: .dead :: .dead :: pv :: .int .i64 (n : Nat) :: .int .i64 (i2 : Nat) :: .dead :: .dead :: .dead :: .dead :: .dead :: .dead :: .dead :: .dead :: .dead :: .dead :: .dead :: .dead :: .dead :: .dead :: .dead :: .dead :: .dead :: .dead :: .dead :: .dead :: .dead :: .dead :: .dead :: .dead :: .dead :: .dead :: .dead :: .dead :: .dead :: .dead :: .dead :: .dead :: .dead :: .dead :: .dead :: .dead :: .dead :: .dead :: .dead :: .dead :: .dead :: .dead :: .dead :: .dead :: .dead :: .dead :: .dead :: .dead :: .dead :: .dead :: .dead :: .dead :: .dead :: .dead :: .dead :: .dead :: .dead :: .dead :: .dead :: .dead :: .dead :: .dead :: .dead :: .dead :: .dead :: .dead :: .dead :: .dead :: .dead :: .dead :: .dead :: .dead :: .dead :: .dead :: .dead :: .dead :: .dead :: .dead :: .dead :: .dead :: .dead :: .dead :: .dead :: .dead :: .dead :: .dead :: .dead :: .dead :: .dead :: .dead :: .dead :: .dead :: .dead :: .dead :: .dead :: .dead :: .dead :: .dead :: .dead :: .dead :: .dead :: .dead :: .dead :: .dead :: .dead :: .dead :: .dead :: .dead :: .dead :: .dead :: .dead :: .dead :: .dead :: .dead :: .dead :: []) h' :=
      .mk (m := m - 1) (by omega) (by rw [hI]; exact ⟨rfl, i2, by omega, rfl⟩)
    by_cases h2 : i2 < n
    · have hx2 := r.idx (ro := ro) (j := i2) (by omega)
      have hne : decide ((i2 : Int) = (n : Int)) = false := decide_eq_false (by omega)
      have hne2 : decide (i2 = n) = false := decide_eq_false (by omega)
      rw [hnx (by omega)]
      by_cases h0 : 0 < i
      · obtain ⟨hj, hlo⟩ := hpv i0 h0 rfl
        have hx0 := r.idx (ro := ro) (j := i0) hj
        have w0 : IntKind.i64.wrap ((i : Int) - 1) = (i0 : Int) := by rw [w64 (by omega) (by omega)]; omega
        have hd : decide ((i : Int) = 0) = false := decide_eq_false (by omega)
        have hd2 : decide (i = 0) = false := decide_eq_false (by omega)
        rw [hlo]
        simp -implicitDefEqProofs [hlt, hrow, hlp, w1, w0, h2, h0, hd, hd2, hne, hne2, hx2, hx0, ptrEq_self]
        exact fin
      · rw [hpv0 (by omega)]
        have h3 : ¬ (0 < i) := h0
        have hd : decide ((i : Int) = 0) = true := decide_eq_true (by omega)
        have hd2 : decide (i = 0) = true := decide_eq_true (by omega)
        simp -implicitDefEqProofs [hlt, hrow, hlp, w1, h2, h3, hd, hd2, hne, hne2, hx2, ptrEq_self]
        exact fin
    · have heq : i2 = n := by omega
      rw [hnx0 (by omega)]
      by_cases h0 : 0 < i
      · obtain ⟨hj, hlo⟩ := hpv i0 h0 rfl
        have hx0 := r.idx (ro := ro) (j := i0) hj
        have w0 : IntKind.i64.wrap ((i : Int) - 1) = (i0 : Int) := by rw [w64 (by omega) (by omega)]; omega
        have hd : decide ((i : Int) = 0) = false := decide_eq_false (by omega)
        have hd2 : decide (i = 0) = false := decide_eq_false (by omega)
        rw [hlo]
        simp -implicitDefEqProofs [hlt, hrow, hlp, w1, w0, heq, h0, hd, hd2, hx0, ptrEq_self]
        rw [heq] at fin
        exact fin
      · rw [hpv0 (by omega)]
        have h3 : ¬ (0 < i) := h0
        have hd : decide ((i : Int) = 0) = true := decide_eq_true (by omega)
        have hd2 : decide (i = 0) = true := decide_eq_true (by omega)
        simp -implicitDefEqProofs [hlt, hrow, hlp, w1, heq, h3, hd, hd2, ptrEq_self]
        rw [heq] at fin
        exact fin
  · simp -implicitDefEqProofs [hlt]
    exact hq
end
end Go.Proofs.Ytbnlhhfobgjeaaa
set_option linter.all false
set_option maxRecDepth 100000
set_option maxHeartbeats 4000000
namespace Go.Proofs.Ytbnlhhfobgjeaaa
open Go Go.RowKit Go.Proofs
section
variable {ro : Nat → Option (List AVal)}
theorem plays5 {h : AHeap} {v : AVal} {l : List OpS} (hv : OpsAt (cfgR ro) h v l) (hn : l.length < 2 ^ 63) {Q : AVal → AHeap → Prop}
    (hq : ∀ h', Old h h' → Q (.bool true) h') : Ev (cfgR ro) 5 [v] h Q := by
  refine Ev.wp rfl rfl Try.func5 rfl ?_
  simp -implicitDefEqProofs [Try.f5]
  refine anchor6 (fun h1 k01 => ?_)
  have hv1 : OpsAt (cfgR ro) h1 v l := hv.old k01
  simp -implicitDefEqProofs
  refine small14 hv1 hn (fun hs1 hs2 => ?_) ?_
  rotate_left
  · simp -implicitDefEqProofs
    exact hq h1 k01
  have hL : ∀ h', Old h1 h' → lenR (cfgR ro) h' 39 v = .ok (.int .i64 l.length) := fun h' o => by have := (Sl.old hv1 o).lenR (t := 39) un39; simpa using this
  have hX : ∀ i : Nat, i < l.length → indexAddrR Try.prog 39 v (.int .i64 (i : Int)) = .ok (elp v 3 i) := fun i hi => hv.idx un39 sz46 (by simpa using hi)
  have hA : ∀ h', Old h1 h' → ∀ i (hi : i < l.length), loadR (cfgR ro) h' 46 (elp v 3 i) = .ok (.agg l[i].cells) := fun h' o i hi => (Sl.old hv1 o).load (by simp [hi]) ag46 sz46
  obtain ⟨rr, hrr⟩ : ∃ rr, rr = h1.next := ⟨_, rfl⟩
  have hr0 : RpO h1 (h1.push (.row 0 false [.nilp, .int .u64 0])) rr .nil := by rw [hrr]; exact new27 (Old.refl h1)
  obtain ⟨h2, hh2⟩ : ∃ h2, h2 = h1.push (.row 0 false [.nilp, .int .u64 0]) := ⟨_, rfl⟩
  rw [← hh2] at hr0
  obtain ⟨w, hw⟩ : ∃ w, w = h2.next := ⟨_, rfl⟩
  have hrow0 : RowOk h1 (h2.push (.row 0 false [.ptr rr 0, .nils, .nils])) w rr .nil .nils .nils := by
    refine ⟨by rw [hw, get_push_next], hr0.keep (by simp) (fun o ho => ?_), ?_, by rw [hw]; simp, ?_, by simp [Rt.ids, Rt.items], .inl ⟨rfl, rfl⟩, .inl ⟨rfl, rfl⟩⟩
    · have h3 := hr0.old.1
      have h4 := hr0.rp.lr
      rw [AHeap.get_push, if_neg (by rcases ho with rfl | h5 | h5; omega; simp [Rt.ids, Rt.items] at h5; omega)]
    · rw [hw]; exact hr0.old.1
    · have := hr0.rp.lr; omega
  simp -implicitDefEqProofs [← hrr, ← hh2, ← hw, hL _ hrow0.R.old]
  obtain ⟨I, hI⟩ : ∃ I : Nat → List AVal → AHeap → Prop, I = fun m env h' => ∃ (i : Nat) (T : Rt Str) (pv sv : AVal), m + i = l.length ∧ RowOk h1 h' w rr T pv sv ∧ T.items.length ≤ i ∧ T.tx.length ≤ 20 * i ∧
      env = (.dead :: .dead :: .dead :: .ptr w 0 :: .dead :: .dead :: .dead :: .dead :: .dead :: .dead :: .dead :: .dead :: .dead :: .dead :: .dead :: v :: .int .i64 (l.length : Nat) :: .int .i64 (i : Nat) :: .dead :: .dead :: .dead :: .dead :: .dead :: .dead :: .dead :: .dead :: .dead :: .dead :: .dead :: .dead :: .dead :: []) := ⟨_, rfl⟩
  refine loop_of I ?_ l.length (by rw [hI]; exact ⟨0, .nil, .nils, .nils, rfl, hrow0, by simp [Rt.items], by simp [Rt.tx, Rt.items], rfl⟩)
  intro m env h' hi
  rw [hI] at hi
  obtain ⟨i, T, pv, sv, hm, R, hT1, hT2, rfl⟩ := hi
  by_cases hlt : i < l.length
  · have hA' := hA h' R.R.old i hlt
    rw [OpS.cells] at hA'
    simp -implicitDefEqProofs [hlt, hX i hlt, hA']
    refine do15 (o := l[i]) R (hs2 _ (List.getElem_mem hlt)) ⟨by omega, by omega⟩ (fun h3 T' pv' sv' R' e1 e2 => ?_)
    have w1 : IntKind.i64.wrap ((i : Int) + 1) = ((i + 1 : Nat) : Int) := by rw [w64 (by omega) (by omega)]; push_cast; rfl
    simp -implicitDefEqProofs [w1]
    refine is20 R' ⟨by omega, by omega⟩ ?_
    simp -implicitDefEqProofs [w1]
    exact .mk (m := m - 1) (by omega) (by rw [hI]; exact ⟨i + 1, T', pv', sv', by omega, R', by omega, by omega, by simp⟩)
  · simp -implicitDefEqProofs [hlt]
    exact hq h' (k01.trans R.R.old)
end
end Go.Proofs.Ytbnlhhfobgjeaaa
set_option linter.all false
set_option maxRecDepth 100000
set_option maxHeartbeats 4000000
namespace Go.Proofs.Ytbnlhhfobgjeaaa
open Go Go.RowKit Go.Proofs Go.ChangeShapes Go.WideShapes Go.ChangeAt

theorem op_of {ro n} {x : List AVal} (h : Rdg Try.prog ro n 46 x) : ∃ e : OpS, x = e.cells := by
  obtain ⟨hl, m, hf⟩ := rdg_struct Try.underlying46 h
  rw [co46] at hl
  obtain ⟨a, b, c, rfl⟩ : ∃ a b c, x = [a, b, c] := by
    match x, hl with
    | [a, b, c], _ => exact ⟨a, b, c, rfl⟩
  obtain ⟨i0, h0, _⟩ := rdg_int Try.underlying3 (hf 0 _ rfl)
  obtain ⟨i1, h1, _⟩ := rdg_int Try.underlying3 (hf 1 _ rfl)
  obtain ⟨i2, h2, _⟩ := rdg_str Try.underlying9 (hf 2 _ rfl)
  simp at h0 h1 h2
  exact ⟨⟨i0, i1, i2⟩, by simp [OpS.cells, h0, h1, h2]⟩
theorem ops_of : ∀ {ess : List (List AVal)}, (∀ x ∈ ess, ∃ e : OpS, x = e.cells) → ∃ l : List OpS, ess = l.map OpS.cells
  | [], _ => ⟨[], rfl⟩
  | x :: ess, h => by
    obtain ⟨e, rfl⟩ := h x (by simp)
    obtain ⟨l, rfl⟩ := ops_of (ess := ess) (fun y hy => h y (by simp [hy]))
    exact ⟨e :: l, rfl⟩

theorem own : ownKnob Try.prog.godebug = none := by kernel_rfl
theorem laidOut : laidOutB Try.prog = true := by kernel_rfl

theorem plays_lifted (os : Os) (started : os.Started) (H : Type) (enc : TypeId × Value → H) :
    ReturnsInHanded {} Try.checked os 5 .any (Ytbnlhhfobgjeaaa.Rows.ropePlaysSpec.pre6 enc Try.prog Try.f5 Ytbnlhhfobgjeaaa.Rows.ropePlaysRow.domain false) (Ytbnlhhfobgjeaaa.Rows.ropePlaysSpec.post enc Try.prog Try.f5 false true false false) := by
  refine returnsInHanded_of_change (C := Try.checked) own started (by kernel_rfl) Try.func5
    (ChangeSpec.witness6 (enc := enc) (C := Try.checked) false ⟨#[], #[.slice none 0 0], []⟩ 8 (by kernel_rfl) (by kernel_rfl) (by kernel_rfl) (by kernel_rfl)) ?_
  intro W base args ds gs before hval0 hW hcnd _
  have hval : ∀ (j : Nat) t v, Try.f5.params[j]? = some t → args[j]? = some v → Value.okWide Try.prog W .any base t v := hval0
  have hW' := hW
  have hlt := hW.lt
  obtain ⟨p, q, hA0, hV, rfl, hfz, hnd⟩ := hW
  have hA : DataW.TrodAll enc Try.prog W 0 (fun _ => true) true Try.f5.params.toList args.toList ds p := hA0
  have hA1 := hA
  rw [Try.params5] at hA hval
  obtain ⟨v0, d0, rfl, rfl, h0⟩ := trodAll_one hA
  obtain ⟨rfl, rfl⟩ := trodVars_none hV
  obtain ⟨ess, n, hx, hn, hsl⟩ := argSlice covAll (of_decide_eq_true (by kernel_rfl)) Try.underlying39 (by rw [co46]; decide) (hval 0 39 v0 rfl rfl) h0
  obtain ⟨l, rfl⟩ := ops_of (fun x hm => op_of (hx x hm).2)
  have hE : OpsAt (cfgR (roW W)) heap0 (absV v0) l := by
    have := hsl (cfgR (roW W)) heap0 rfl
    rw [co46] at this
    exact this
  obtain ⟨k, v, h', hq, rfl⟩ := plays5 (Q := fun v _ => v = .bool true) hE (by simpa using hn) (fun _ _ => rfl)
  refine (entry (c := cfg) sureC (W := W) (args := #[v0]) (k := k) (v := .bool true) (h' := h') Try.func5 rfl rfl (by exact hq)).mono fun e W' ⟨u, ι, he, hv, hb⟩ => ?_
  have hu : u = .bool true := hv
  subst hu
  refine ⟨_, he, post_below hW' (fun b sp hd => trodAll_mk1 (shut_bool Try.underlying4 true)) (trodAll_below laidOut hb (by kernel_rfl) hA1 (fun x hx => hlt x (by simpa using hx))) (by exact rfl) hb⟩

theorem plays_holds : Ytbnlhhfobgjeaaa.Rows.RopePlaysSaid :=
  OpenClaim.holds_of_wide 5 Try.f5 rfl rfl rfl rfl rfl rfl rfl ⟨rfl, rfl, rfl, rfl, rfl⟩ rfl rfl rfl rfl rfl (by kernel_rfl) Try.func5 (by kernel_rfl)
    (of_decide_eq_true (by kernel_rfl)) (by unfold Func.isWrapper; first | (rw [if_pos (by decide +kernel)]; kernel_rfl) | (rw [if_neg (by decide +kernel)]; exact ⟨rfl, rfl⟩))
    (fun os started H enc _ => plays_lifted os started H enc)
end Go.Proofs.Ytbnlhhfobgjeaaa
