/-
  copy, clear, rows that are made, conversions, lengths, builtins.
-/
import Derived.Test.YtbnlhhfobgjeaaaZzOp7
set_option linter.all false
namespace Go.Proofs.Ytbnlhhfobgjeaaa
open Go Go.RowKit

section
variable {F : Fix} {ι : Inj} {h : AHeap} {w : World}

theorem elemSl_ok {P : Program} {t e : Nat} (hq : elemSl P t = .ok e) : P.underlying t = some (.slice e) := by
  unfold elemSl at hq
  obtain ⟨d, hd, hq⟩ := Res.bind_ok hq
  split at hq
  · cases hq; exact undR_ok hd
  · cases hq

/-- cells written to a row, from a slice's beginning on -/
theorem write_ok (r : Rel F ι h w) {o off : Nat} {ez : Nat} {fz : Bool} {vs vs' cs : List AVal} {e : Ent} {us : List Value} {xo : Nat} (ho : h.get o = some (.row ez fz vs)) (he : ι o = some e)
    (hxo : xo = e.base + off ∨ cs = []) (hov : overR vs off cs = .ok vs') (hu : VRels ι F.ρ cs us) (h1 : ∀ v ∈ us, oneC v = true) :
    ∃ w', (storeCells ⟨e.blk, xo, none⟩ us).run F.c.P w = .ok () w' ∧ Rel F ι (h.set o (.row ez fz vs')) w' ∧ Step ι h w ι (h.set o (.row ez fz vs')) w' := by
  obtain ⟨e', g1, _, g⟩ := r.obj o _ ho
  rw [he] at g1; cases g1
  by_cases hc : cs = []
  · subst hc
    have : us = [] := by simpa [VRels] using hu
    subst this
    have hvs : vs' = vs := by simpa using (overR_ok hov).2
    subst hvs
    obtain ⟨t1, t2⟩ := r.set (.row ez fz vs') ho he (Keep.refl _ w) g
    exact ⟨w, rfl, t1, t2⟩
  · obtain rfl := hxo.resolve_right hc
    obtain ⟨row, s1, s2⟩ := g.over (P := F.c.P) hov hu h1
    obtain ⟨t1, t2⟩ := r.set (.row ez fz vs') ho he (Keep.setRow w e.blk row) s2
    exact ⟨_, s1, t1, t2⟩

theorem readSl_len {c : Cfg} {size n : Nat} {x : AVal} {new : List AVal} (hnew : readSl c h size n x = .ok new) : new.length = n * size := by
  unfold readSl at hnew
  split at hnew
  · split at hnew <;> cases hnew; rename_i hn0; simp [hn0]
  · split at hnew
    · rename_i hn0; cases hnew; simp [hn0]
    split at hnew
    · obtain ⟨t1, rfl⟩ := takeR_ok hnew; simp; omega
    · cases hnew
  · split at hnew
    · rename_i hn0; cases hnew; simp [hn0]
    split at hnew
    · obtain ⟨t1, rfl⟩ := takeR_ok hnew; simp; omega
    · cases hnew
  · split at hnew
    · rename_i hn0; cases hnew; simp [hn0]
    split at hnew
    · obtain ⟨t1, rfl⟩ := takeR_ok hnew; simp; omega
    · cases hnew
  · split at hnew
    · rename_i hs1; cases hnew; simp [hs1.1]; omega
    · cases hnew
  · cases hnew

theorem copy_ok (ok : F.Ok) (r : Rel F ι h w) {dt : Nat} {d s v : AVal} {h' : AHeap} {dv sv : Value} {ts : Array TypeId} {ty : TypeId} (h0 : ts[0]? = some dt) (hq : copyR F.c h dt d s = .ok (v, h'))
    (hd : VRel ι F.ρ d dv) (hs : VRel ι F.ρ s sv) :
    ∃ u w', (Builtin.copy_ ts ty #[dv, sv]).run F.c.P w = .ok u w' ∧ VRel ι F.ρ v u ∧ Rel F ι h' w' ∧ Step ι h w ι h' w' := by
  unfold copyR at hq
  obtain ⟨e, he, hq1⟩ := Res.bind_ok hq; clear hq
  obtain ⟨size, hsz, hq2⟩ := Res.bind_ok hq1; clear hq1
  obtain ⟨dn, hdn, hq3⟩ := Res.bind_ok hq2; clear hq2
  obtain ⟨sn, hsn, hq4⟩ := Res.bind_ok hq3; clear hq3
  obtain ⟨cs, hcs, hq5⟩ := Res.bind_ok hq4; clear hq4
  have hu := elemSl_ok he
  obtain ⟨arr, a1, a2, a3⟩ := readSl_ok ok r hcs hs hsn (Nat.min_le_left _ _)
  have a1w := a1 w.drawn
  have hslen := lenA_ok (w := w) hsn hs
  have hcl := readSl_len hcs
  have hmin : Nat.min sn dn = min sn dn := rfl
  split at hq5
  · cases hq5
    simp only [VRel] at hd; subst hd
    cases hdn
    refine ⟨.int .i64 ((min sn 0 : Nat) : Int), w, ?_, rfl, r, Step.refl _ _ _⟩
    have : (Builtin.firstCells size 0 sv).run F.c.P w = .ok arr w := by simpa using a1w
    simp [Builtin.copy_, h0, run_und hu, hslen, run_size hsz, goInt, this]
  · rename_i o off len
    cases hdn
    split at hq5
    rotate_left; · cases hq5
    rename_i ez fz vs ho
    obtain ⟨vs', hov, hq6⟩ := Res.bind_ok hq5
    cases hq6
    obtain ⟨en, xo, cap, hen, rfl, hcap, hlc, hxo⟩ := hd
    obtain ⟨w', s1, s2, s3⟩ := write_ok r ho hen (hxo.elim .inl fun h0 => .inr (by
      have : dn = 0 := by omega
      subst this
      exact List.eq_nil_of_length_eq_zero (by simpa using hcl))) hov a2 a3
    refine ⟨.int .i64 ((min sn dn : Nat) : Int), w', ?_, rfl, s2, s3⟩
    simp [Builtin.copy_, h0, run_und hu, hslen, run_size hsz, hmin, goInt, a1w, s1]
  · rename_i o off len cap
    cases hdn
    split at hq5
    rotate_left; · cases hq5
    rename_i ez fz vs ho
    obtain ⟨vs', hov, hq6⟩ := Res.bind_ok hq5
    cases hq6
    obtain ⟨en, xo, hen, rfl, hlc, hxo⟩ := hd
    obtain ⟨w', s1, s2, s3⟩ := write_ok r ho hen (hxo.elim .inl fun h0 => .inr (by
      have : dn = 0 := by omega
      subst this
      exact List.eq_nil_of_length_eq_zero (by simpa using hcl))) hov a2 a3
    refine ⟨.int .i64 ((min sn dn : Nat) : Int), w', ?_, rfl, s2, s3⟩
    simp [Builtin.copy_, h0, run_und hu, hslen, run_size hsz, hmin, goInt, a1w, s1]
  · cases hq5

theorem reps_length (n : Nat) (l : List AVal) : (reps n l).length = n * l.length := by
  simp [reps]
theorem reps_get (n : Nat) (l : List AVal) (j : Nat) (hj : j < n * l.length) : (reps n l)[j]? = l[j % l.length]? := by
  induction n generalizing j with
  | zero => simp at hj
  | succ n ih =>
    have hpos : 0 < l.length := by
      by_cases h0 : l.length = 0
      · simp [h0] at hj
      · omega
    simp only [reps, List.replicate_succ, List.flatten_cons]
    rw [List.getElem?_append]
    split
    · rename_i hlt; rw [Nat.mod_eq_of_lt hlt]
    · rename_i hlt
      have := ih (j - l.length) (by rw [Nat.succ_mul] at hj; omega)
      simp only [reps] at this
      rw [this]
      congr 1
      have e : j = j - l.length + l.length := by omega
      conv => rhs; rw [e, Nat.add_mod_right]

/-- a row of zeros -/
theorem zeros_rel {ρ : RoMap} {z : Value} {zs : List AVal} {size n : Nat} (hz : VRels ι ρ zs z.cells.toList) (ho : ∀ x ∈ z.cells.toList, oneC x = true) (hl : zs.length = size) (hpos : size ≠ 0) :
    VRels ι ρ (reps n zs) ((Array.range (n * size)).map (z.cells[· % z.cells.size]!)).toList ∧ ∀ v ∈ ((Array.range (n * size)).map (z.cells[· % z.cells.size]!)).toList, oneC v = true := by
  have hzs : z.cells.size = size := by have := hz.length; simp at this; omega
  constructor
  · refine VRels.of_get (by simp [reps_length, hl]) fun j a hj => ?_
    have hlt : j < n * size := by have := (List.getElem?_eq_some_iff.1 hj).1; rw [reps_length, hl] at this; exact this
    rw [reps_get n zs j (by rw [hl]; exact hlt)] at hj
    obtain ⟨v, v1, v2⟩ := hz.get hj
    refine ⟨v, ?_, v2⟩
    have hm : j % size < z.cells.size := by rw [hzs]; exact Nat.mod_lt _ (by omega)
    rw [hl] at v1
    simp [hlt, hzs]
    have v1' : z.cells[j % size]? = some v := by simpa using v1
    have := Array.getElem?_eq_getElem hm
    rw [this] at v1'
    rw [getElem!_pos z.cells _ hm]
    simpa using v1'
  · intro v hv
    simp at hv
    obtain ⟨j, hj, rfl⟩ := hv
    have hm : j % z.cells.size < z.cells.size := Nat.mod_lt _ (by omega)
    apply ho
    simp [hm]

theorem clear_ok (r : Rel F ι h w) {t : Nat} {x v : AVal} {h' : AHeap} {xv : Value} {ts : Array TypeId} {ty : TypeId} (h0 : ts[0]? = some t) (hq : clearR F.c h t x = .ok (v, h')) (hx : VRel ι F.ρ x xv) :
    ∃ w', (Builtin.clear_ ts ty #[xv]).run F.c.P w = .ok (.tuple #[]) w' ∧ v = .tuple [] ∧ Rel F ι h' w' ∧ Step ι h w ι h' w' := by
  unfold clearR at hq
  obtain ⟨d, hd, hq1⟩ := Res.bind_ok hq; clear hq
  have hu := undR_ok hd
  split at hq1
  rotate_left; · cases hq1
  rename_i e
  have hwrite : ∀ (o off n : Nat) (en : Ent) (xo cap : Nat), ι o = some en → (xo = en.base + off ∨ n = 0) → n ≠ 0 → (match h.get o with
      | some (.row esz fz vs) => (zeroCellsR F.c.P e).bind fun z => (sizeR F.c.P e).bind fun size => if z.length = size then
          (overR vs off (reps n z)).bind fun vs' => .ok (.tuple [], h.set o (.row esz fz vs')) else .err 142
      | _ => .err 143) = Res.ok (v, h') → ∃ w', (Builtin.clear_ ts ty #[.slice (some ⟨en.blk, xo, none⟩) n cap]).run F.c.P w = .ok (.tuple #[]) w' ∧ v = .tuple [] ∧ Rel F ι h' w' ∧ Step ι h w ι h' w' := by
    intro o off n en xo cap hen hxo hn hq
    split at hq
    rotate_left; · cases hq
    rename_i ez fz vs ho
    obtain ⟨z, hz, hq2⟩ := Res.bind_ok hq
    obtain ⟨size, hs, hq3⟩ := Res.bind_ok hq2
    split at hq3
    rotate_left; · cases hq3
    rename_i hzl
    obtain ⟨vs', hov, hq4⟩ := Res.bind_ok hq3
    cases hq4
    obtain ⟨zv, z1, z2, z3⟩ := zeroCells_ok (ι := ι) (ρ := F.ρ) hz
    have hzs : zv.cells.size = size := by have := z2.length; simp at this; omega
    have hrel : VRels ι F.ρ (reps n z) (Builtin.zeroCells zv.cells n).toList ∧ ∀ v ∈ (Builtin.zeroCells zv.cells n).toList, oneC v = true := by
      unfold Builtin.zeroCells
      by_cases h0 : size = 0
      · have e1 : z = [] := List.eq_nil_of_length_eq_zero (by omega)
        have e2 : zv.cells = #[] := Array.eq_empty_of_size_eq_zero (by omega)
        subst e1; rw [e2]
        simp [reps, VRels]
      · rw [hzs]
        have := zeros_rel (n := n) z2 z3 hzl h0
        rw [hzs] at this
        exact this
    obtain ⟨w', s1, s2, s3⟩ := write_ok r ho hen (hxo.elim .inl fun h0 => absurd h0 hn) hov hrel.1 hrel.2
    refine ⟨w', ?_, rfl, s2, s3⟩
    have : n = (n - 1) + 1 := by omega
    rw [this]
    rw [this] at s1
    simp [Builtin.clear_, h0, run_und hu, z1, s1]
  split at hq1
  · cases hq1
    simp only [VRel] at hx; subst hx
    exact ⟨w, by simp [Builtin.clear_, h0, run_und hu], rfl, r, Step.refl _ _ _⟩
  · rename_i o off n
    obtain ⟨en, xo, cap, hen, rfl, hcap, hlc, hxo⟩ := hx
    split at hq1
    · rename_i hn0; cases hq1; subst hn0
      exact ⟨w, by simp [Builtin.clear_, h0, run_und hu], rfl, r, Step.refl _ _ _⟩
    · rename_i hn0
      exact hwrite o off n en xo cap hen (hxo.elim .inl fun h0 => .inr (by omega)) hn0 hq1
  · rename_i o off n cap
    obtain ⟨en, xo, hen, rfl, hlc, hxo⟩ := hx
    split at hq1
    · rename_i hn0; cases hq1; subst hn0
      exact ⟨w, by simp [Builtin.clear_, h0, run_und hu], rfl, r, Step.refl _ _ _⟩
    · rename_i hn0
      exact hwrite o off n en xo cap hen (hxo.elim .inl fun h0 => .inr (by omega)) hn0 hq1
  · cases hq1

/-! ### what is made -/
theorem box_ok (r : Rel F ι h w) {t : Nat} {a v : AVal} {h' : AHeap} {av : Value} (hq : boxR h a = .ok (v, h')) (ha : VRel ι F.ρ a av) (fr : Fresh ι h.next h'.next) :
    ∃ u w' ι', (Instr.box t av).run F.c.P w = .ok u w' ∧ VRel ι' F.ρ v u ∧ Rel F ι' h' w' ∧ Step ι h w ι' h' w' := by
  unfold boxR at hq
  obtain ⟨cs, hcs, hq1⟩ := Res.bind_ok hq
  cases hq1
  obtain ⟨c1, c2⟩ := ha.cells hcs
  have hl := c1.length
  obtain ⟨ι', d1, d2, d3⟩ := push_row (cs := cs) (c := av.cells) (T := t) (f := (0, 0)) (esz := 0) (fz := false) r fr w.drawn (by simp at hl; omega) (fun _ => rfl) (.inl rfl) c2 (fun j a hj => by
    obtain ⟨v, v1, v2⟩ := c1.get hj; exact ⟨v, by simpa using v1, v2⟩)
  exact ⟨.pointer (some ⟨w.heap.size, 0, none⟩), _, ι', by simp [Instr.box, newVar, Go.newRow], ⟨_, d1, rfl⟩, d2, d3⟩

theorem alloc_ok (r : Rel F ι h w) {t : Nat} {z v : AVal} {h' : AHeap} (hz : zeroV F.c.P t = .ok z) (hq : boxR h z = .ok (v, h')) (fr : Fresh ι h.next h'.next) :
    ∃ u w' ι', (Instr.alloc t true (.tuple #[])).run F.c.P w = .ok u w' ∧ VRel ι' F.ρ v u ∧ Rel F ι' h' w' ∧ Step ι h w ι' h' w' := by
  obtain ⟨zv, z1, z2⟩ := zeroV_ok (ι := ι) (ρ := F.ρ) hz
  obtain ⟨u, w', ι', b1, b2⟩ := box_ok (t := t) r hq z2 fr
  refine ⟨u, w', ι', ?_, b2⟩
  rw [← b1]
  simp [Instr.alloc, Instr.box, z1]

theorem buildSlice_ok (r : Rel F ι h w) {t n : Nat} {parts : List (Nat × AVal)} {pv : Array (Nat × Value)} {v : AVal} {h' : AHeap} (hq : buildSliceR F.c.P h t n parts = .ok (v, h')) (hp : PartsRel ι F.ρ parts pv.toList) (fr : Fresh ι h.next h'.next) :
    ∃ u w' ι', (Instr.buildSlice t n pv).run F.c.P w = .ok u w' ∧ VRel ι' F.ρ v u ∧ Rel F ι' h' w' ∧ Step ι h w ι' h' w' := by
  unfold buildSliceR at hq
  obtain ⟨e, he, hq1⟩ := Res.bind_ok hq; clear hq
  obtain ⟨size, hs, hq2⟩ := Res.bind_ok hq1; clear hq1
  have hu := elemSl_ok he
  split at hq2
  · cases hq2
  rename_i hbig
  split at hq2
  · cases hq2
  rename_i hsz
  obtain ⟨z, hz, hq3⟩ := Res.bind_ok hq2; clear hq2
  split at hq3
  rotate_left; · cases hq3
  rename_i hzl
  obtain ⟨cs, hcs, hq4⟩ := Res.bind_ok hq3; clear hq3
  cases hq4
  obtain ⟨zv, z1, z2, z3⟩ := zeroCells_ok (ι := ι) (ρ := F.ρ) hz
  have hzs : zv.cells.size = size := by have := z2.length; simp at this; omega
  obtain ⟨y1, y2⟩ := zeros_rel (n := n) z2 z3 hzl hsz
  obtain ⟨rv, f1, f2, f3⟩ := fill_ok parts pv.toList (reps n z) cs _ hcs hp y1 y2
  have hlen : cs.length = n * size := by
    have : ∀ (place : Nat → Option (Nat × Nat)) (parts : List (Nat × AVal)) (cells res : List AVal), fillR place cells parts = .ok res → res.length = cells.length := by
      intro place parts
      induction parts with
      | nil => intro cells res hq; simp [fillR] at hq; rw [hq]
      | cons p parts ih =>
        intro cells res hq
        unfold fillR at hq
        obtain ⟨_, _, hq1⟩ := Res.bind_ok hq
        obtain ⟨_, _, hq2⟩ := Res.bind_ok hq1
        split at hq2
        · obtain ⟨_, ho, hq3⟩ := Res.bind_ok hq2
          rw [ih _ _ hq3]
          obtain ⟨o1, rfl⟩ := overR_ok ho
          simp; omega
        · cases hq2
    rw [this _ _ _ _ hcs, reps_length, hzl]
  have hrs : rv.size = n * size := by have := f2.length; simp at this; omega
  obtain ⟨ι', d1, d2, d3⟩ := push_row (cs := cs) (c := rv) (T := e) (f := (0, 0)) (esz := size) (fz := false) r fr w.drawn (by omega) (fun _ => rfl) (.inl rfl) f3 (fun j a hj => by
    obtain ⟨v, v1, v2⟩ := f2.get hj; exact ⟨v, by simpa using v1, v2⟩)
  refine ⟨.slice (some ⟨w.heap.size, 0, none⟩) n n, _, ι', ?_, ⟨_, 0, n, d1, rfl, by simp [hrs], Nat.le_refl _, .inl rfl⟩, d2, d3⟩
  have hbig' : ¬ 16777216 < n * size := hbig
  by_cases hn : n * size = 0
  · have hn0 : n = 0 := (Nat.mul_eq_zero.1 hn).resolve_right hsz
    subst hn0
    have hr : Array.range 0 = (#[] : Array Nat) := rfl
    have f1' : Instr.fill (fun i => some (i * size, size)) #[] pv.toList = some rv := by
      rw [Nat.zero_mul, hr] at f1
      simpa using f1
    simp [Instr.buildSlice, run_und hu, run_size hs, hr, f1', Go.newRow]
  · simp [Instr.buildSlice, run_und hu, run_size hs, hbig', hn, z1]
    rw [f1]
    simp [Go.newRow]


set_option maxHeartbeats 1000000 in
theorem makeSlice_ok (r : Rel F ι h w) {t : Nat} {l m v : AVal} {h' : AHeap} {lv mv : Value} (hq : makeSliceR F.c.P h t l m = .ok (v, h')) (hl : VRel ι F.ρ l lv) (hm : VRel ι F.ρ m mv) (fr : Fresh ι h.next h'.next) :
    ∃ u w' ι', (Instr.makeSlice t lv mv).run F.c.P w = .ok u w' ∧ VRel ι' F.ρ v u ∧ Rel F ι' h' w' ∧ Step ι h w ι' h' w' := by
  unfold makeSliceR at hq
  split at hq
  rotate_left; · cases hq
  rename_i kl n km k
  simp only [VRel] at hl hm; subst hl; subst hm
  obtain ⟨e, he, hq1⟩ := Res.bind_ok hq; clear hq
  obtain ⟨i, hi, hq2⟩ := Res.bind_ok hq1; clear hq1
  have hu := elemSl_ok he
  have hi := infoR_ok hi
  split at hq2
  rotate_left; · cases hq2
  rename_i hc
  obtain ⟨c1, c2, c3, c4, c5, c6⟩ := hc
  obtain ⟨z, hz, hq3⟩ := Res.bind_ok hq2; clear hq2
  split at hq3
  rotate_left; · cases hq3
  rename_i hzl
  cases hq3
  obtain ⟨zv, z1, z2, z3⟩ := zeroCells_ok (ι := ι) (ρ := F.ρ) hz
  have hzs : zv.cells.size = i.size := by have := z2.length; simp at this; omega
  obtain ⟨y1, y2⟩ := zeros_rel (n := k.toNat) z2 z3 hzl c6
  have hrs : ((Array.range (k.toNat * i.size)).map (zv.cells[· % zv.cells.size]!)).size = k.toNat * i.size := by simp
  obtain ⟨ι', d1, d2, d3⟩ := push_row (cs := reps k.toNat z) (c := (Array.range (k.toNat * i.size)).map (zv.cells[· % zv.cells.size]!)) (T := e) (f := (0, 0)) (esz := i.size) (fz := false) r fr w.drawn
    (by rw [hrs, reps_length, hzl]; exact Nat.le_refl _) (fun _ => rfl) (.inl rfl) y2 (fun j a hj => by
    obtain ⟨v, v1, v2⟩ := y1.get hj; exact ⟨v, by rw [← Array.getElem?_toList]; exact v1, v2⟩)
  refine ⟨.slice (some ⟨w.heap.size, 0, none⟩) n.toNat k.toNat, _, ι', ?_, ⟨_, 0, k.toNat, d1, rfl, by simp, by omega, .inl rfl⟩, d2, d3⟩
  have g1 : ¬ (IntKind.i64.wrap k < 0) := by rw [c2]; omega
  have g2 : ¬ (281474976710656 < (i.bytes : Int) * IntKind.i64.wrap k) := by rw [c2]; omega
  have g3 : ¬ (IntKind.i64.wrap n < 0) := by rw [c1]; omega
  have g4 : ¬ (IntKind.i64.wrap k < IntKind.i64.wrap n) := by rw [c1, c2]; omega
  by_cases hn : k.toNat * i.size = 0
  · have hk0 : k.toNat = 0 := (Nat.mul_eq_zero.1 hn).resolve_right c6
    have hr : Array.range 0 = (#[] : Array Nat) := rfl
    simp [Instr.makeSlice, run_und hu, run_sizeOf' hi, asInt, asIntOf, run_typeInfo' hi, g1, g2, g3, g4, c1, c2, hk0, hr, Go.newRow]
    rw [c2] at g1 g2 g4
    rw [c1] at g3 g4
    simp [g1, g2, g3, g4]
  · simp [Instr.makeSlice, run_und hu, run_sizeOf' hi, asInt, asIntOf, run_typeInfo' hi, g1, g2, g3, g4, c1, c2, hn, z1, Go.newRow]
    rw [c2] at g1 g2 g4
    rw [c1] at g3 g4
    simp [g1, g2, g3, g4, hn, z1]

/-! ### conversions -/
theorem strBytes_ok (r : Rel F ι h w) {e : Nat} {b : List UInt8} (fr : Fresh ι h.next (h.next + 1)) :
    ∃ u w' ι', (Conv.stringToBytes e ⟨b.toArray⟩).run F.c.P w = .ok u w' ∧ VRel ι' F.ρ (.sl h.next 0 b.length) u ∧
      Rel F ι' (h.push (.row 1 true (b.map fun x => .int .u8 x.toNat))) w' ∧ Step ι h w ι' (h.push (.row 1 true (b.map fun x => .int .u8 x.toNat))) w' := by
  obtain ⟨nc, hnc, hch⟩ : ∃ nc, b.length ≤ nc ∧ (choose (.appendCap b.length 0 e)).run F.c.P w = .ok nc w.drew := by
    refine ⟨b.length + w.tape w.drawn (.appendCap b.length 0 e) % (2 ^ 63 - b.length), Nat.le_add_right _ _, ?_⟩
    rw [run_choose, if_neg (by simp [Question.forced])]
    simp only [Question.cut]
    rfl
  let c : Array Value := (b.toArray.map fun x => Value.int .u8 x.toNat) ++ Array.replicate (nc - b.length) (Value.int .u8 0)
  have hcs : c.size = nc := by simp [c]; omega
  obtain ⟨ι', d1, d2, d3⟩ := push_row (cs := b.map fun x => AVal.int .u8 x.toNat) (c := c) (T := e) (f := (nc, nc + 1)) (esz := 1) (fz := true) r fr (w.drawn + 1) (by simp [hcs]; omega) (by simp) (.inr (by omega)) (by
      intro v hv
      simp [c] at hv
      rcases hv with ⟨x, _, rfl⟩ | ⟨_, rfl⟩ <;> rfl) (fun j a hj => by
      simp only [List.getElem?_map] at hj
      cases hb : b[j]? with
      | none => simp [hb] at hj
      | some x =>
        simp [hb] at hj; subst hj
        have hlt := (List.getElem?_eq_some_iff.1 hb).1
        refine ⟨.int .u8 x.toNat, ?_, rfl⟩
        have hbx : b[j] = x := (List.getElem?_eq_some_iff.1 hb).2
        simp [c, Array.getElem?_append, hlt, hbx])
  refine ⟨.slice (some ⟨w.heap.size, 0, none⟩) b.length nc, _, ι', ?_, ⟨_, 0, nc, d1, rfl, by simp [hcs], hnc, .inl rfl⟩, d2, d3⟩
  have hsh : ({ w.drew with heap := w.heap.push (.cells c e) } : World).shape? w.heap.size = some (e, nc) := by simp [World.shape?, hcs]
  have hfz : ({ w.drew with heap := w.heap.push (.cells c e) } : World).freeze { block := w.heap.size, off := nc } 1 = { w with drawn := w.drawn + 1, heap := w.heap.push (.cells c e (nc, nc + 1)) } := by
    simp only [World.freeze]
    rw [if_neg (by simp)]
    simp only [World.mk.injEq, and_true, true_and]
    refine ⟨?_, rfl, rfl, rfl, rfl⟩
    apply Array.ext_getElem?
    intro k
    rw [Array.getElem?_modify]
    by_cases hk : w.heap.size = k
    · subst hk; simp
    · simp only [hk, if_false, Array.getElem?_push]
      split <;> simp_all
  have hnr : (Go.newRow e c).run F.c.P w.drew = .ok ⟨w.heap.size, 0, none⟩ { w.drew with heap := w.heap.push (.cells c e) } := rfl
  have hcc : (Array.map (fun x => Value.int IntKind.u8 ↑x.toNat) b.toArray) ++ Array.replicate (nc - b.length) (Value.int .u8 0) = c := rfl
  simp only [Conv.stringToBytes, ba_size, Sem.run_bind, hch, Result.andThen_ok, hcc, hnr, markStringish, run_shape, hsh, run_freeze, hfz, Sem.run_pure]

end
end Go.Proofs.Ytbnlhhfobgjeaaa
