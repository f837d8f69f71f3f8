/-
  A part of the proof of GraftTurns, over the seat YthblmlkkmebciaaDoor: for every input the law returns true, and the input reads as it did.
-/
import Derived.Test.YthblmlkkmebciaaDoorGe
import Derived.Shelf.Strings.Builder1
import Derived.Test.YthblmlkkmebciaaDoorChecked
set_option linter.all false
set_option linter.all false
namespace Go.Proofs
open Go Go.Shelf Go.RowKit
variable {P : Program} {ρ : Ren}

theorem wpList_append_runI (w : World) {ops : Array Oper} {rest : List Oper} {o : Oper} {a : Act} {Q : Exit → Act → World → Prop} (hgd : o.guard = none) (s x : Operand) (t t' : TypeId)
    (ho : o.op = .call { callee := .builtin .append, args := #[s, x], argTypes := #[t, t'] }) (v u : Value) (hs : a.eval s = v) (hx : a.eval x = u) {v' : Value} {w' : World}
    (hr : (Builtin.append_ #[t, t'] o.type #[v, u]).run P w = .ok v' w') (h : wpList P ops Q rest (a.put o.dst v') w') : wpList P ops Q (o :: rest) a w :=
  wpList_plain hgd fun _ hK => by
    unfold Oper.wp execOp
    simp only [ho, resolve, invoke, builtin, Sem.run_bind, Sem.run_pure, Result.andThen_ok, List.map_toArray, List.map_cons, List.map_nil, hs, hx, hr]
    exact hK _ _ h

set_option maxHeartbeats 2000000 in
set_option maxRecDepth 100000 in
/-- WriteString, to the letter -/
theorem bld_write (L : Lays.n166 P ρ) (X : Builder.Extra P ρ) (b : Nat) (p v : Value) (s : ByteArray) (w : World) (hbk : w.heap[b]? = some (.cells #[p, v] (ρ.t 72) (0, 0))) (hp : p = .pointer none ∨ p = .pointer (some ⟨b, 0, none⟩))
    (Post : World → Value → World → Prop)
    (hap : ∀ w1, (w1 = w ∨ w1 = w.setCell ⟨b, 0, none⟩ (.pointer (some ⟨b, 0, none⟩))) → w1.heap[b]? = some (.cells #[.pointer (some ⟨b, 0, none⟩), v] (ρ.t 72) (0, 0)) →
      ∃ v' w2, (Builtin.append_ #[ρ.t 37, ρ.t 9] (ρ.t 37) #[v, .string s]).run P w1 = .ok v' w2 ∧ w2.heap[b]? = some (.cells #[.pointer (some ⟨b, 0, none⟩), v] (ρ.t 72) (0, 0)) ∧ (∃ a n c, v' = .slice a n c) ∧ Post w1 v' w2) :
    Calls P (ρ.f 166) #[.pointer (some ⟨b, 0, none⟩), .string s] w fun e w' => e = .returned (.tuple #[.int .i64 s.size, .nilIface]) ∧ ∃ w1 v' w2, (w1 = w ∨ w1 = w.setCell ⟨b, 0, none⟩ (.pointer (some ⟨b, 0, none⟩))) ∧ w1.heap[b]? = some (.cells #[.pointer (some ⟨b, 0, none⟩), v] (ρ.t 72) (0, 0)) ∧ Post w1 v' w2 ∧ w' = w2.setCell ⟨b, 1, none⟩ v' := by
  have hcc : Calls P (ρ.f 240) #[.pointer (some ⟨b, 0, none⟩)] w fun e w1 => e = .returned (.tuple #[]) ∧ (w1 = w ∨ w1 = w.setCell ⟨b, 0, none⟩ (.pointer (some ⟨b, 0, none⟩))) ∧ w1.heap[b]? = some (.cells #[.pointer (some ⟨b, 0, none⟩), v] (ρ.t 72) (0, 0)) := by
    rcases hp with rfl | rfl
    · refine (Any.Builder_copyCheck_fresh { L with } X.toX72 b w (by rw [Lib.cell_of_heap hbk]; rfl) (by simp [World.shape?, hbk]) (by simp [World.frozen?, hbk])).mono ?_
      rintro e w' ⟨rfl, rfl⟩
      refine ⟨rfl, .inr rfl, ?_⟩
      rw [heap_setCell_same w b 0 _ _ _ hbk]; rfl
    · refine (Any.Builder_copyCheck_used { L with } X.toX72 b w (by rw [Lib.cell_of_heap hbk]; rfl)).mono ?_
      rintro e w' ⟨rfl, rfl⟩
      exact ⟨rfl, .inl rfl, hbk⟩
  have mixed := L.mixed
  have t72 := L.t72; have a72 := L.a72; have z72 := L.z72; have v72 := L.v72; have u72 := run_underlying L.t72
  have t70 := L.t70; have a70 := L.a70; have z70 := L.z70; have v70 := L.v70; have u70 := run_underlying L.t70
  have t37 := L.t37; have a37 := L.a37; have z37 := L.z37; have v37 := L.v37; have u37 := run_underlying L.t37
  have t3 := L.t3; have a3 := L.a3; have z3 := L.z3; have v3 := L.v3; have u3 := run_underlying L.t3
  have t9 := L.t9; have a9 := L.a9; have z9 := L.z9; have v9 := L.v9; have u9 := run_underlying L.t9
  have t4 := L.t4; have a4 := L.a4; have z4 := L.z4; have v4 := L.v4; have u4 := run_underlying L.t4
  have t164 := L.t164; have a164 := L.a164; have z164 := L.z164; have v164 := L.v164; have u164 := run_underlying L.t164
  have t5 := X.t5; have a5 := X.a5; have z5 := X.z5; have v5 := X.v5; have u5 := run_underlying X.t5
  have e240 : ∀ args w, (callFunc (ρ.f 240) args).run P w = .ok (.enter (ρ.f 240) args) w := enters_of L.f240 (by kernel_rfl) rfl
  go_enter L.f166, Body.n166_ntmps ρ
  go_wp2_with (go_at_fn (ρ.f 240); refine hcc.mono ?_)
  rintro e w1 ⟨rfl, hw1, hb1⟩
  obtain ⟨v', w2, hrun, hb2, ⟨ao, n', cap, rfl⟩, hpost⟩ := hap w1 hw1 hb1
  have c1 : w1.cell? ⟨b, 1, none⟩ = some v := by rw [Lib.cell_of_heap hb1]; rfl
  have d1 : w2.cell? ⟨b, 1, none⟩ = some v := by rw [Lib.cell_of_heap hb2]; rfl
  have f1 : w2.frozen? ⟨b, 1, none⟩ = false := Lib.frozen_of_heap hb2 1
  go_wp2_with (at_builtin; refine wpList_append_runI _ rfl _ _ (ρ.t 37) (ρ.t 9) rfl v (.string s) rfl rfl hrun ?_)
  go_ret2
  exact ⟨rfl, w1, _, w2, hw1, hb1, hpost, rfl⟩
end Go.Proofs
namespace Go.Proofs.YthblmlkkmebciaaDoor
open Go Go.Shelf Go.RowKit Go.Proofs
section
variable {F : Fix} {ι : Inj} {h : AHeap} {w : World}
/-- an object lies elsewhere now, or is told otherwise -/
theorem Rel.moveG (r : Rel F ι h w) (fr : Fresh ι h.next (h.next + 1)) {o : Nat} {x y : AObj} {e e' : Ent} (ho : h.get o = some x) (he : ι o = some e)
    {w' : World} (hk : Keep (fun b => b = e.blk) w w') (hb : e'.blk = e.blk) (hx : ObjRel ι F.ρ w' e' y) :
    Rel F (upd ι h.next e') ((h.del o).push y) w' ∧ Step ι h w (upd ι h.next e') ((h.del o).push y) w' := by
  have hnone : ι h.next = none := fr _ (Nat.le_refl _) (Nat.lt_succ_self _)
  have hs := upd_sub (o := h.next) e' hnone
  obtain ⟨e0, h1, h2, h3⟩ := r.obj o _ ho
  rw [he] at h1; cases h1
  have hkeep : Keep (Own ι h) w w' := hk.mono fun j _ hj => ⟨o, _, e, ho, he, hj.symm⟩
  have hobj : ∀ p z, ((h.del o).push y).get p = some z → (p = h.next ∧ z = y) ∨ (p ≠ h.next ∧ p ≠ o ∧ h.get p = some z) := by
    intro p z hp
    rw [AHeap.get_push, AHeap.get_del] at hp
    split at hp
    · rename_i hpn; left; simp at hp; exact ⟨hpn, hp.symm⟩
    · rename_i hpn
      split at hp
      · cases hp
      · rename_i hpo; exact .inr ⟨hpn, hpo, hp⟩
  refine ⟨⟨hkeep.below r.below (Nat.le_refl _) r.own_ge, ?_, ?_, ?_⟩, ⟨hs, ?_, by simp, hkeep, ?_⟩⟩
  · intro p z hp
    rcases hobj p z hp with ⟨rfl, rfl⟩ | ⟨hne, hno, hp'⟩
    · exact ⟨_, upd_self _ _ _, by rw [hb]; exact h2, hx.mono hs rfl⟩
    · obtain ⟨f, f1, f2, f3⟩ := r.obj p z hp'
      refine ⟨f, by simp [upd, hne, f1], f2, f3.mono hs (hk.block _ f3.lt fun hb' => hno (r.inj p o _ _ f e hp' ho f1 he hb'))⟩
  · intro p p' z z' f f' a1 a2 a3 a4 a5
    rcases hobj p z a1 with ⟨rfl, rfl⟩ | ⟨hne, hno, a1'⟩ <;> rcases hobj p' z' a2 with ⟨h6, h7⟩ | ⟨hne', hno', a2'⟩
    · exact h6.symm
    · exfalso
      rw [upd_self] at a3; cases a3
      simp [upd, hne'] at a4
      exact hno' (r.inj p' o _ _ f' e a2' ho a4 he (by rw [← a5, hb]))
    · exfalso
      subst h6
      rw [upd_self] at a4; cases a4
      simp [upd, hne] at a3
      exact hno (r.inj p o _ _ f e a1' ho a3 he (by rw [a5, hb]))
    · simp [upd, hne] at a3
      simp [upd, hne'] at a4
      exact r.inj p p' z z' f f' a1' a2' a3 a4 a5
  · intro p z hp
    rcases hobj p z hp with ⟨rfl, rfl⟩ | ⟨_, _, hp'⟩
    · simp
    · have := r.lt p z hp'; simp; omega
  · intro p
    by_cases hp : p = h.next
    · subst hp; right; right; simp
    · right; left; simp [upd, hp]
  · rintro b ⟨p, z, f, a1, a2, rfl⟩
    left
    rcases hobj p z a1 with ⟨rfl, rfl⟩ | ⟨hne, _, a1'⟩
    · rw [upd_self] at a2; cases a2; exact ⟨o, _, e, ho, he, hb.symm⟩
    · exact ⟨p, z, f, a1', by simpa [upd, hne] using a2, rfl⟩

theorem Keep.setCell (w : World) (g i : Nat) (v : Value) : Keep (fun b => b = g) w (w.setCell ⟨g, i, none⟩ v) :=
  ⟨rfl, rfl, rfl, by simp [World.setCell], fun k _ hk => heap_setCell_other w _ k v hk⟩

def bytesA (s : List UInt8) : List AVal := s.map fun b => .int .u8 b.toNat

/-- WriteString -/
def bldWrite (T72 T5 : Nat) : Prim := fun args h =>
  match args with
  | [.ptr o 0, .str s] => match h.get o with
    | some (.bld T none) => if T ≠ T72 ∨ 2 ^ 40 < s.length then .err 420 else
      if s = [] then .ok (.tuple [.int .i64 (s.length : Nat), .nili], (h.set o (.bld T none)).set o (.bld T none))
      else .ok (.tuple [.int .i64 (s.length : Nat), .nili], ((h.set o (.bld T none)).push (.buf T5 s)).set o (.bld T (some (h.next, s.length))))
    | some (.bld T (some (q, n))) => match h.get q with
      | some (.buf T' bs) => if T ≠ T72 ∨ T' ≠ T5 ∨ bs.length ≠ n ∨ q = o ∨ 2 ^ 40 < n + s.length then .err 421 else
        .ok (.tuple [.int .i64 (s.length : Nat), .nili], (((h.set o (.bld T (some (q, n)))).del q).push (.buf T5 (bs ++ s))).set o (.bld T (some (h.next, n + s.length))))
      | _ => .err 422
    | _ => .err 423
  | _ => .err 424

/-- String -/
def bldString (T72 T5 : Nat) : Prim := fun args h =>
  match args with
  | [.ptr o 0] => match h.get o with
    | some (.bld T none) => if T ≠ T72 then .err 430 else .ok (.str [], h.del o)
    | some (.bld T (some (q, n))) => match h.get q with
      | some (.buf T' bs) => if T ≠ T72 ∨ T' ≠ T5 ∨ bs.length ≠ n ∨ q = o ∨ n = 0 ∨ 2 ^ 40 < n then .err 431 else .ok (.str bs, (h.del o).del q)
      | _ => .err 432
    | _ => .err 433
  | _ => .err 434
theorem str_cells (ok : F.Ok) (r : Rel F ι h w) (s : List UInt8) : ∃ arr : Array Value, (∀ d, (Builtin.firstCells 1 s.length (.string ⟨s.toArray⟩)).run F.c.P { w with drawn := d } = .ok arr { w with drawn := d }) ∧
    arr.size = s.length ∧ (∀ (j : Nat) (b : UInt8), s[j]? = some b → arr[j]? = some (.int .u8 b.toNat)) ∧ ∀ v ∈ arr.toList, oneC v = true := by
  obtain ⟨arr, a1, a2, a3⟩ := readSl_ok ok r (size := 1) (n := s.length) (len := s.length) (x := .str s) (cs := s.map fun b => .int .u8 b.toNat) (xv := .string ⟨s.toArray⟩) (by simp [readSl]) rfl rfl (Nat.le_refl _)
  have hl : arr.size = s.length := by have := a2.length; simp at this; omega
  refine ⟨arr, a1, hl, fun j b hj => ?_, a3⟩
  obtain ⟨v, v1, v2⟩ := a2.get (j := j) (a := .int .u8 b.toNat) (by simp [hj])
  simp only [VRel] at v2; subst v2
  simpa using v1

/-- a string, put behind a buffer that has no room for it -/
theorem app_new_buf (ok : F.Ok) (r : Rel F ι h w) (fr : Fresh ι h.next (h.next + 1)) {T37 T9 T5 : Nat} (hu : F.c.P.underlying T37 = some (.slice T5)) (h9 : notMake F.c.P (some T9) = .ok ()) {i : TypeInfo} (hi : F.c.P.info? T5 = some i) (hsz : i.size = 1) (hby : i.bytes = 1)
    (hz : ∀ w, (zeroValue T5).run F.c.P w = .ok (.int .u8 0) w) {base : Option Addr} {cap : Nat} {bs s : List UInt8} {oa : Array Value} (ho : ∀ d, (Builtin.firstCells 1 bs.length (.slice base bs.length cap)).run F.c.P { w with drawn := d } = .ok oa { w with drawn := d })
    (ho1 : oa.size = bs.length) (ho2 : ∀ (j : Nat) (b : UInt8), bs[j]? = some b → oa[j]? = some (.int .u8 b.toNat)) (ho3 : ∀ v ∈ oa.toList, oneC v = true) (hle : ¬ bs.length + s.length ≤ cap) (hlim : bs.length + s.length ≤ 2 ^ 40) :
    ∃ cap' e w2, (Builtin.append_ #[T37, T9] T37 #[.slice base bs.length cap, .string ⟨s.toArray⟩]).run F.c.P w = .ok (.slice (some ⟨e.blk, 0, none⟩) (bs.length + s.length) cap') w2 ∧ e.K = cap' ∧ bs.length + s.length ≤ cap' ∧ e.blk = w.heap.size ∧
      (∀ k, k < w.heap.size → w2.heap[k]? = w.heap[k]?) ∧ Rel F (upd ι h.next e) (h.push (.buf T5 (bs ++ s))) w2 ∧ Step ι h w (upd ι h.next e) (h.push (.buf T5 (bs ++ s))) w2 := by
  obtain ⟨arr, a1, a2, a3, a4⟩ := str_cells ok r s
  have hroom : ¬ (281474976710656 < Builtin.nextslicecap (bs.length + s.length) cap * i.bytes) := by
    have := nextcap_le (bs.length + s.length) cap (by omega)
    rw [hby]; omega
  obtain ⟨nc, n1, n2⟩ := append_new (P := F.c.P) (w := w) (ts := #[T37, T9]) (ty := T37) (t := T37) (e := T5) rfl hu hi (by exact h9) (base := base) (sLen := bs.length) (sCap := cap) (n := s.length) (x := .string ⟨s.toArray⟩) (cs := arr) (old := oa) (z := .int .u8 0)
    (lenA_ok (ι := ι) (x := .str s) rfl rfl) hle (by omega) hroom (by rw [hsz]; exact a1) (by rw [hsz]; exact ho) hz
  have hzs : (Builtin.zeroCells (Value.int .u8 0).cells (nc - (bs.length + s.length))).size = nc - (bs.length + s.length) := by simp [Builtin.zeroCells, Value.cells]
  have hcs : (oa ++ arr ++ Builtin.zeroCells (Value.int .u8 0).cells (nc - (bs.length + s.length))).size = nc := by
    rw [Array.size_append, Array.size_append, ho1, a2, hzs]; omega
  obtain ⟨d1, d2⟩ := (r.drawn (w.drawn + 1)).push fr (.cells (oa ++ arr ++ Builtin.zeroCells (Value.int .u8 0).cells (nc - (bs.length + s.length))) T5) (.buf T5 (bs ++ s)) ⟨w.heap.size, 0, nc, 1⟩ rfl
    ⟨_, by simp, rfl, hcs, by simpa using n1, by
      intro v hv
      rw [Array.toList_append, Array.toList_append, List.mem_append, List.mem_append] at hv
      rcases hv with (hv | hv) | hv
      · exact ho3 v hv
      · exact a4 v hv
      · exact zeroCells_ok' (z := .int .u8 0) (by simp [Value.cells, oneC]) _ v hv, by
      intro j b hj
      rw [List.getElem?_append] at hj
      split at hj
      · have := ho2 j b hj
        have hlt := (Array.getElem?_eq_some_iff.1 this).1
        rw [Array.append_assoc, Array.getElem?_append_left hlt]; exact this
      · rename_i hlt
        have := a3 _ b hj
        have hlt2 := (Array.getElem?_eq_some_iff.1 this).1
        rw [Array.append_assoc, Array.getElem?_append_right (by omega), ho1, Array.getElem?_append_left hlt2]; exact this⟩
  refine ⟨nc, ⟨w.heap.size, 0, nc, 1⟩, _, n2, rfl, n1, rfl, fun k hk => by simp [Array.getElem?_push, Nat.ne_of_lt hk], d1, (Step.drawn ι h w _).trans d2⟩
/-- .. and where there is room -/
theorem app_in_buf (ok : F.Ok) (r : Rel F ι h w) (fr : Fresh ι h.next (h.next + 1)) {T37 T9 T5 : Nat} (hu : F.c.P.underlying T37 = some (.slice T5)) (h9 : notMake F.c.P (some T9) = .ok ()) {i : TypeInfo} (hi : F.c.P.info? T5 = some i) (hsz : i.size = 1)
    {q : Nat} {e : Ent} {bs s : List UInt8} (hq : h.get q = some (.buf T5 bs)) (he : ι q = some e) (hle : bs.length + s.length ≤ e.K) :
    ∃ e' w2, (Builtin.append_ #[T37, T9] T37 #[.slice (some ⟨e.blk, 0, none⟩) bs.length e.K, .string ⟨s.toArray⟩]).run F.c.P w = .ok (.slice (some ⟨e'.blk, 0, none⟩) (bs.length + s.length) e.K) w2 ∧ e'.K = e.K ∧ e'.blk = e.blk ∧
      (∀ k, k ≠ e.blk → w2.heap[k]? = w.heap[k]?) ∧ Rel F (upd ι h.next e') ((h.del q).push (.buf T5 (bs ++ s))) w2 ∧ Step ι h w (upd ι h.next e') ((h.del q).push (.buf T5 (bs ++ s))) w2 := by
  obtain ⟨arr, a1, a2, a3, a4⟩ := str_cells ok r s
  obtain ⟨e0, g1, _, c, g2, g3, g4, g5, g6, g7⟩ := r.obj _ _ hq
  rw [he] at g1; cases g1
  have hst := run_storeCells' (P := F.c.P) e.blk bs.length T5 (0, 0) arr.toList 0 c w g2 (.inl (Nat.le_refl _)) (by simp; omega) a4
  have hadd : ((⟨e.blk, 0, none⟩ : Addr).add (bs.length * i.size)) = ⟨e.blk, bs.length, none⟩ := by rw [add_none, hsz]; simp
  have happ := append_in (P := F.c.P) (w := w) (ts := #[T37, T9]) (ty := T37) (t := T37) (e := T5) rfl hu hi (by exact h9) (a := ⟨e.blk, 0, none⟩) (sLen := bs.length) (sCap := e.K) (n := s.length) (x := .string ⟨s.toArray⟩) (cs := arr)
    (lenA_ok (ι := ι) (x := .str s) rfl rfl) hle (by rw [hsz]; exact a1 w.drawn) (by rw [hadd]; exact hst)
  obtain ⟨row, hrow⟩ : ∃ row, row = (c.toList.take (bs.length + 0) ++ arr.toList ++ c.toList.drop (bs.length + 0 + arr.toList.length)).toArray := ⟨_, rfl⟩
  rw [← hrow] at happ
  have hh := setRow_heap w e.blk c row T5 (0, 0) g2
  have hrs : row.size = e.K := by rw [hrow]; simp; omega
  obtain ⟨d1, d2⟩ := r.moveG fr hq he (Keep.setRow w e.blk row) (e' := e) rfl (y := .buf T5 (bs ++ s)) ⟨row, hh, g3, hrs, by simpa using hle, by
      intro v hv
      rw [hrow] at hv
      simp only [List.mem_append] at hv
      rcases hv with (hv | hv) | hv
      · exact g6 v (List.mem_of_mem_take hv)
      · exact a4 v hv
      · exact g6 v (List.mem_of_mem_drop hv), by
      intro j b hj
      have e1 : row[j]? = (c.toList.take (bs.length + 0) ++ arr.toList ++ c.toList.drop (bs.length + 0 + arr.toList.length))[j]? := by rw [hrow]; simp
      have hlt : (c.toList.take (bs.length + 0)).length = bs.length := by simp; omega
      rw [e1, List.append_assoc]
      rw [List.getElem?_append] at hj
      split at hj
      · rename_i hl
        rw [List.getElem?_append_left (by omega), List.getElem?_take, if_pos (by omega)]
        have := g7 j b hj
        simpa using this
      · rename_i hl
        have := a3 _ b hj
        have hlt2 := (Array.getElem?_eq_some_iff.1 this).1
        rw [List.getElem?_append_right (by omega), hlt, List.getElem?_append_left (by simpa using hlt2)]
        simpa using this⟩
  exact ⟨e, _, happ, rfl, rfl, fun k hk => setRow_other w e.blk k row hk, d1, d2⟩
/-- the last store: the builder has its new buffer -/
theorem bld_fin {H2 : AHeap} {w1 w2 : World} {ι2 : Inj} {h1 : AHeap} {o T N : Nat} {e e' : Ent} {q : Option (Nat × Nat)} {v : Value} {k : Nat} (r2 : Rel F ι2 H2 w2) (s2 : Step ι h1 w1 ι2 H2 w2) (ho : H2.get o = some (.bld T q)) (he : ι2 o = some e) (hb0 : e.base = 0)
    (hb2 : w2.heap[e.blk]? = some (.cells #[.pointer (some ⟨e.blk, 0, none⟩), v] T (0, 0))) (hk : ι2 k = some e') (hN : N ≤ e'.K) :
    Rel F ι2 (H2.set o (.bld T (some (k, N)))) (w2.setCell ⟨e.blk, 1, none⟩ (.slice (some ⟨e'.blk, 0, none⟩) N e'.K)) ∧ Step ι h1 w1 ι2 (H2.set o (.bld T (some (k, N)))) (w2.setCell ⟨e.blk, 1, none⟩ (.slice (some ⟨e'.blk, 0, none⟩) N e'.K)) := by
  obtain ⟨d1, d2⟩ := r2.set (.bld T (some (k, N))) ho he (Keep.setCell w2 e.blk 1 (.slice (some ⟨e'.blk, 0, none⟩) N e'.K))
    ⟨.pointer (some ⟨e.blk, 0, none⟩), .slice (some ⟨e'.blk, 0, none⟩) N e'.K, by rw [heap_setCell_same w2 e.blk 1 _ _ _ hb2]; rfl, hb0, .inr rfl, .inr ⟨k, N, e', e'.K, rfl, hk, rfl, rfl, hN⟩⟩
  exact ⟨d1, s2.trans d2⟩

theorem bldWrite_ok {ρ : Ren} (L : Lays.n166 F.c.P ρ) (X : Builder.Extra F.c.P ρ) (ok : F.Ok) (h9 : notMake F.c.P (some (ρ.t 9)) = .ok ()) : ∀ args h v h', bldWrite (ρ.t 72) (ρ.t 5) args h = .ok (v, h') → h.next ≤ h'.next ∧
    ∀ ι w (av : Array Value), Rel F ι h w → VRels ι F.ρ args av.toList → Fresh ι h.next h'.next → CallTo F.c.P (ρ.f 166) av w (Out F ι h w v h') := by
  intro args h v h' hq
  unfold bldWrite at hq
  obtain ⟨i0, hi, hz0, hz1, hz2⟩ := info_parts X.infoByte
  have hent : ∀ av w, (callFunc (ρ.f 166) av).run F.c.P w = .ok (.enter (ρ.f 166) av) w := enters_of L.f166 (by kernel_rfl) rfl
  split at hq
  rotate_left; · cases hq
  rename_i o s
  split at hq
  · -- a new one
    rename_i T hgo
    split at hq
    · cases hq
    rename_i hc
    obtain ⟨rfl, hlen⟩ : T = ρ.t 72 ∧ s.length ≤ 2 ^ 40 := ⟨Decidable.byContradiction fun hh => hc (.inl hh), Nat.le_of_not_lt fun hh => hc (.inr hh)⟩
    have key : ∀ ι w (av : Array Value), Rel F ι h w → VRels ι F.ρ [.ptr o 0, .str s] av.toList → ∃ e p, av = #[.pointer (some ⟨e.blk, 0, none⟩), .string ⟨s.toArray⟩] ∧ ι o = some e ∧ e.base = 0 ∧ w.heap[e.blk]? = some (.cells #[p, .slice none 0 0] (ρ.t 72) (0, 0)) ∧ (p = .pointer none ∨ p = .pointer (some ⟨e.blk, 0, none⟩)) ∧
        ∀ w1, (w1 = w ∨ w1 = w.setCell ⟨e.blk, 0, none⟩ (.pointer (some ⟨e.blk, 0, none⟩))) → w1.heap[e.blk]? = some (.cells #[.pointer (some ⟨e.blk, 0, none⟩), .slice none 0 0] (ρ.t 72) (0, 0)) → Rel F ι (h.set o (.bld (ρ.t 72) none)) w1 ∧ Step ι h w ι (h.set o (.bld (ρ.t 72) none)) w1 := by
      intro ι w av r ha
      obtain ⟨v1, _, hav, ⟨e, he, rfl⟩, v2, _, rfl, a2, a3⟩ := ha
      simp only [VRels] at a3; subst a3
      simp only [VRel] at a2; subst a2
      obtain ⟨e', g1, _, p, v, g2, g3, g4, g5⟩ := r.obj _ _ hgo
      rw [he] at g1; cases g1
      obtain ⟨_, rfl⟩ : True ∧ v = .slice none 0 0 := ⟨trivial, by rcases g5 with ⟨_, rfl⟩ | ⟨_, _, _, _, hh, _⟩; rfl; cases hh⟩
      refine ⟨e, p, by apply Array.toList_inj.1; rw [hav, g3], he, g3, g2, g4, fun w1 hw1 hb1 => ?_⟩
      have hkp : Keep (fun b => b = e.blk) w w1 := by
        rcases hw1 with rfl | rfl
        · exact Keep.refl _ _
        · exact Keep.setCell _ _ _ _
      exact r.set (.bld (ρ.t 72) none) hgo he hkp ⟨_, _, hb1, g3, .inr rfl, .inl ⟨rfl, rfl⟩⟩
    split at hq
    · rename_i hs
      subst hs
      cases hq
      refine ⟨Nat.le_refl _, fun ι w av r ha fr => .inr ?_⟩
      obtain ⟨e, p, rfl, he, hb0, hbk, hp, hw⟩ := key ι w av r ha
      refine ⟨hent _ _, ?_⟩
      refine Calls.mono (bld_write L X e.blk p (.slice none 0 0) ⟨#[]⟩ w hbk hp (fun w1 v' w2 => v' = .slice none 0 0 ∧ w2 = w1) (fun w1 hw1 hb1 => ?_)) ?_
      · obtain ⟨arr, a1, _, _, _⟩ := str_cells ok (hw w1 hw1 hb1).1 []
        exact ⟨.slice none 0 0, w1, append_in_nil (P := F.c.P) (w := w1) (ts := #[ρ.t 37, ρ.t 9]) (ty := ρ.t 37) (t := ρ.t 37) (e := ρ.t 5) rfl L.t37 hi h9 (x := .string ⟨#[]⟩) (cs := arr) (lenA_ok (ι := ι) (x := .str []) rfl rfl) (by rw [hz1]; exact a1 w1.drawn), hb1, ⟨_, _, _, rfl⟩, rfl, rfl⟩
      · rintro e1 w' ⟨rfl, w1, v', w2, hw1, hb1, ⟨rfl, rfl⟩, rfl⟩
        obtain ⟨r1, s1⟩ := hw _ hw1 hb1
        obtain ⟨d1, d2⟩ := r1.set (.bld (ρ.t 72) none) (x := .bld (ρ.t 72) none) (by rw [AHeap.get_set, if_pos rfl]) he (Keep.setCell w2 e.blk 1 (.slice none 0 0))
          ⟨.pointer (some ⟨e.blk, 0, none⟩), .slice none 0 0, by rw [heap_setCell_same w2 e.blk 1 _ _ _ hb1]; rfl, hb0, .inr rfl, .inl ⟨rfl, rfl⟩⟩
        exact ⟨ι, ⟨_, rfl, ⟨_, _, rfl, rfl, _, _, rfl, rfl, rfl⟩⟩, d1, s1.trans d2⟩
    · rename_i hs
      cases hq
      refine ⟨by simp, fun ι w av r ha fr => .inr ?_⟩
      obtain ⟨e, p, rfl, he, hb0, hbk, hp, hw⟩ := key ι w av r ha
      have hsl : 0 < s.length := by cases s with | nil => exact (hs rfl).elim | cons a b => simp
      have fr' : Fresh ι h.next (h.next + 1) := fr
      refine ⟨hent _ _, ?_⟩
      refine Calls.mono (bld_write L X e.blk p (.slice none 0 0) ⟨s.toArray⟩ w hbk hp (fun w1 v' w2 => ∃ e', v' = .slice (some ⟨e'.blk, 0, none⟩) s.length e'.K ∧ s.length ≤ e'.K ∧ w2.heap[e.blk]? = some (.cells #[.pointer (some ⟨e.blk, 0, none⟩), .slice none 0 0] (ρ.t 72) (0, 0)) ∧ Rel F (upd ι h.next e') ((h.set o (.bld (ρ.t 72) none)).push (.buf (ρ.t 5) s)) w2 ∧ Step ι (h.set o (.bld (ρ.t 72) none)) w1 (upd ι h.next e') ((h.set o (.bld (ρ.t 72) none)).push (.buf (ρ.t 5) s)) w2) (fun w1 hw1 hb1 => ?_)) ?_
      · obtain ⟨r1, s1⟩ := hw w1 hw1 hb1
        obtain ⟨cap', e', w2, b1, b2, b3, b4, b5, b6, b7⟩ := app_new_buf ok r1 fr' (T37 := ρ.t 37) (T9 := ρ.t 9) (T5 := ρ.t 5) L.t37 h9 hi hz1 hz2 X.v5 (base := none) (cap := 0) (bs := []) (s := s) (oa := #[]) (fun d => rfl) rfl (by simp) (by simp) (by simp; omega) (by simpa using hlen)
        subst b2
        simp only [List.length_nil, Nat.zero_add, List.nil_append] at b1 b3 b6 b7
        have hb2 : w2.heap[e.blk]? = some (.cells #[.pointer (some ⟨e.blk, 0, none⟩), .slice none 0 0] (ρ.t 72) (0, 0)) := by
          rw [b5 _ (Array.getElem?_eq_some_iff.1 hb1).1]; exact hb1
        exact ⟨_, w2, b1, hb2, ⟨_, _, _, rfl⟩, e', rfl, b3, hb2, b6, b7⟩
      · rintro e1 w' ⟨rfl, w1, v', w2, hw1, hb1, ⟨e', rfl, c1, c2, c3, c4⟩, rfl⟩
        obtain ⟨r1, s1⟩ := hw _ hw1 hb1
        have hon : o ≠ h.next := by have := r.lt _ _ hgo; omega
        obtain ⟨d1, d2⟩ := bld_fin c3 c4 (o := o) (T := ρ.t 72) (q := none) (e := e) (by rw [AHeap.get_push, if_neg (by simpa using hon), AHeap.get_set, if_pos rfl]) (by simp [upd, hon, he]) hb0 c2 (upd_self _ _ _) c1
        exact ⟨_, ⟨_, rfl, ⟨_, _, rfl, by simp [VRel]; rfl, _, _, rfl, rfl, rfl⟩⟩, d1, s1.trans d2⟩
  · -- one with a buffer
    rename_i T q n hgo
    split at hq
    rotate_left; · cases hq
    rename_i T' bs hgq
    split at hq
    · cases hq
    rename_i hc
    obtain ⟨rfl, rfl, rfl, hqo, hlen⟩ : T = ρ.t 72 ∧ T' = ρ.t 5 ∧ bs.length = n ∧ q ≠ o ∧ n + s.length ≤ 2 ^ 40 :=
      ⟨Decidable.byContradiction fun hh => hc (.inl hh), Decidable.byContradiction fun hh => hc (.inr (.inl hh)), Decidable.byContradiction fun hh => hc (.inr (.inr (.inl hh))), fun hh => hc (.inr (.inr (.inr (.inl hh)))), Nat.le_of_not_lt fun hh => hc (.inr (.inr (.inr (.inr hh))))⟩
    cases hq
    refine ⟨by simp, fun ι w av r ha fr => .inr ?_⟩
    have fr' : Fresh ι h.next (h.next + 1) := fr
    obtain ⟨v1, _, hav, ⟨e, he, rfl⟩, v2, _, rfl, a2, a3⟩ := ha
    simp only [VRels] at a3; subst a3
    simp only [VRel] at a2; subst a2
    obtain ⟨e', g1, _, p, v, hbk, hb0, hp, g5⟩ := r.obj _ _ hgo
    rw [he] at g1; cases g1
    obtain ⟨eq, hq1, rfl, hnK⟩ : ∃ eq, ι q = some eq ∧ v = .slice (some ⟨eq.blk, 0, none⟩) bs.length eq.K ∧ bs.length ≤ eq.K := by
      rcases g5 with ⟨hh, _⟩ | ⟨o', n', eq, cap, hh, k1, k2, k3, k4⟩
      · cases hh
      · cases hh; subst k3; exact ⟨eq, k1, k2, k4⟩
    obtain ⟨e2, j1, _, c, j2, j3, j4, j5, j6, j7⟩ := r.obj _ _ hgq
    rw [hq1] at j1; cases j1
    have hne : eq.blk ≠ e.blk := fun hh => hqo (r.inj _ _ _ _ _ _ hgq hgo hq1 he hh)
    have : av = #[.pointer (some ⟨e.blk, 0, none⟩), .string ⟨s.toArray⟩] := by apply Array.toList_inj.1; rw [hav, hb0]
    subst this
    have hw : ∀ w1, (w1 = w ∨ w1 = w.setCell ⟨e.blk, 0, none⟩ (.pointer (some ⟨e.blk, 0, none⟩))) → w1.heap[e.blk]? = some (.cells #[.pointer (some ⟨e.blk, 0, none⟩), .slice (some ⟨eq.blk, 0, none⟩) bs.length eq.K] (ρ.t 72) (0, 0)) →
        Rel F ι (h.set o (.bld (ρ.t 72) (some (q, bs.length)))) w1 ∧ Step ι h w ι (h.set o (.bld (ρ.t 72) (some (q, bs.length)))) w1 := by
      intro w1 hw1 hb1
      have hkp : Keep (fun b => b = e.blk) w w1 := by
        rcases hw1 with rfl | rfl
        · exact Keep.refl _ _
        · exact Keep.setCell _ _ _ _
      exact r.set (.bld (ρ.t 72) (some (q, bs.length))) hgo he hkp ⟨_, _, hb1, hb0, .inr rfl, .inr ⟨q, bs.length, eq, eq.K, rfl, hq1, rfl, rfl, hnK⟩⟩
    refine ⟨hent _ _, ?_⟩
    have hon : o ≠ h.next := by have := r.lt _ _ hgo; omega
    refine Calls.mono (bld_write L X e.blk p (.slice (some ⟨eq.blk, 0, none⟩) bs.length eq.K) ⟨s.toArray⟩ w hbk hp (fun w1 v' w2 => ∃ e', v' = .slice (some ⟨e'.blk, 0, none⟩) (bs.length + s.length) e'.K ∧ bs.length + s.length ≤ e'.K ∧ w2.heap[e.blk]? = some (.cells #[.pointer (some ⟨e.blk, 0, none⟩), .slice (some ⟨eq.blk, 0, none⟩) bs.length eq.K] (ρ.t 72) (0, 0)) ∧
        Rel F (upd ι h.next e') (((h.set o (.bld (ρ.t 72) (some (q, bs.length)))).del q).push (.buf (ρ.t 5) (bs ++ s))) w2 ∧ Step ι (h.set o (.bld (ρ.t 72) (some (q, bs.length)))) w1 (upd ι h.next e') (((h.set o (.bld (ρ.t 72) (some (q, bs.length)))).del q).push (.buf (ρ.t 5) (bs ++ s))) w2) (fun w1 hw1 hb1 => ?_)) ?_
    · obtain ⟨r1, s1⟩ := hw w1 hw1 hb1
      have hgq1 : (h.set o (.bld (ρ.t 72) (some (q, bs.length)))).get q = some (.buf (ρ.t 5) bs) := by rw [AHeap.get_set, if_neg hqo]; exact hgq
      obtain ⟨_, k1, _, c1, k2, k3, k4, k5, k6, k7⟩ := r1.obj _ _ hgq1
      rw [hq1] at k1; cases k1
      by_cases hle : bs.length + s.length ≤ eq.K
      · obtain ⟨e', w2, b1, b2, b3, b5, b6, b7⟩ := app_in_buf ok r1 fr' (T37 := ρ.t 37) (T9 := ρ.t 9) (T5 := ρ.t 5) L.t37 h9 hi hz1 hgq1 hq1 hle
        have hb2 := hb1
        rw [← b5 _ (Ne.symm hne)] at hb2
        exact ⟨_, w2, b1, hb2, ⟨_, _, _, rfl⟩, e', by rw [b2], by rw [b2]; exact hle, hb2, b6, b7⟩
      · have hoc : ∃ oa : Array Value, (∀ d, (Builtin.firstCells 1 bs.length (.slice (some ⟨eq.blk, 0, none⟩) bs.length eq.K)).run F.c.P { w1 with drawn := d } = .ok oa { w1 with drawn := d }) ∧ oa.size = bs.length ∧ (∀ (j : Nat) (b : UInt8), bs[j]? = some b → oa[j]? = some (.int .u8 b.toNat)) ∧ ∀ v ∈ oa.toList, oneC v = true := by
          have hcell : ∀ d, (loadCells ⟨eq.blk, 0, none⟩ (c1.toList.take bs.length).length).run F.c.P { w1 with drawn := d } = .ok (c1.toList.take bs.length).toArray { w1 with drawn := d } := fun d =>
            run_loadCells_list (P := F.c.P) (w := { w1 with drawn := d }) ⟨eq.blk, 0, none⟩ (c1.toList.take bs.length) (fun j v hj => by
              rw [add_none]
              rw [List.getElem?_take] at hj
              split at hj
              · simp [World.cell?, k2]; simpa using hj
              · cases hj)
          have htl : (c1.toList.take bs.length).length = bs.length := by simp; omega
          rw [htl] at hcell
          refine ⟨(c1.toList.take bs.length).toArray, fun d => by simp only [Builtin.firstCells, Nat.mul_one]; exact hcell d, by simp; omega, fun j b hj => ?_, fun v hv => k6 v (List.mem_of_mem_take (by simpa using hv))⟩
          have := k7 j b hj
          have hlt := (List.getElem?_eq_some_iff.1 hj).1
          simp [List.getElem?_take, hlt]; simpa using this
        obtain ⟨oa, o1, o2, o3, o4⟩ := hoc
        obtain ⟨cap', e', w2, b1, b2, b3, b4, b5, b6, b7⟩ := app_new_buf ok (r1.del q) fr' (T37 := ρ.t 37) (T9 := ρ.t 9) (T5 := ρ.t 5) L.t37 h9 hi hz1 hz2 X.v5 (base := some ⟨eq.blk, 0, none⟩) (cap := eq.K) (bs := bs) (s := s) (oa := oa) o1 o2 o3 o4 hle hlen
        subst b2
        have hb2 : w2.heap[e.blk]? = some (.cells #[.pointer (some ⟨e.blk, 0, none⟩), .slice (some ⟨eq.blk, 0, none⟩) bs.length eq.K] (ρ.t 72) (0, 0)) := by
          rw [b5 _ (Array.getElem?_eq_some_iff.1 hb1).1]; exact hb1
        have hdel : Step ι (h.set o (.bld (ρ.t 72) (some (q, bs.length)))) w1 ι ((h.set o (.bld (ρ.t 72) (some (q, bs.length)))).del q) w1 := ⟨Sub.refl _, fun _ => .inr (.inl rfl), Nat.le_refl _, Keep.refl _ _, fun b hb => .inl hb.del⟩
        exact ⟨_, w2, b1, hb2, ⟨_, _, _, rfl⟩, e', rfl, b3, hb2, b6, hdel.trans b7⟩
    · rintro e1 w' ⟨rfl, w1, v', w2, hw1, hb1, ⟨e', rfl, c1, c2, c3, c4⟩, rfl⟩
      obtain ⟨r1, s1⟩ := hw _ hw1 hb1
      obtain ⟨d1, d2⟩ := bld_fin c3 c4 (o := o) (T := ρ.t 72) (q := some (q, bs.length)) (e := e) (by rw [AHeap.get_push, if_neg (by simpa using hon), AHeap.get_del, if_neg (Ne.symm hqo), AHeap.get_set, if_pos rfl]) (by simp [upd, hon, he]) hb0 c2 (upd_self _ _ _) c1
      exact ⟨_, ⟨_, rfl, ⟨_, _, rfl, by simp [VRel]; rfl, _, _, rfl, rfl, rfl⟩⟩, d1, s1.trans d2⟩
  · cases hq
/-- String, of a buffer that holds something: to the letter -/
theorem bld_string {P : Program} {ρ : Ren} (L : Lays.n169 P ρ) (X : Builder.Extra P ρ) (b g cap : Nat) (p : Value) (cur : Array Value) (l : List UInt8) (w : World) (hbk : w.heap[b]? = some (.cells #[p, .slice (some ⟨g, 0, none⟩) l.length cap] (ρ.t 72) (0, 0)))
    (hg : w.heap[g]? = some (.cells cur (ρ.t 5) (0, 0))) (hcur : cur.size = cap) (hle : l.length ≤ cap) (h0 : l ≠ []) (hlim : l.length ≤ 2 ^ 40) (hc : ∀ (j : Nat) (x : UInt8), l[j]? = some x → cur[j]? = some (.int .u8 x.toNat)) :
    Calls P (ρ.f 169) #[.pointer (some ⟨b, 0, none⟩)] w fun e w' => e = .returned (.string ⟨l.toArray⟩) ∧ w' = w.drew.freeze ⟨g, 0, none⟩ l.length := by
  have hl0 : l.length ≠ 0 := by simpa using h0
  have c1 : w.drew.cell? ⟨b, 1, none⟩ = some (.slice (some ⟨g, 0, none⟩) l.length cap) := by
    have : w.drew.heap[b]? = some (.cells #[p, .slice (some ⟨g, 0, none⟩) l.length cap] (ρ.t 72) (0, 0)) := hbk
    rw [Lib.cell_of_heap this]; rfl
  have hSD : (Builtin.unsafeSliceData_ #[(ρ.t 37)] (ρ.t 127) #[.slice (some ⟨g, 0, none⟩) l.length cap]).run P w.drew = .ok (.pointer (some ⟨g, 0, none⟩)) w.drew :=
    Lib.run_unsafeSliceData_row _ _ _ _ _ _ (by omega)
  have hUS : (Builtin.unsafeString_ #[(ρ.t 127), (ρ.t 3)] (ρ.t 9) #[.pointer (some ⟨g, 0, none⟩), .int .i64 l.length]).run P w.drew = .ok (.string ⟨l.toArray⟩) (w.drew.freeze ⟨g, 0, none⟩ l.length) := by
    refine Lib.run_unsafeString_row w.drew (ρ.t 127) (ρ.t 3) (ρ.t 9) (ρ.t 5) L.t127 X.cellsByte g cur.size (by have hg' : w.drew.heap[g]? = some (.cells cur (ρ.t 5) (0, 0)) := hg; simp [World.shape?, hg']) l h0 (by omega) (by omega) ?_
    intro j x hx
    have hg' : w.drew.heap[g]? = some (.cells cur (ρ.t 5) (0, 0)) := hg
    rw [add_none]
    simp [World.cell?, hg', hc j x hx]
  have mixed := L.mixed
  have t72 := L.t72; have a72 := L.a72; have z72 := L.z72; have v72 := L.v72; have u72 := run_underlying L.t72
  have t70 := L.t70; have a70 := L.a70; have z70 := L.z70; have v70 := L.v70; have u70 := run_underlying L.t70
  have t37 := L.t37; have a37 := L.a37; have z37 := L.z37; have v37 := L.v37; have u37 := run_underlying L.t37
  have t127 := L.t127; have a127 := L.a127; have z127 := L.z127; have v127 := L.v127; have u127 := run_underlying L.t127
  have t3 := L.t3; have a3 := L.a3; have z3 := L.z3; have v3 := L.v3; have u3 := run_underlying L.t3
  have t9 := L.t9; have a9 := L.a9; have z9 := L.z9; have v9 := L.v9; have u9 := run_underlying L.t9
  have t5 := X.t5; have a5 := X.a5; have z5 := X.z5; have v5 := X.v5; have u5 := run_underlying X.t5
  go_enter L.f169, Body.n169_ntmps ρ
  go_wp2
  go_region_o
  all_goals (go_wp2; go_ret; exact ⟨rfl, rfl⟩)

theorem Rel.keepG (r : Rel F ι h w) {w' : World} {B : Nat → Prop} (hk : Keep B w w') (hB : ∀ j, B j → F.N ≤ j) (hN : ∀ b, Own ι h b → ¬ B b) : Rel F ι h w' :=
  ⟨hk.below r.below (Nat.le_refl _) hB, fun o x ho => by
    obtain ⟨e, h1, h2, h3⟩ := r.obj o x ho
    exact ⟨e, h1, h2, h3.mono (Sub.refl _) (hk.block _ h3.lt (hN _ ⟨o, x, e, ho, h1, rfl⟩))⟩, r.inj, r.lt⟩

theorem bldString_ok {ρ : Ren} (L : Lays.n169 F.c.P ρ) (X : Builder.Extra F.c.P ρ) (ok : F.Ok) : ∀ args h v h', bldString (ρ.t 72) (ρ.t 5) args h = .ok (v, h') → h.next ≤ h'.next ∧
    ∀ ι w (av : Array Value), Rel F ι h w → VRels ι F.ρ args av.toList → Fresh ι h.next h'.next → CallTo F.c.P (ρ.f 169) av w (Out F ι h w v h') := by
  intro args h v h' hq
  unfold bldString at hq
  have hent : ∀ av w, (callFunc (ρ.f 169) av).run F.c.P w = .ok (.enter (ρ.f 169) av) w := enters_of L.f169 (by kernel_rfl) rfl
  split at hq
  rotate_left; · cases hq
  rename_i o
  split at hq
  · rename_i T hgo
    split at hq
    · cases hq
    rename_i hT
    obtain rfl : T = ρ.t 72 := Decidable.byContradiction hT
    cases hq
    refine ⟨Nat.le_refl _, fun ι w av r ha fr => .inr ⟨hent _ _, ?_⟩⟩
    obtain ⟨v1, _, hav, ⟨e, he, rfl⟩, a3⟩ := ha
    simp only [VRels] at a3; subst a3
    obtain ⟨e', g1, _, p, v, hbk, hb0, hp, g5⟩ := r.obj _ _ hgo
    rw [he] at g1; cases g1
    obtain rfl : v = .slice none 0 0 := by rcases g5 with ⟨_, rfl⟩ | ⟨_, _, _, _, hh, _⟩; rfl; cases hh
    have : av = #[.pointer (some ⟨e.blk, 0, none⟩)] := by apply Array.toList_inj.1; rw [hav, hb0]
    subst this
    refine Calls.mono (Any.Builder_String_nil L X w.heap.size e.blk p w hbk) ?_
    rintro e1 w' ⟨rfl, hb⟩
    have hk : Keep (fun _ => False) w w' := ⟨hb.os, hb.tape, hb.output, hb.size, fun k hk _ => hb.block k hk⟩
    refine ⟨ι, rfl, (r.del o).keepG hk (fun _ hh => hh.elim) (fun _ _ hh => hh), ⟨Sub.refl _, fun _ => .inr (.inl rfl), Nat.le_refl _, hk.mono fun _ _ hh => hh.elim, fun b hb => .inl hb.del⟩⟩
  · rename_i T q n hgo
    split at hq
    rotate_left; · cases hq
    rename_i T' bs hgq
    split at hq
    · cases hq
    rename_i hc
    obtain ⟨rfl, rfl, rfl, hqo, hn0, hlen⟩ : T = ρ.t 72 ∧ T' = ρ.t 5 ∧ bs.length = n ∧ q ≠ o ∧ n ≠ 0 ∧ n ≤ 2 ^ 40 :=
      ⟨Decidable.byContradiction fun hh => hc (.inl hh), Decidable.byContradiction fun hh => hc (.inr (.inl hh)), Decidable.byContradiction fun hh => hc (.inr (.inr (.inl hh))), fun hh => hc (.inr (.inr (.inr (.inl hh)))), fun hh => hc (.inr (.inr (.inr (.inr (.inl hh))))), Nat.le_of_not_lt fun hh => hc (.inr (.inr (.inr (.inr (.inr hh)))))⟩
    cases hq
    refine ⟨Nat.le_refl _, fun ι w av r ha fr => .inr ⟨hent _ _, ?_⟩⟩
    obtain ⟨v1, _, hav, ⟨e, he, rfl⟩, a3⟩ := ha
    simp only [VRels] at a3; subst a3
    obtain ⟨e', g1, _, p, v, hbk, hb0, hp, g5⟩ := r.obj _ _ hgo
    rw [he] at g1; cases g1
    obtain ⟨eq, hq1, rfl, hnK⟩ : ∃ eq, ι q = some eq ∧ v = .slice (some ⟨eq.blk, 0, none⟩) bs.length eq.K ∧ bs.length ≤ eq.K := by
      rcases g5 with ⟨hh, _⟩ | ⟨o', n', eq, cap, hh, k1, k2, k3, k4⟩
      · cases hh
      · cases hh; subst k3; exact ⟨eq, k1, k2, k4⟩
    obtain ⟨e2, j1, j0, c, j2, j3, j4, j5, j6, j7⟩ := r.obj _ _ hgq
    rw [hq1] at j1; cases j1
    have : av = #[.pointer (some ⟨e.blk, 0, none⟩)] := by apply Array.toList_inj.1; rw [hav, hb0]
    subst this
    refine Calls.mono (bld_string L X e.blk eq.blk eq.K p c bs w hbk j2 j4 hnK (fun hh => hn0 (by rw [hh]; rfl)) hlen j7) ?_
    rintro e1 w' ⟨rfl, rfl⟩
    have hk : Keep (fun b => b = eq.blk) w (w.drew.freeze ⟨eq.blk, 0, none⟩ bs.length) := by
      unfold World.freeze
      rw [if_neg hn0]
      refine ⟨rfl, rfl, rfl, ?_, fun k _ hk => ?_⟩
      · show w.heap.size ≤ (w.heap.modify _ _).size
        rw [Array.size_modify]; exact Nat.le_refl _
      · show (w.heap.modify _ _)[k]? = _
        rw [Array.getElem?_modify, if_neg (Ne.symm hk)]
    have hown : ∀ b, Own ι ((h.del o).del q) b → b ≠ eq.blk := by
      rintro b ⟨k, x, f, k1, k2, rfl⟩ hh
      rw [AHeap.get_del] at k1
      split at k1
      · cases k1
      · rename_i hkq
        rw [AHeap.get_del] at k1
        split at k1
        · cases k1
        · exact hkq (r.inj _ _ _ _ _ _ k1 hgq k2 hq1 hh)
    refine ⟨ι, rfl, ((r.del o).del q).keepG hk (fun j hj => by rw [hj]; exact j0) hown, ⟨Sub.refl _, fun _ => .inr (.inl rfl), Nat.le_refl _, hk.mono fun j _ hj => ⟨q, _, eq, hgq, hq1, hj.symm⟩, fun b hb => .inl hb.del.del⟩⟩
  · cases hq
end
end Go.Proofs.YthblmlkkmebciaaDoor
set_option linter.all false
set_option maxRecDepth 100000
namespace Go.Proofs.YthblmlkkmebciaaDoor
open Go Go.RowKit Go.Proofs Go.Shelf
def bRen : Ren := ⟨fun n => if n = 166 then 72 else if n = 169 then 73 else if n = 240 then 103 else if n = 276 then 119 else n, fun n => if n = 0 then 0 else if n = 3 then 3 else if n = 4 then 4 else if n = 5 then 5 else if n = 9 then 9 else if n = 20 then 20 else if n = 37 then 132 else if n = 70 then 131 else if n = 72 then 134 else if n = 75 then 138 else if n = 80 then 77 else if n = 127 then 169 else if n = 164 then 180 else n, fun n => n⟩
theorem lays166 : Lays.n166 Tryd.prog bRen where
  mixed := Tryd.checked.mixed
  f166 := by kernel_rfl
  f240 := by kernel_rfl
  f276 := by kernel_rfl
  t0 := by kernel_rfl
  a0 := isAggR_ok (P := Tryd.prog) (by kernel_rfl)
  z0 := run_size (P := Tryd.prog) (by kernel_rfl)
  v0 := fun w => by kernel_rfl
  t3 := by kernel_rfl
  a3 := isAggR_ok (P := Tryd.prog) (by kernel_rfl)
  z3 := run_size (P := Tryd.prog) (by kernel_rfl)
  v3 := fun w => by kernel_rfl
  t4 := by kernel_rfl
  a4 := isAggR_ok (P := Tryd.prog) (by kernel_rfl)
  z4 := run_size (P := Tryd.prog) (by kernel_rfl)
  v4 := fun w => by kernel_rfl
  t9 := by kernel_rfl
  a9 := isAggR_ok (P := Tryd.prog) (by kernel_rfl)
  z9 := run_size (P := Tryd.prog) (by kernel_rfl)
  v9 := fun w => by kernel_rfl
  t20 := by kernel_rfl
  a20 := isAggR_ok (P := Tryd.prog) (by kernel_rfl)
  z20 := run_size (P := Tryd.prog) (by kernel_rfl)
  v20 := fun w => by kernel_rfl
  t37 := by kernel_rfl
  a37 := isAggR_ok (P := Tryd.prog) (by kernel_rfl)
  z37 := run_size (P := Tryd.prog) (by kernel_rfl)
  v37 := fun w => by kernel_rfl
  t70 := by kernel_rfl
  a70 := isAggR_ok (P := Tryd.prog) (by kernel_rfl)
  z70 := run_size (P := Tryd.prog) (by kernel_rfl)
  v70 := fun w => by kernel_rfl
  t72 := by kernel_rfl
  a72 := isAggR_ok (P := Tryd.prog) (by kernel_rfl)
  z72 := run_size (P := Tryd.prog) (by kernel_rfl)
  v72 := fun w => by kernel_rfl
  t75 := by kernel_rfl
  a75 := isAggR_ok (P := Tryd.prog) (by kernel_rfl)
  z75 := run_size (P := Tryd.prog) (by kernel_rfl)
  v75 := fun w => by kernel_rfl
  t164 := by kernel_rfl
  a164 := isAggR_ok (P := Tryd.prog) (by kernel_rfl)
  z164 := run_size (P := Tryd.prog) (by kernel_rfl)
  v164 := fun w => by kernel_rfl
theorem lays169 : Lays.n169 Tryd.prog bRen where
  mixed := Tryd.checked.mixed
  f169 := by kernel_rfl
  t0 := by kernel_rfl
  a0 := isAggR_ok (P := Tryd.prog) (by kernel_rfl)
  z0 := run_size (P := Tryd.prog) (by kernel_rfl)
  v0 := fun w => by kernel_rfl
  t3 := by kernel_rfl
  a3 := isAggR_ok (P := Tryd.prog) (by kernel_rfl)
  z3 := run_size (P := Tryd.prog) (by kernel_rfl)
  v3 := fun w => by kernel_rfl
  t9 := by kernel_rfl
  a9 := isAggR_ok (P := Tryd.prog) (by kernel_rfl)
  z9 := run_size (P := Tryd.prog) (by kernel_rfl)
  v9 := fun w => by kernel_rfl
  t37 := by kernel_rfl
  a37 := isAggR_ok (P := Tryd.prog) (by kernel_rfl)
  z37 := run_size (P := Tryd.prog) (by kernel_rfl)
  v37 := fun w => by kernel_rfl
  t70 := by kernel_rfl
  a70 := isAggR_ok (P := Tryd.prog) (by kernel_rfl)
  z70 := run_size (P := Tryd.prog) (by kernel_rfl)
  v70 := fun w => by kernel_rfl
  t72 := by kernel_rfl
  a72 := isAggR_ok (P := Tryd.prog) (by kernel_rfl)
  z72 := run_size (P := Tryd.prog) (by kernel_rfl)
  v72 := fun w => by kernel_rfl
  t127 := by kernel_rfl
  a127 := isAggR_ok (P := Tryd.prog) (by kernel_rfl)
  z127 := run_size (P := Tryd.prog) (by kernel_rfl)
  v127 := fun w => by kernel_rfl
theorem laysX : Builder.Extra Tryd.prog bRen where
  sizeBuilder := by kernel_rfl
  liesBuilder := by kernel_rfl
  t5 := by kernel_rfl
  a5 := isAggR_ok (P := Tryd.prog) (by kernel_rfl)
  z5 := run_size (P := Tryd.prog) (by kernel_rfl)
  v5 := fun w => by kernel_rfl
  infoByte := by kernel_rfl
  cellsByte := by kernel_rfl
  sizeByte := by kernel_rfl
  neB5 := by decide
def bldWriteP : Prim := bldWrite 134 5
theorem bldWriteP_sound (F : Fix) (hP : F.c.P = Tryd.prog) (ok : F.Ok) : ∀ args h v h', bldWriteP args h = .ok (v, h') → h.next ≤ h'.next ∧
    ∀ ι w (av : Array Value), Rel F ι h w → VRels ι F.ρ args av.toList → Fresh ι h.next h'.next → CallTo F.c.P 72 av w (Out F ι h w v h') :=
  bldWrite_ok (ρ := bRen) (by rw [hP]; exact lays166) (by rw [hP]; exact laysX) ok (by rw [hP]; kernel_rfl)
def bldStringP : Prim := bldString 134 5
theorem bldStringP_sound (F : Fix) (hP : F.c.P = Tryd.prog) (ok : F.Ok) : ∀ args h v h', bldStringP args h = .ok (v, h') → h.next ≤ h'.next ∧
    ∀ ι w (av : Array Value), Rel F ι h w → VRels ι F.ρ args av.toList → Fresh ι h.next h'.next → CallTo F.c.P 73 av w (Out F ι h w v h') :=
  bldString_ok (ρ := bRen) (by rw [hP]; exact lays169) (by rw [hP]; exact laysX) ok
end Go.Proofs.YthblmlkkmebciaaDoor
set_option linter.all false
set_option maxRecDepth 100000
namespace Go.Proofs.YthblmlkkmebciaaDoor
open Go Go.RowKit Go.Proofs Go.Proofs.YthblmlkkmebciaaDoor
def annL : List (Nat × FnAnn) := [
  (2, ⟨true, [], [(0, [0])]⟩),
  (3, ⟨true, [6], [(0, [2]), (1, [7]), (2, [0, 8]), (3, [8, 9, 10]), (4, [0, 11]), (5, [11]), (7, [0]), (9, [15, 16, 17]), (10, [6, 18, 19, 20, 21, 22, 23]), (11, [24]), (12, [12, 13, 14, 15, 25]), (13, [3, 4, 26]), (14, [3, 4, 26, 27, 28, 29, 30])]⟩),
  (4, ⟨true, [6], [(0, [2]), (1, [8]), (2, [0, 9]), (3, [9, 10, 11]), (4, [0, 12]), (5, [12]), (7, [0]), (9, [16, 17, 18]), (10, [7]), (11, [6, 19, 20, 21, 22, 23, 24]), (12, [7, 25, 26, 27, 28, 29, 30]), (13, [3, 4, 13, 14, 15, 31]), (14, [31, 32]), (15, [3, 4, 13, 14, 15, 16])]⟩),
  (5, ⟨true, [3, 9, 10, 11, 15], [(0, [1, 4]), (1, [16]), (2, [0, 3, 17]), (3, [17, 18, 19, 20, 21, 22, 23, 24, 25, 26]), (4, [0, 3, 27]), (5, [0, 7, 27, 28, 29, 30, 31, 32, 33, 34]), (6, [8, 35]), (7, [3, 5, 6, 36]), (8, [36, 37, 38, 39, 40, 41]), (9, [42, 43, 44, 45, 46, 47, 48, 49, 50, 51]), (10, [52, 53, 54, 55, 56, 57, 58, 59, 60]), (11, [3, 5, 6, 9, 10, 11, 12, 61, 62, 63, 64, 65, 66, 67, 68, 69, 70, 71, 72, 73, 74, 75, 76, 77, 78, 79, 80, 81, 82]), (12, [5, 61, 83, 84, 85, 86, 87, 88, 89, 90, 91, 92, 93]), (13, [3, 6, 9, 10, 11, 12, 94]), (14, [3, 6, 9, 94, 95, 96, 97, 98, 99, 100, 101, 102]), (17, [106, 107, 108, 109]), (18, [15, 110, 111, 112]), (19, [10, 103, 104, 105, 113, 114]), (20, [11, 12, 13, 14, 115, 116, 117, 118, 119, 120, 121]), (21, [11, 12, 13, 14, 115, 122, 123, 124, 125, 126, 127, 128, 129, 130, 131, 132, 133]), (22, [14, 113, 134]), (23, [10, 11, 12, 13, 103, 104, 105, 106])]⟩),
  (6, ⟨true, [], [(0, [2]), (1, [7]), (2, [0, 8]), (3, [8, 9, 10]), (4, [0, 11]), (5, [0, 5, 11, 12, 13, 14, 15, 16, 17, 18]), (6, [3, 4, 6, 19, 20, 21, 22, 23, 24, 25, 26])]⟩),
  (7, ⟨true, [], [(0, [4]), (1, [16]), (2, [0, 1, 17]), (3, [17, 18, 19, 20, 21, 22, 23, 24]), (4, [0, 1, 25]), (5, [0, 6, 25, 26, 27, 28, 29, 30, 31, 32]), (6, [8, 33]), (7, [1, 5, 7, 34]), (8, [34]), (9, [7, 35, 36, 37]), (11, [38, 39]), (13, [40]), (14, [43, 44]), (15, [45, 46, 47, 48, 49, 50, 51, 52, 53, 54, 55, 56, 57, 58]), (16, [45]), (17, [59]), (19, [62, 63]), (20, [14, 64, 65, 66, 67, 68, 69]), (21, [70, 71, 72, 73, 74, 75, 76, 77, 78, 79, 80, 81, 82]), (22, [12, 15, 60, 61, 83, 84]), (23, [15, 83, 85]), (24, [12, 60, 61, 62, 86, 87, 88, 89, 90, 91, 92, 93, 94, 95, 96, 97, 98, 99, 100]), (25, [1, 5, 9, 10, 11, 13, 101]), (26, [13, 101, 102, 103, 104, 105, 106, 107, 108, 109, 110, 111]), (12, [41, 42]), (27, [1, 5, 9, 10, 11, 40, 112, 113, 114, 115, 116, 117, 118, 119])]⟩),
  (8, ⟨true, [4, 10, 12, 18, 20], [(0, [1, 6]), (1, [24]), (2, [0, 2, 4, 25]), (3, [25, 26, 27]), (4, [0, 2, 4, 28]), (5, [28]), (7, [0]), (9, [32, 33, 34]), (10, [10, 35, 36, 37, 38, 39, 40]), (11, [41]), (12, [29, 30, 31, 32, 42, 43, 44]), (13, [45, 46, 47, 48, 49]), (14, [50, 51, 52, 53, 54, 55]), (15, [16, 56, 57, 58, 59, 60, 61, 62, 63, 64, 65, 66, 67, 68, 69, 70]), (16, [2, 4, 7, 8, 11, 12, 13, 14, 15, 71]), (17, [71, 72, 73, 74, 75, 76, 77, 78, 79, 80, 81, 82, 83, 84, 85]), (18, [2, 4, 7, 8, 11, 12, 13, 14, 15, 86]), (19, [12, 13, 14, 15, 86, 87, 88, 89, 90, 91, 92, 93, 94, 95, 96, 97, 98, 99, 100, 101, 102, 103, 104, 105, 106, 107, 108, 109]), (20, [2, 4, 7, 8, 11, 110]), (21, [110, 111, 112, 113]), (22, [114]), (23, [115]), (24, [2, 115, 116, 117, 118, 119, 120]), (25, [17, 18, 19, 121, 122, 123, 124, 125, 126, 127, 128, 129, 130, 131, 132, 133, 134, 135, 136, 137, 138, 139, 140, 141, 142, 143, 144]), (26, [4, 7, 8, 11, 145]), (27, [7, 145, 146, 147, 148, 149, 150]), (28, [151, 152]), (29, [4, 11, 153, 154, 155, 156, 157, 158, 159, 160, 161, 162, 163, 164]), (30, [8, 20, 21, 22, 165, 166, 167, 168, 169, 170, 171, 172]), (31, [20, 165, 173, 174, 175, 176, 177, 178, 179, 180, 181, 182]), (32, [8, 21, 22, 23, 183, 184, 185, 186, 187, 188, 189, 190, 191, 192, 193, 194, 195, 196, 197, 198, 199, 200, 201, 202, 203, 204, 205, 206, 207, 208])]⟩),
  (9, ⟨true, [2], [(0, [0]), (2, [7]), (3, [8, 9, 10, 11, 12]), (4, [13, 14, 15, 16, 17, 18]), (5, [19]), (6, [2, 20, 21]), (7, [1, 3, 4, 5, 6, 22, 23, 24, 25, 26, 27, 28, 29, 30, 31, 32, 33, 34, 35, 36, 37, 38, 39])]⟩),
  (10, ⟨true, [5], [(0, [2]), (4, [9, 10, 11]), (5, [5, 12, 13, 14, 15, 16, 17, 18]), (6, [19]), (7, [0, 3, 6, 7, 8, 20]), (8, [20, 21]), (9, [0, 3, 6, 7, 8, 9, 22, 23, 24])]⟩),
  (11, ⟨true, [5], [(0, [2, 6, 7]), (2, [10]), (3, [13]), (4, [0, 9, 11, 12, 14, 15, 16, 17, 18, 19]), (5, [5, 20, 21, 22, 23, 24, 25, 26, 27, 28, 29, 30, 31, 32, 33, 34, 35, 36, 37, 38, 39]), (6, [11, 12, 41]), (7, [0, 9, 40, 42, 43, 44, 45, 46, 47]), (8, [5, 48, 49, 50, 51, 52, 53, 54, 55, 56]), (9, [0, 1, 5, 8, 9, 40, 57, 58, 59, 60])]⟩),
  (12, ⟨true, [], [(0, [2]), (1, [0, 3, 4, 5, 6, 7])]⟩),
  (13, ⟨true, [], [(0, [2]), (1, [0, 3, 4, 5, 6])]⟩),
  (14, ⟨true, [], [(0, [2]), (3, [5, 6, 7]), (5, [8, 11, 12, 13, 14, 15, 16, 17, 18, 19, 20, 21, 22, 23, 24]), (6, [25, 26, 27]), (4, [9, 10, 25]), (7, [0, 3, 4, 8, 28])]⟩),
  (15, ⟨true, [8, 9, 11], [(0, [4]), (1, [13, 14]), (2, [15, 16]), (3, [17, 18, 19, 20, 21, 22, 23, 24, 25, 26, 27, 28, 29, 30, 31, 32, 33, 34, 35, 36, 37, 38, 39, 40, 41, 42, 43, 44, 45, 46, 47, 48, 49, 50, 51, 52, 53, 54, 55]), (4, [0, 1, 5, 6, 56]), (5, [56, 57]), (7, [60, 61]), (8, [7, 62, 63, 64, 65, 66, 67, 68, 69, 70]), (9, [0, 1, 5, 6, 58, 59, 71]), (10, [71, 72]), (11, [5, 6, 58, 59, 60, 73, 74]), (12, [75, 76, 77, 78, 79, 80, 81]), (13, [82, 83, 84, 85, 86, 87, 88]), (14, [0, 1, 8, 9, 10, 11, 12, 89, 90, 91, 92, 93, 94, 95, 96, 97, 98, 99, 100, 101, 102, 103, 104, 105, 106, 107, 108, 109, 110, 111])]⟩),
  (16, ⟨true, [], [(0, [0]), (2, [5, 6, 7, 8, 9, 10]), (3, [1, 2, 3, 4, 11, 12, 13, 14, 15, 16, 17, 18, 19, 20, 21, 22, 23, 24])]⟩),
  (17, ⟨true, [5], [(0, [2]), (4, [9, 10, 11]), (5, [5, 12, 13, 14, 15, 16, 17, 18]), (6, [19]), (7, [0, 3, 6, 7, 8, 20]), (8, [20, 21]), (9, [0, 3, 6, 7, 8, 9, 22, 23, 24])]⟩),
  (18, ⟨true, [10, 11, 12], [(0, [2, 3, 4, 5]), (4, [0]), (6, [17, 18, 19]), (7, [20, 21, 22, 23, 24]), (8, [12, 25, 26, 27, 28]), (9, [29, 30, 31, 32, 33, 34, 35]), (10, [6, 7, 8, 10, 11, 13, 14, 15, 16, 36, 37, 38]), (11, [13, 36, 39, 40, 41, 42, 43, 44, 45, 46]), (12, [47, 48, 49, 50, 51, 52]), (13, [6, 7, 8, 10, 11, 14, 15, 16, 53, 54, 55]), (14, [11, 53, 56, 57, 58, 59, 60, 61]), (15, [10, 62, 63, 64, 65]), (16, [10, 11, 47, 66]), (17, [6, 7, 8, 14, 15, 16, 17, 67, 68])]⟩),
  (19, ⟨true, [4, 5, 6, 8, 9], [(0, [1, 2, 7]), (1, [11, 12, 13, 14, 15, 16, 17, 18]), (2, [0, 4, 5, 19, 20]), (3, [4, 19, 21]), (4, [22, 23, 24, 25, 26, 27]), (5, [10, 28, 29, 30, 31, 32, 33, 34]), (6, [9, 35, 36, 37]), (7, [0, 5, 8, 9, 35, 38])]⟩),
  (20, ⟨true, [1], [(0, [0, 2]), (1, [1, 3, 4, 5])]⟩),
  (21, ⟨true, [3], [(0, [1, 4]), (2, [6, 7, 8]), (4, [9, 12, 13, 14, 15, 16, 17, 18]), (5, [0, 3, 5, 19, 20]), (3, [10, 11, 19]), (6, [0, 3, 5, 9])]⟩),
  (22, ⟨true, [1], [(0, [0, 2]), (1, [4, 5, 6]), (2, [1, 3, 7, 8, 9, 10, 11, 12, 13, 14, 15, 16, 17, 18, 19, 20, 21, 22, 23, 24, 25, 26, 27, 28, 29, 30, 31, 32, 33, 34, 35, 36, 37, 38, 39, 40, 41, 42, 43, 44, 45, 46])]⟩),
  (23, ⟨true, [4, 5, 7], [(0, [1, 2, 6]), (1, [9, 10]), (2, [0, 4, 5, 11]), (3, [4, 11, 12, 13, 14, 15, 16, 17, 18, 19]), (4, [20]), (5, [0, 5, 7, 8, 21, 22]), (6, [0, 5, 7, 8, 21, 23, 24, 25, 26])]⟩),
  (24, ⟨true, [4, 5], [(0, [1, 2, 6]), (1, [8, 9, 10, 11, 12, 13, 14]), (2, [0, 4, 5, 15]), (3, [4, 15, 16, 17, 18]), (4, [0, 5, 7, 19, 20, 21, 22, 23, 24, 25, 26, 27, 28, 29, 30])]⟩),
  (25, ⟨true, [3, 6], [(0, [1, 4]), (1, [7, 8, 9]), (2, [0, 3, 10]), (3, [3, 10, 11, 12]), (5, [16, 17, 18]), (6, [6, 19, 20, 21, 22]), (7, [0, 13, 14, 15, 23]), (8, [23, 24]), (9, [0, 13, 14, 15, 16])]⟩),
  (26, ⟨true, [3], [(0, [1, 4]), (2, [7, 8, 9, 10]), (3, [11]), (4, [12, 13, 14, 15, 16, 17, 18, 19, 20]), (5, [21, 22, 23, 24, 25, 26, 27, 28, 29, 30]), (6, [31, 32, 33, 34, 35, 36, 37, 38, 39]), (7, [0, 3, 5, 6, 12, 40])]⟩),
  (27, ⟨true, [4, 5], [(0, [1, 2, 6]), (2, [0, 10, 11, 12]), (3, [5, 13, 14]), (5, [15, 16, 17]), (7, [18, 21, 22, 23, 24, 25, 26, 27, 28, 29]), (8, [30, 31, 32, 33, 34]), (6, [19, 20]), (9, [4, 7, 8, 9, 18, 35])]⟩),
  (28, ⟨true, [1, 2], [(0, [0]), (1, [1, 3, 4, 5, 6, 7, 8, 9, 10, 11])]⟩),
  (29, ⟨true, [1, 2], [(0, [0]), (1, [1, 3, 4, 5, 6, 7, 8, 9])]⟩),
  (30, ⟨true, [7], [(0, [4]), (1, [0, 8, 9]), (2, [10, 11, 12, 13]), (3, [1, 5, 14]), (4, [5, 14]), (6, [18, 19, 20, 21]), (7, [6, 7, 22, 23, 24, 25, 26, 27, 28, 29, 30, 31, 32, 33, 34, 35, 36, 37, 38, 39, 40, 41, 42, 43, 44, 45, 46, 47, 48, 49, 50, 51, 52, 53, 54, 55, 56, 57, 58]), (8, [1, 15, 16, 17, 59]), (9, [59, 60]), (10, [1, 15, 16, 17, 18])]⟩),
  (31, ⟨true, [3], [(0, [1, 4]), (1, [0, 3, 5, 7, 8, 9, 10, 11, 12]), (2, [6, 13])]⟩),
  (32, ⟨true, [5], [(0, [2]), (2, [0, 6, 7, 8, 9]), (3, [10]), (5, [11, 14, 15]), (6, [16]), (7, [5, 17, 18, 19, 20]), (4, [5, 12, 13, 17]), (8, [3, 4, 11, 21])]⟩),
  (33, ⟨true, [], [(0, [4]), (1, [0, 1, 8, 9, 10, 11]), (2, [12, 13, 14, 15]), (3, [5, 6, 16]), (4, [16, 17]), (6, [20, 21]), (7, [7, 22, 23, 24, 25, 26, 27, 28, 29]), (8, [5, 6, 18, 19, 30]), (9, [30, 31]), (10, [5, 6, 18, 19, 20])]⟩),
  (34, ⟨true, [3], [(0, [1, 4]), (2, [6, 7, 8]), (4, [9, 12, 13, 14, 15, 16, 17, 18, 19, 20, 21, 22, 23, 24, 25, 26, 27, 28, 29, 30]), (5, [0, 3, 5, 31, 32]), (3, [10, 11, 31]), (6, [0, 3, 5, 9])]⟩),
  (35, ⟨true, [3, 4], [(0, [1, 5]), (1, [0, 3, 8, 9, 10, 11, 12, 13]), (2, [14]), (3, [6, 7, 15, 16]), (4, [6, 7, 15, 17, 18, 19, 20])]⟩),
  (36, ⟨true, [3, 9], [(0, [1, 4, 5, 6]), (1, [3, 10, 11, 12, 13, 14, 15]), (2, [16]), (3, [0, 7, 8, 17]), (4, [0, 17, 18, 19, 20, 21, 22]), (5, [7, 23, 24]), (6, [25, 26, 27, 28, 29, 30]), (7, [8, 9, 25, 31, 32, 33, 34, 35, 36])]⟩),
  (37, ⟨true, [2, 3], [(0, [0, 1, 4]), (1, [2, 3, 5, 6, 7, 8, 9, 10, 11, 12, 13, 14, 15, 16, 17, 18, 19, 20, 21, 22, 23, 24, 25, 26, 27, 28, 29, 30])]⟩),
  (38, ⟨true, [], [(0, [2]), (3, [5, 6, 7]), (5, [8, 11, 12, 13, 14]), (6, [15, 16, 17, 18, 19, 20, 21, 22, 23, 24]), (4, [9, 10, 15]), (7, [0, 3, 4, 8, 25])]⟩),
  (39, ⟨true, [], [(0, [4]), (2, [6, 7, 8]), (4, [9, 12, 13, 14, 15]), (5, [16, 17]), (6, [0, 1, 5, 18, 19]), (7, [18, 20, 21]), (3, [10, 11, 16]), (8, [0, 1, 5, 9])]⟩),
  (40, ⟨true, [4, 7], [(0, [1, 5]), (1, [8, 9, 10, 11, 12, 13, 14]), (2, [0, 3, 15, 16]), (3, [0, 15, 17, 18, 19, 20, 21, 22, 23, 24]), (4, [3, 6, 7, 25, 26, 27, 28, 29, 30, 31])]⟩),
  (41, ⟨true, [3, 4, 9, 10], [(0, [1, 5]), (1, [12, 13, 14, 15]), (2, [16, 17]), (3, [0, 3, 6, 18, 19, 20, 21, 22, 23, 24]), (4, [25]), (5, [7, 8, 26, 27]), (6, [8, 9, 26, 28, 29, 30, 31, 32, 33, 34, 35, 36]), (7, [11]), (8, [7, 10, 37, 38]), (9, [7, 10, 37, 39, 40]), (10, [0, 3, 18, 41]), (11, [6, 42, 43]), (12, [6, 42, 44, 45])]⟩),
  (42, ⟨true, [1], [(0, [0, 2]), (3, [6, 7, 8, 9]), (5, [10, 13, 14]), (6, [5, 15, 16, 17, 18, 19, 20, 21, 22, 23, 24, 25, 26, 27, 28, 29, 30, 31, 32, 33, 34, 35, 36, 37, 38, 39, 40, 41, 42, 43, 44, 45]), (4, [11, 12]), (7, [1, 3, 4, 10, 46])]⟩),
  (43, ⟨true, [], [(0, [4]), (1, [6, 7, 8, 9]), (2, [0, 1, 10]), (3, [10]), (4, [11, 12, 13]), (6, [14, 17, 18, 19, 20, 21, 22, 23, 24]), (7, [0, 1, 5, 25]), (5, [15, 16, 25]), (8, [0, 1, 5, 14])]⟩),
  (44, ⟨true, [4, 5], [(0, [1, 2, 6]), (2, [12, 13, 14]), (3, [0, 4, 5, 7, 11]), (4, [11, 16, 17, 18, 19, 20, 21, 22, 23, 24]), (5, [0, 4, 5, 7, 15]), (6, [15, 26, 27, 28, 29]), (7, [0, 4, 5, 7, 25]), (8, [25, 31, 32, 33, 34, 35, 36]), (9, [0, 4, 5, 7, 30]), (10, [30, 37, 38]), (11, [4, 7, 39, 40, 41, 42, 43, 44, 45]), (12, [8, 9, 46, 47, 48, 49, 50]), (13, [4, 5, 39, 51, 52, 53, 54, 55, 56]), (14, [57, 58, 59]), (15, [10, 60, 61, 62]), (16, [0, 7, 63, 64, 65])]⟩),
  (45, ⟨true, [2, 4], [(0, [0]), (1, [1, 2, 5, 6, 7, 8, 9, 10, 11, 12])]⟩),
  (46, ⟨true, [4, 9], [(0, [1, 6]), (1, [4, 10, 11, 12, 13, 14, 15]), (2, [16]), (3, [0, 2, 7, 8, 17]), (4, [17, 18, 19, 20, 21]), (5, [0, 2, 7, 8, 22]), (6, [22, 23, 24, 25, 26, 27]), (7, [28]), (8, [8, 29, 30, 31, 32, 33, 34]), (9, [8, 29, 35, 36]), (10, [2, 37, 38]), (11, [9, 39, 40, 41, 42, 43, 44]), (12, [45, 46, 47]), (13, [0, 7, 48, 49, 50, 51])]⟩),
  (47, ⟨true, [4, 5], [(0, [1, 2, 6, 7]), (1, [12, 13]), (2, [0, 4, 5, 14, 15]), (3, [14]), (4, [16, 17, 18, 19, 20, 21, 22]), (5, [4, 23, 24, 25, 26, 27]), (6, [28]), (7, [0, 5, 8, 29, 30]), (8, [4, 5, 23, 29, 31, 32]), (10, [33, 34, 35]), (12, [36, 39, 40, 41, 42, 43, 44, 45, 46, 47, 48, 49, 50, 51, 52, 53]), (13, [0, 8, 9, 10, 54, 55]), (11, [37, 38, 54]), (14, [10, 36, 56, 57, 58, 59, 60]), (15, [0, 8, 9, 61, 62]), (16, [61]), (17, [63, 64, 65, 66, 67]), (18, [9, 68, 69, 70]), (19, [0, 8, 11, 71, 72, 73, 74, 75])]⟩),
  (48, ⟨true, [4], [(0, [1, 6, 7]), (1, [4, 10, 11, 12]), (2, [13]), (3, [0, 2, 8, 14, 15]), (4, [14]), (5, [0, 16, 17, 18]), (6, [2, 8, 19, 20, 21, 22, 23]), (7, [9, 24])]⟩),
  (49, ⟨true, [2], [(1, [0, 3, 4, 5, 6, 7])]⟩),
  (50, ⟨true, [], [(0, [2]), (1, [0, 3, 4, 5, 6, 7])]⟩),
  (51, ⟨true, [2, 3], [(0, [0, 1, 4]), (1, [2, 3, 5, 6, 7, 8, 9, 10, 11, 12, 13, 14, 15, 16, 17, 18, 19, 20, 21, 22, 23, 24, 25, 26, 27, 28, 29, 30, 31, 32, 33, 34, 35, 36, 37, 38, 39, 40, 41, 42, 43, 44, 45, 46, 47, 48, 49, 50, 51, 52, 53, 54, 55, 56])]⟩),
  (52, ⟨true, [5], [(0, [2]), (2, [0, 7, 8, 9, 10]), (3, [11]), (5, [12, 15, 16]), (6, [17]), (8, [20, 21]), (9, [6, 22, 23, 24, 25, 26, 27]), (10, [28]), (4, [5, 13, 14, 18, 19, 20]), (11, [3, 4, 12, 29])]⟩),
  (53, ⟨true, [], [(0, [2]), (1, [0, 3, 4, 5, 6, 7])]⟩),
  (54, ⟨true, [2, 3, 4], [(1, [6]), (2, [7]), (4, [8, 9, 10]), (6, [11, 14, 15, 16, 17, 18, 19]), (7, [20, 21, 22, 23, 24, 25]), (5, [12, 13]), (8, [0, 3, 4, 5, 11, 26, 27, 28, 29, 30])]⟩),
  (55, ⟨true, [2, 6], [(0, [3]), (1, [7, 8]), (2, [0, 9, 10]), (3, [11, 12, 13, 14, 15, 16, 17, 18, 19, 20, 21, 22, 23, 24, 25]), (4, [4, 5, 26, 27]), (5, [26, 28, 29, 30, 31, 32]), (6, [4, 5, 33, 34, 35, 36, 37, 38, 39, 40, 41, 42, 43]), (7, [6, 44, 45]), (8, [6, 44, 46])]⟩),
  (56, ⟨true, [2, 3], [(1, [0, 4, 5, 6, 7]), (2, [8, 9]), (3, [3, 10, 11]), (4, [3, 10, 12, 13])]⟩),
  (57, ⟨true, [6], [(0, [1, 10]), (1, [0, 2, 3, 4, 6, 11, 12, 13, 14, 15, 16, 17, 18, 19, 20])]⟩),
  (58, ⟨true, [4, 5, 7], [(0, [1, 2, 6]), (1, [0, 9, 10, 11, 12, 13, 14]), (2, [4, 5, 7, 8, 15, 16, 17, 18, 19, 20, 21, 22, 23, 24, 25, 26])]⟩),
  (59, ⟨true, [2, 3], [(0, [0, 1, 4]), (1, [2, 3, 5, 6, 7, 8, 9, 10, 11, 12, 13, 14, 15, 16, 17, 18, 19, 20, 21])]⟩),
  (60, ⟨true, [1, 2], [(0, [0]), (1, [1, 3, 4, 5, 6, 7])]⟩),
  (61, ⟨true, [1], [(0, [0, 2]), (1, [1, 3, 4, 5])]⟩),
  (62, ⟨true, [], [(0, [2]), (1, [0, 5]), (3, [9, 10, 11]), (4, [4, 12, 13, 14, 15, 16, 17, 18, 19, 20]), (5, [6, 7, 8, 21]), (6, [21, 22]), (7, [6, 7, 8, 9])]⟩),
  (63, ⟨true, [1, 2], [(0, [0]), (1, [1, 3, 4, 5, 6, 7])]⟩),
  (64, ⟨true, [1], [(0, [0, 2]), (1, [1, 3, 4, 5, 6, 7, 8, 9, 10])]⟩),
  (65, ⟨true, [2, 3], [(0, [0, 1, 4]), (1, [5, 6, 7, 8]), (2, [2, 3, 9, 10, 11, 12, 13, 14]), (3, [2, 3, 9, 15, 16, 17, 18, 19, 20, 21, 22, 23, 24, 25, 26, 27, 28, 29, 30, 31, 32, 33])]⟩),
  (66, ⟨true, [1], [(0, [0, 2]), (1, [4, 5, 6]), (2, [7, 8, 9, 10, 11, 12, 13, 14, 15, 16, 17, 18, 19, 20, 21, 22, 23, 24, 25, 26, 27, 28, 29, 30, 31, 32, 33, 34, 35, 36, 37, 38, 39, 40, 41]), (3, [1, 3, 42]), (4, [1, 3, 42, 43, 44, 45, 46, 47, 48, 49, 50, 51, 52, 53, 54, 55, 56, 57, 58, 59, 60])]⟩),
  (67, ⟨true, [5, 7], [(0, [1, 3, 8]), (3, [11, 12, 13]), (5, [14, 17, 18, 19, 20, 21, 22, 23, 24, 25, 26, 27, 28, 29, 30, 31, 32, 33, 34, 35, 36, 37]), (6, [38, 39, 40, 41, 42, 43, 44, 45, 46, 47, 48, 49, 50, 51, 52, 53, 54]), (7, [55, 56]), (4, [15, 16, 38, 55]), (8, [0, 2, 5, 7, 9, 10, 14, 57])]⟩),
  (68, ⟨true, [3], [(0, [1, 4, 5]), (1, [0, 11, 12, 13, 14, 15, 16, 17]), (2, [18, 19, 20, 21, 22, 23, 24]), (3, [8, 25]), (4, [26, 27, 28]), (5, [26, 29]), (6, [3, 6, 7, 30]), (7, [3, 6, 9, 30, 31, 32, 33, 34, 35, 36, 37, 38, 39, 40]), (8, [7, 10, 41, 42])]⟩),
  (69, ⟨true, [], [(0, [2]), (1, [0, 3, 4, 5, 6, 7])]⟩),
  (70, ⟨true, [], [(0, [2]), (1, [3, 4, 5, 6]), (2, [0, 7, 8, 9, 10, 11, 12]), (3, [7, 13, 14, 15, 16, 17, 18, 19, 20, 21, 22, 23, 24, 25, 26, 27]), (4, [28, 29, 30, 31, 32]), (5, [0, 28, 33, 34, 35, 36])]⟩),
  (71, ⟨true, [2], [(1, [0, 3, 4, 5, 6])]⟩),
  (74, ⟨true, [3], [(0, [1, 4, 5]), (1, [11, 12, 13, 14, 15, 16]), (2, [7, 17]), (3, [0, 3, 6, 18]), (4, [0, 6, 18, 19, 20, 21, 22, 23, 24, 25, 26, 27, 28]), (5, [3, 10, 29, 30, 31, 32, 33, 34, 35]), (6, [8, 9, 36, 37])]⟩),
  (75, ⟨true, [2, 4], [(0, [0]), (1, [1, 2, 5, 6, 7, 8, 9, 10, 11, 12, 13, 14, 15, 16, 17, 18, 19])]⟩),
  (76, ⟨true, [4, 5], [(0, [0]), (1, [6, 7, 8, 9, 10]), (2, [11, 12, 13, 14]), (4, [15, 20, 21, 22, 23, 24, 25, 26, 27]), (5, [28, 29, 30, 31, 32, 33, 34, 35, 36, 37, 38, 39, 40, 41, 42, 43, 44, 45, 46, 47, 48, 49, 50]), (3, [16, 17, 18, 19, 28]), (6, [1, 5, 15, 51])]⟩),
  (77, ⟨true, [5, 6, 8, 9], [(0, [4]), (2, [10, 11, 12, 13]), (3, [14, 15, 16, 17, 18, 19, 20, 21, 22, 23]), (4, [0, 1, 6, 7, 24, 25, 26]), (5, [0, 24, 27, 28, 29, 30, 31, 32, 33, 34]), (6, [35, 36, 37, 38, 39, 40, 41, 42, 43]), (7, [8, 44, 45, 46, 47, 48]), (8, [44, 49, 50, 51, 52, 53, 54, 55, 56, 57]), (9, [58, 59, 60]), (10, [8, 9, 61, 62, 63, 64, 65, 66]), (11, [1, 6, 7, 8, 9, 61, 67, 68])]⟩),
  (78, ⟨true, [2], [(0, [0, 3]), (1, [1, 2, 4, 5, 6, 7])]⟩),
  (79, ⟨true, [2, 4, 5, 7, 8], [(0, [0, 6]), (1, [9, 10, 11, 12, 13, 14, 15]), (2, [1, 2, 16, 17, 18]), (3, [16, 19, 20]), (4, [21, 22, 23, 24, 25]), (5, [1, 2, 26, 27, 28, 29, 30, 31, 32, 33, 34, 35, 36, 37, 38, 39, 40]), (6, [7, 8, 41, 42])]⟩),
  (80, ⟨true, [3], [(0, [1, 4]), (1, [8, 9, 10, 11, 12, 13, 14, 15, 16, 17]), (2, [0, 3, 18]), (3, [6, 18, 19, 20, 21, 22, 23, 24, 25]), (4, [0, 26, 27, 28, 29, 30, 31, 32, 33]), (5, [3, 5, 7, 34, 35, 36, 37, 38, 39, 40, 41, 42, 43, 44, 45, 46, 47, 48, 49, 50, 51, 52, 53, 54, 55, 56, 57, 58, 59, 60, 61, 62, 63])]⟩),
  (81, ⟨true, [7, 8], [(0, [6]), (1, [2, 10, 11, 12, 13, 14, 15, 16, 17]), (2, [9, 18]), (3, [0, 1, 7, 8, 19, 20]), (4, [7, 19, 21, 22, 23, 24, 25, 26]), (5, [0, 8, 27, 28, 29, 30, 31, 32, 33, 34]), (6, [1, 35])]⟩),
  (82, ⟨true, [5], [(0, [2, 6]), (1, [5, 8, 9, 10, 11, 12]), (3, [21, 22, 23, 24, 25]), (4, [1, 20, 26, 27, 28, 29]), (5, [20, 31, 32]), (6, [1, 30, 33, 34, 35, 36]), (7, [30, 38, 39, 40, 41, 42]), (8, [1, 37, 43, 44, 45]), (2, [1, 13, 14, 15, 16, 17, 18, 19, 37]), (9, [46, 47]), (10, [48, 49, 50, 51, 52, 53, 54, 55, 56, 57, 58, 59, 60, 61, 62, 63, 64, 65]), (11, [66, 67, 68, 69]), (12, [0, 7, 66, 70])]⟩),
  (83, ⟨true, [4], [(0, [8, 9, 10, 11]), (1, [12, 13, 14, 15, 16]), (2, [12, 17, 18, 19]), (3, [20, 21, 22, 23, 24, 25, 26]), (4, [7, 27, 28, 29, 30, 31, 32, 33]), (5, [0, 1, 4, 5, 6, 34, 35, 36, 37, 38, 39, 40, 41, 42, 43, 44])]⟩),
  (84, ⟨true, [5], [(0, [7]), (1, [8, 9, 10]), (2, [11]), (3, [12, 13, 14, 15, 16, 17, 18, 19, 20]), (4, [6]), (5, [4, 21, 22, 23, 24]), (6, [0, 1, 5, 25, 26, 27, 28, 29, 30])]⟩),
  (85, ⟨true, [5], [(0, [0, 2]), (1, [5, 6, 7, 8, 9]), (2, [1, 10, 11])]⟩),
  (86, ⟨true, [], [(0, [2]), (1, [3, 4, 5, 6]), (2, [0, 7, 8, 9, 10, 11, 12]), (3, [7, 13, 14, 15, 16, 17, 18, 19, 20, 21, 22, 23, 24, 25, 26, 27]), (4, [28, 29, 30, 31, 32]), (5, [0, 28, 33, 34, 35, 36])]⟩),
  (87, ⟨true, [2, 3], [(1, [4]), (2, [0, 5]), (3, [3, 6]), (4, [0, 5, 7, 8, 9, 10])]⟩),
  (88, ⟨true, [], [(0, [2]), (1, [3]), (2, [0, 4]), (3, [0, 4, 5, 6, 7, 8])]⟩),
  (89, ⟨true, [2, 3, 4, 5], [(0, [0, 1]), (1, [3, 6, 7, 8, 9]), (2, [2, 5, 10, 11, 12, 13, 14, 15, 16, 17, 18, 19, 20, 21, 22])]⟩),
  (90, ⟨true, [2], [(1, [0, 4, 5]), (2, [3, 6, 7, 8, 9, 10, 11, 12, 13, 14, 15, 16, 17])]⟩),
  (91, ⟨true, [2, 3, 4], [(0, [0, 1]), (1, [2, 3, 5, 6, 7, 8, 9, 10, 11, 12, 13, 14, 15])]⟩),
  (92, ⟨true, [0], [(1, [1])]⟩),
  (93, ⟨true, [], [(0, [2]), (2, [0]), (4, [9, 10, 11]), (5, [12, 13]), (6, [3, 5, 6, 7, 8, 14, 15]), (7, [5, 14, 16]), (8, [3, 6, 7, 8, 9, 17])]⟩),
  (94, ⟨true, [], [(0, [4]), (1, [7, 8]), (2, [9, 10]), (3, [5]), (4, [0, 1, 6, 11]), (5, [12]), (6, [12]), (7, [6, 11]), (8, [0, 1, 13]), (9, [13, 14, 15]), (10, [0, 1, 16]), (11, [0, 1, 16, 17, 18]), (12, [19]), (13, [19])]⟩),
  (95, ⟨true, [], [(0, [4]), (1, [7, 8]), (2, [9, 10]), (3, [5]), (4, [0, 1, 6, 11]), (5, [12]), (6, [12]), (7, [6, 11]), (8, [0, 1, 13]), (9, [13, 14, 15]), (10, [0, 1, 16]), (11, [0, 1, 16, 17, 18]), (12, [19]), (13, [19])]⟩),
  (96, ⟨true, [], [(0, [4]), (1, [7, 8]), (2, [9, 10]), (3, [5]), (4, [0, 1, 6, 11]), (5, [12]), (6, [12]), (7, [6, 11]), (8, [0, 1, 13]), (9, [13, 14, 15]), (10, [0, 1, 16]), (11, [0, 1, 16, 17, 18]), (12, [19]), (13, [19])]⟩),
  (97, ⟨true, [2, 4], [(0, [0]), (1, [1, 2, 5, 6, 7, 8, 9])]⟩),
  (98, ⟨true, [], [(0, [2]), (2, [4, 5, 6]), (4, [7, 10, 11, 12, 13, 14, 15, 16, 17, 18, 19, 20, 21, 22, 23, 24]), (5, [0, 3, 25]), (3, [8, 9, 25]), (6, [0, 3, 7])]⟩),
  (99, ⟨true, [], [(0, [6, 7]), (1, [12, 13]), (2, [14]), (3, [15, 16]), (4, [17, 18, 19, 20, 21, 22, 23]), (5, [24, 25, 26, 27, 28, 29, 30]), (6, [11, 31, 32, 33]), (7, [11, 31, 34]), (8, [0, 1, 2, 8, 9, 10, 17, 35, 36, 37, 38, 39, 40, 41, 42, 43, 44, 45, 46, 47, 48])]⟩),
  (100, ⟨true, [], [(0, [4]), (1, [0, 1, 5, 6, 7, 8, 9, 10])]⟩),
  (101, ⟨true, [2, 3], [(0, [0, 1, 4, 5]), (1, [6, 7, 8, 9, 10, 11, 12, 13, 14, 15, 16, 17, 18, 19, 20, 21, 22, 23, 24, 25, 26]), (2, [2, 3, 27]), (3, [2, 3, 27, 28, 29, 30, 31, 32, 33, 34])]⟩),
  (102, ⟨true, [], [(0, [2]), (1, [3, 4, 5, 6, 7, 8, 9, 10]), (2, [11, 12, 13, 14, 15]), (3, [0, 11, 16])]⟩),
  (103, ⟨true, [], [(0, [2, 3, 4, 5]), (1, [0, 6, 7, 8, 9, 10, 11, 12, 13]), (2, [0, 6, 14, 15, 16, 17, 18])]⟩),
  (104, ⟨true, [2, 4], [(0, [0]), (1, [1, 2, 5, 6, 7, 8, 9, 10, 11, 12, 13, 14])]⟩),
  (105, ⟨true, [], [(0, [2]), (1, [4, 5, 6, 7, 8, 9, 10]), (2, [0, 11, 12, 13, 14]), (3, [15, 16, 17, 18, 19]), (4, [3, 20, 21, 22, 23])]⟩),
  (106, ⟨true, [], [(0, [6, 7, 8, 9]), (1, [2]), (2, [0, 1, 10, 11, 12, 13, 14]), (3, [0, 1, 10, 15, 16, 17, 18])]⟩),
  (107, ⟨true, [], [(0, [2]), (2, [3, 8, 9]), (1, [4, 5, 6, 7])]⟩),
  (108, ⟨true, [], [(0, [5, 6, 7, 8]), (1, [0, 9, 10, 11, 12]), (2, [13, 14, 15, 16, 17]), (3, [18, 19, 20, 21, 22, 23, 24, 25]), (4, [26, 27, 28, 29]), (5, [30, 31, 32, 33, 34, 35, 36, 37]), (6, [30, 38, 39, 40, 41]), (7, [18, 42, 43, 44, 45, 46, 47, 48]), (8, [49, 50, 51, 52]), (9, [53, 54, 55, 56, 57, 58, 59, 60]), (10, [53, 61, 62, 63, 64]), (11, [65, 66, 67, 68]), (12, [4, 69, 70]), (13, [1, 71, 72])]⟩),
  (109, ⟨true, [], [(0, [4]), (1, [0, 1, 5, 6, 7, 8, 9, 10])]⟩),
  (111, ⟨true, [2, 3, 4], [(0, [0, 1, 5]), (1, [6, 7, 8, 9, 10, 11, 12, 13, 14, 15, 16, 17, 18, 19, 20, 21, 22, 23, 24, 25, 26, 27, 28, 29, 30, 31, 32, 33, 34, 35, 36, 37]), (2, [2, 3, 38, 39]), (3, [3, 38, 40, 41, 42, 43, 44, 45]), (4, [2, 46])]⟩),
  (112, ⟨true, [4], [(0, [7, 8, 9]), (1, [10, 11, 12, 13, 14, 15, 16]), (2, [6]), (3, [4, 5, 17, 18, 19, 20, 21, 22, 23, 24, 25, 26, 27, 28, 29, 30, 31, 32, 33, 34]), (4, [0, 1, 4, 5, 17, 35, 36, 37, 38, 39])]⟩),
  (113, ⟨true, [], [(0, [2]), (1, [3, 4, 5, 6, 7, 8, 9, 10]), (2, [11, 12, 13, 14, 15]), (3, [0, 11, 16])]⟩),
  (114, ⟨true, [2, 3, 4], [(0, [0, 1]), (1, [2, 3, 5, 6, 7, 8, 9, 10, 11, 12, 13, 14, 15, 16, 17, 18, 19, 20, 21, 22, 23, 24, 25, 26, 27])]⟩),
  (115, ⟨true, [2, 3], [(1, [5]), (3, [6, 7]), (5, [8, 11, 12, 13]), (4, [9, 10]), (6, [0, 3, 4, 8, 14])]⟩),
  (116, ⟨true, [], [(0, [2]), (1, [0, 3, 4, 5])]⟩),
  (117, ⟨true, [], [(0, [2]), (1, [0, 3, 4, 5])]⟩),
  (118, ⟨true, [], [(0, [2]), (1, [0, 3, 4, 5])]⟩),
  (120, ⟨true, [], [(0, [2, 3, 4, 5, 6, 7, 8, 9, 10, 11, 12, 13, 14, 15, 16]), (1, [0, 17, 18, 19, 20, 21, 22, 23, 24, 25, 26, 27, 28, 29, 30, 31, 32, 33, 34, 35, 36, 37, 38, 39])]⟩),
  (121, ⟨true, [], [(0, [7, 8, 9, 10]), (1, [11]), (2, [12, 13, 14, 15, 16]), (4, [12, 22, 23]), (5, [0, 1, 2, 6, 21, 24, 25, 26, 27]), (6, [0, 1, 21, 29, 30, 31, 32, 33, 34]), (7, [2, 6, 28, 35, 36, 37, 38]), (3, [2, 6, 17, 18, 19, 20, 28])]⟩),
  (123, ⟨true, [], [(0, [0, 1, 4, 5, 6, 7, 8, 9])]⟩),
  (124, ⟨true, [], [(0, [6]), (1, [8, 9, 10, 11, 12, 13]), (2, [14, 15]), (3, [0, 1, 2, 16, 17]), (4, [16, 18, 19]), (5, [1, 2, 20, 21, 22, 23, 24, 25, 26]), (6, [7, 27, 28, 29, 30, 31]), (7, [0, 32])]⟩),
  (125, ⟨true, [], [(0, [5, 6, 7, 8, 9, 10, 11, 12, 13, 14, 15, 16, 17, 18, 19, 20, 21, 22, 23, 24, 25, 26, 27, 28, 29, 30, 31, 32, 33]), (1, [4, 34, 35, 36, 37, 38, 39]), (2, [4, 41, 42, 43, 44, 45]), (3, [40, 46, 47, 48, 49, 50, 51]), (4, [0, 40, 52, 53, 54]), (5, [55, 56, 57, 58, 59]), (6, [1, 60, 61, 62])]⟩),
  (126, ⟨true, [], [(0, [4, 5, 6, 7]), (1, [1, 8, 9, 10, 11]), (2, [0, 12, 13])]⟩),
  (127, ⟨true, [], [(0, [4, 5, 6]), (1, [7, 8]), (3, [9, 14, 15, 16, 17, 18, 19, 20, 21, 22, 23, 24, 25, 26, 27]), (2, [10, 11, 12, 13])]⟩),
  (143, ⟨true, [1, 2], [(0, [0]), (1, [3, 4]), (2, [1, 5, 6, 7, 8]), (3, [1, 5, 9, 10, 11, 12, 13, 14, 15, 16])]⟩),
  (144, ⟨true, [2, 3], [(1, [6]), (2, [0, 7]), (4, [11, 12, 13]), (5, [5, 14, 15, 16, 17, 18]), (6, [19]), (7, [3, 8, 9, 10, 11, 20])]⟩),
  (145, ⟨true, [2, 4, 6], [(0, [0]), (1, [1]), (3, [10, 11, 12]), (4, [6, 13, 14, 15, 16, 17, 18, 19, 20, 21, 22, 23, 24, 25, 26]), (5, [27]), (6, [2, 7, 8, 9, 10, 28])]⟩),
  (146, ⟨true, [2], [(1, [0, 3, 4, 5, 6, 7, 8, 9, 10, 11, 12, 13, 14, 15, 16])]⟩),
  (147, ⟨true, [], [(0, [2]), (1, [0, 3]), (2, [6]), (3, [4, 5]), (4, [5, 8]), (5, [4, 7]), (6, [4, 7, 10]), (7, [9]), (8, [9])]⟩),
  (148, ⟨true, [], [(0, [4]), (1, [0, 1, 5, 6, 7, 8, 9])]⟩),
  (150, ⟨true, [2, 3, 4, 5], [(0, [0, 1]), (1, [6, 7]), (2, [9, 10, 11]), (3, [8, 12, 13]), (4, [8, 15, 16, 17]), (5, [14, 18, 19, 20, 21, 22, 23]), (6, [2, 3, 5, 14, 24, 25, 26, 27, 28, 29, 30, 31, 32, 33, 34, 35])]⟩),
  (156, ⟨true, [], [(0, [0])]⟩)]
def eqL : Nat → Bool := fun t => ([36, 38, 40, 56, 57, 71, 82, 112] : List Nat).contains t
def primL (f : Nat) : Option Prim := if f = 72 then some bldWriteP else if f = 73 then some bldStringP else if f = 110 then some insP else none
noncomputable def cfg : Cfg := ⟨Tryd.prog, annOf annL, eqL, primL, fun _ => none, fun t => t == 134⟩
theorem okAll : annL.all (fnOk Tryd.prog) = true := by kernel_rfl
theorem eqsOk : ([36, 38, 40, 56, 57, 71, 82, 112] : List Nat).all (fun t => !Tryd.prog.stoodInHeld t && !Tryd.prog.eqGuardType Tryd.prog.depth t) = true := by kernel_rfl
theorem eqsAll : ∀ t, eqL t = true → Tryd.prog.stoodInHeld t = false ∧ Tryd.prog.eqGuardType Tryd.prog.depth t = false := by
  intro t h
  have h1 := List.all_eq_true.1 eqsOk t (by simpa [eqL] using h)
  simpa using h1
theorem primsOk : ∀ (F : Fix), F.c.P = Tryd.prog → F.Ok → ∀ f g, primL f = some g → ∀ args h v h', g args h = .ok (v, h') → h.next ≤ h'.next ∧
    ∀ ι w (av : Array Value), Rel F ι h w → VRels ι F.ρ args av.toList → Fresh ι h.next h'.next → CallTo F.c.P f av w (Out F ι h w v h') := by
  intro F hP hok f g hg
  unfold primL at hg
  split at hg
  · rename_i hf; subst hf; cases hg; exact bldWriteP_sound F hP hok
  split at hg
  · rename_i hf; subst hf; cases hg; exact bldStringP_sound F hP hok
  split at hg
  · rename_i hf; subst hf; cases hg; exact insP_sound F hP hok
  cases hg
theorem sureC : SureC cfg := ⟨eqsAll, code_of okAll, primsOk, Tryd.checked.mixed⟩
theorem covAll : coverAll Tryd.prog = true := by kernel_rfl
noncomputable def cfgR (ro : Nat → Option (List AVal)) : Cfg := { cfg with ro := ro }
section
variable {ro : Nat → Option (List AVal)}
@[simp] theorem cfgP : (cfgR ro).P = Tryd.prog := rfl
@[simp] theorem cfgRo : (cfgR ro).ro = ro := rfl
@[simp] theorem cfgEq : (cfgR ro).eqOk = eqL := rfl
@[simp] theorem cfgBld (t : Nat) : (cfgR ro).bld t = (t == 134) := rfl
@[simp] theorem ann2 : (cfgR ro).ann 2 = ⟨true, [], [(0, [0])]⟩ := rfl
@[simp] theorem ann3 : (cfgR ro).ann 3 = ⟨true, [6], [(0, [2]), (1, [7]), (2, [0, 8]), (3, [8, 9, 10]), (4, [0, 11]), (5, [11]), (7, [0]), (9, [15, 16, 17]), (10, [6, 18, 19, 20, 21, 22, 23]), (11, [24]), (12, [12, 13, 14, 15, 25]), (13, [3, 4, 26]), (14, [3, 4, 26, 27, 28, 29, 30])]⟩ := rfl
@[simp] theorem ann4 : (cfgR ro).ann 4 = ⟨true, [6], [(0, [2]), (1, [8]), (2, [0, 9]), (3, [9, 10, 11]), (4, [0, 12]), (5, [12]), (7, [0]), (9, [16, 17, 18]), (10, [7]), (11, [6, 19, 20, 21, 22, 23, 24]), (12, [7, 25, 26, 27, 28, 29, 30]), (13, [3, 4, 13, 14, 15, 31]), (14, [31, 32]), (15, [3, 4, 13, 14, 15, 16])]⟩ := rfl
@[simp] theorem ann5 : (cfgR ro).ann 5 = ⟨true, [3, 9, 10, 11, 15], [(0, [1, 4]), (1, [16]), (2, [0, 3, 17]), (3, [17, 18, 19, 20, 21, 22, 23, 24, 25, 26]), (4, [0, 3, 27]), (5, [0, 7, 27, 28, 29, 30, 31, 32, 33, 34]), (6, [8, 35]), (7, [3, 5, 6, 36]), (8, [36, 37, 38, 39, 40, 41]), (9, [42, 43, 44, 45, 46, 47, 48, 49, 50, 51]), (10, [52, 53, 54, 55, 56, 57, 58, 59, 60]), (11, [3, 5, 6, 9, 10, 11, 12, 61, 62, 63, 64, 65, 66, 67, 68, 69, 70, 71, 72, 73, 74, 75, 76, 77, 78, 79, 80, 81, 82]), (12, [5, 61, 83, 84, 85, 86, 87, 88, 89, 90, 91, 92, 93]), (13, [3, 6, 9, 10, 11, 12, 94]), (14, [3, 6, 9, 94, 95, 96, 97, 98, 99, 100, 101, 102]), (17, [106, 107, 108, 109]), (18, [15, 110, 111, 112]), (19, [10, 103, 104, 105, 113, 114]), (20, [11, 12, 13, 14, 115, 116, 117, 118, 119, 120, 121]), (21, [11, 12, 13, 14, 115, 122, 123, 124, 125, 126, 127, 128, 129, 130, 131, 132, 133]), (22, [14, 113, 134]), (23, [10, 11, 12, 13, 103, 104, 105, 106])]⟩ := rfl
@[simp] theorem ann6 : (cfgR ro).ann 6 = ⟨true, [], [(0, [2]), (1, [7]), (2, [0, 8]), (3, [8, 9, 10]), (4, [0, 11]), (5, [0, 5, 11, 12, 13, 14, 15, 16, 17, 18]), (6, [3, 4, 6, 19, 20, 21, 22, 23, 24, 25, 26])]⟩ := rfl
@[simp] theorem ann7 : (cfgR ro).ann 7 = ⟨true, [], [(0, [4]), (1, [16]), (2, [0, 1, 17]), (3, [17, 18, 19, 20, 21, 22, 23, 24]), (4, [0, 1, 25]), (5, [0, 6, 25, 26, 27, 28, 29, 30, 31, 32]), (6, [8, 33]), (7, [1, 5, 7, 34]), (8, [34]), (9, [7, 35, 36, 37]), (11, [38, 39]), (13, [40]), (14, [43, 44]), (15, [45, 46, 47, 48, 49, 50, 51, 52, 53, 54, 55, 56, 57, 58]), (16, [45]), (17, [59]), (19, [62, 63]), (20, [14, 64, 65, 66, 67, 68, 69]), (21, [70, 71, 72, 73, 74, 75, 76, 77, 78, 79, 80, 81, 82]), (22, [12, 15, 60, 61, 83, 84]), (23, [15, 83, 85]), (24, [12, 60, 61, 62, 86, 87, 88, 89, 90, 91, 92, 93, 94, 95, 96, 97, 98, 99, 100]), (25, [1, 5, 9, 10, 11, 13, 101]), (26, [13, 101, 102, 103, 104, 105, 106, 107, 108, 109, 110, 111]), (12, [41, 42]), (27, [1, 5, 9, 10, 11, 40, 112, 113, 114, 115, 116, 117, 118, 119])]⟩ := rfl
@[simp] theorem ann8 : (cfgR ro).ann 8 = ⟨true, [4, 10, 12, 18, 20], [(0, [1, 6]), (1, [24]), (2, [0, 2, 4, 25]), (3, [25, 26, 27]), (4, [0, 2, 4, 28]), (5, [28]), (7, [0]), (9, [32, 33, 34]), (10, [10, 35, 36, 37, 38, 39, 40]), (11, [41]), (12, [29, 30, 31, 32, 42, 43, 44]), (13, [45, 46, 47, 48, 49]), (14, [50, 51, 52, 53, 54, 55]), (15, [16, 56, 57, 58, 59, 60, 61, 62, 63, 64, 65, 66, 67, 68, 69, 70]), (16, [2, 4, 7, 8, 11, 12, 13, 14, 15, 71]), (17, [71, 72, 73, 74, 75, 76, 77, 78, 79, 80, 81, 82, 83, 84, 85]), (18, [2, 4, 7, 8, 11, 12, 13, 14, 15, 86]), (19, [12, 13, 14, 15, 86, 87, 88, 89, 90, 91, 92, 93, 94, 95, 96, 97, 98, 99, 100, 101, 102, 103, 104, 105, 106, 107, 108, 109]), (20, [2, 4, 7, 8, 11, 110]), (21, [110, 111, 112, 113]), (22, [114]), (23, [115]), (24, [2, 115, 116, 117, 118, 119, 120]), (25, [17, 18, 19, 121, 122, 123, 124, 125, 126, 127, 128, 129, 130, 131, 132, 133, 134, 135, 136, 137, 138, 139, 140, 141, 142, 143, 144]), (26, [4, 7, 8, 11, 145]), (27, [7, 145, 146, 147, 148, 149, 150]), (28, [151, 152]), (29, [4, 11, 153, 154, 155, 156, 157, 158, 159, 160, 161, 162, 163, 164]), (30, [8, 20, 21, 22, 165, 166, 167, 168, 169, 170, 171, 172]), (31, [20, 165, 173, 174, 175, 176, 177, 178, 179, 180, 181, 182]), (32, [8, 21, 22, 23, 183, 184, 185, 186, 187, 188, 189, 190, 191, 192, 193, 194, 195, 196, 197, 198, 199, 200, 201, 202, 203, 204, 205, 206, 207, 208])]⟩ := rfl
@[simp] theorem ann9 : (cfgR ro).ann 9 = ⟨true, [2], [(0, [0]), (2, [7]), (3, [8, 9, 10, 11, 12]), (4, [13, 14, 15, 16, 17, 18]), (5, [19]), (6, [2, 20, 21]), (7, [1, 3, 4, 5, 6, 22, 23, 24, 25, 26, 27, 28, 29, 30, 31, 32, 33, 34, 35, 36, 37, 38, 39])]⟩ := rfl
@[simp] theorem ann10 : (cfgR ro).ann 10 = ⟨true, [5], [(0, [2]), (4, [9, 10, 11]), (5, [5, 12, 13, 14, 15, 16, 17, 18]), (6, [19]), (7, [0, 3, 6, 7, 8, 20]), (8, [20, 21]), (9, [0, 3, 6, 7, 8, 9, 22, 23, 24])]⟩ := rfl
@[simp] theorem ann11 : (cfgR ro).ann 11 = ⟨true, [5], [(0, [2, 6, 7]), (2, [10]), (3, [13]), (4, [0, 9, 11, 12, 14, 15, 16, 17, 18, 19]), (5, [5, 20, 21, 22, 23, 24, 25, 26, 27, 28, 29, 30, 31, 32, 33, 34, 35, 36, 37, 38, 39]), (6, [11, 12, 41]), (7, [0, 9, 40, 42, 43, 44, 45, 46, 47]), (8, [5, 48, 49, 50, 51, 52, 53, 54, 55, 56]), (9, [0, 1, 5, 8, 9, 40, 57, 58, 59, 60])]⟩ := rfl
@[simp] theorem ann12 : (cfgR ro).ann 12 = ⟨true, [], [(0, [2]), (1, [0, 3, 4, 5, 6, 7])]⟩ := rfl
@[simp] theorem ann13 : (cfgR ro).ann 13 = ⟨true, [], [(0, [2]), (1, [0, 3, 4, 5, 6])]⟩ := rfl
@[simp] theorem ann14 : (cfgR ro).ann 14 = ⟨true, [], [(0, [2]), (3, [5, 6, 7]), (5, [8, 11, 12, 13, 14, 15, 16, 17, 18, 19, 20, 21, 22, 23, 24]), (6, [25, 26, 27]), (4, [9, 10, 25]), (7, [0, 3, 4, 8, 28])]⟩ := rfl
@[simp] theorem ann15 : (cfgR ro).ann 15 = ⟨true, [8, 9, 11], [(0, [4]), (1, [13, 14]), (2, [15, 16]), (3, [17, 18, 19, 20, 21, 22, 23, 24, 25, 26, 27, 28, 29, 30, 31, 32, 33, 34, 35, 36, 37, 38, 39, 40, 41, 42, 43, 44, 45, 46, 47, 48, 49, 50, 51, 52, 53, 54, 55]), (4, [0, 1, 5, 6, 56]), (5, [56, 57]), (7, [60, 61]), (8, [7, 62, 63, 64, 65, 66, 67, 68, 69, 70]), (9, [0, 1, 5, 6, 58, 59, 71]), (10, [71, 72]), (11, [5, 6, 58, 59, 60, 73, 74]), (12, [75, 76, 77, 78, 79, 80, 81]), (13, [82, 83, 84, 85, 86, 87, 88]), (14, [0, 1, 8, 9, 10, 11, 12, 89, 90, 91, 92, 93, 94, 95, 96, 97, 98, 99, 100, 101, 102, 103, 104, 105, 106, 107, 108, 109, 110, 111])]⟩ := rfl
@[simp] theorem ann16 : (cfgR ro).ann 16 = ⟨true, [], [(0, [0]), (2, [5, 6, 7, 8, 9, 10]), (3, [1, 2, 3, 4, 11, 12, 13, 14, 15, 16, 17, 18, 19, 20, 21, 22, 23, 24])]⟩ := rfl
@[simp] theorem ann17 : (cfgR ro).ann 17 = ⟨true, [5], [(0, [2]), (4, [9, 10, 11]), (5, [5, 12, 13, 14, 15, 16, 17, 18]), (6, [19]), (7, [0, 3, 6, 7, 8, 20]), (8, [20, 21]), (9, [0, 3, 6, 7, 8, 9, 22, 23, 24])]⟩ := rfl
@[simp] theorem ann18 : (cfgR ro).ann 18 = ⟨true, [10, 11, 12], [(0, [2, 3, 4, 5]), (4, [0]), (6, [17, 18, 19]), (7, [20, 21, 22, 23, 24]), (8, [12, 25, 26, 27, 28]), (9, [29, 30, 31, 32, 33, 34, 35]), (10, [6, 7, 8, 10, 11, 13, 14, 15, 16, 36, 37, 38]), (11, [13, 36, 39, 40, 41, 42, 43, 44, 45, 46]), (12, [47, 48, 49, 50, 51, 52]), (13, [6, 7, 8, 10, 11, 14, 15, 16, 53, 54, 55]), (14, [11, 53, 56, 57, 58, 59, 60, 61]), (15, [10, 62, 63, 64, 65]), (16, [10, 11, 47, 66]), (17, [6, 7, 8, 14, 15, 16, 17, 67, 68])]⟩ := rfl
@[simp] theorem ann19 : (cfgR ro).ann 19 = ⟨true, [4, 5, 6, 8, 9], [(0, [1, 2, 7]), (1, [11, 12, 13, 14, 15, 16, 17, 18]), (2, [0, 4, 5, 19, 20]), (3, [4, 19, 21]), (4, [22, 23, 24, 25, 26, 27]), (5, [10, 28, 29, 30, 31, 32, 33, 34]), (6, [9, 35, 36, 37]), (7, [0, 5, 8, 9, 35, 38])]⟩ := rfl
@[simp] theorem ann20 : (cfgR ro).ann 20 = ⟨true, [1], [(0, [0, 2]), (1, [1, 3, 4, 5])]⟩ := rfl
@[simp] theorem ann21 : (cfgR ro).ann 21 = ⟨true, [3], [(0, [1, 4]), (2, [6, 7, 8]), (4, [9, 12, 13, 14, 15, 16, 17, 18]), (5, [0, 3, 5, 19, 20]), (3, [10, 11, 19]), (6, [0, 3, 5, 9])]⟩ := rfl
@[simp] theorem ann22 : (cfgR ro).ann 22 = ⟨true, [1], [(0, [0, 2]), (1, [4, 5, 6]), (2, [1, 3, 7, 8, 9, 10, 11, 12, 13, 14, 15, 16, 17, 18, 19, 20, 21, 22, 23, 24, 25, 26, 27, 28, 29, 30, 31, 32, 33, 34, 35, 36, 37, 38, 39, 40, 41, 42, 43, 44, 45, 46])]⟩ := rfl
@[simp] theorem ann23 : (cfgR ro).ann 23 = ⟨true, [4, 5, 7], [(0, [1, 2, 6]), (1, [9, 10]), (2, [0, 4, 5, 11]), (3, [4, 11, 12, 13, 14, 15, 16, 17, 18, 19]), (4, [20]), (5, [0, 5, 7, 8, 21, 22]), (6, [0, 5, 7, 8, 21, 23, 24, 25, 26])]⟩ := rfl
@[simp] theorem ann24 : (cfgR ro).ann 24 = ⟨true, [4, 5], [(0, [1, 2, 6]), (1, [8, 9, 10, 11, 12, 13, 14]), (2, [0, 4, 5, 15]), (3, [4, 15, 16, 17, 18]), (4, [0, 5, 7, 19, 20, 21, 22, 23, 24, 25, 26, 27, 28, 29, 30])]⟩ := rfl
@[simp] theorem ann25 : (cfgR ro).ann 25 = ⟨true, [3, 6], [(0, [1, 4]), (1, [7, 8, 9]), (2, [0, 3, 10]), (3, [3, 10, 11, 12]), (5, [16, 17, 18]), (6, [6, 19, 20, 21, 22]), (7, [0, 13, 14, 15, 23]), (8, [23, 24]), (9, [0, 13, 14, 15, 16])]⟩ := rfl
@[simp] theorem ann26 : (cfgR ro).ann 26 = ⟨true, [3], [(0, [1, 4]), (2, [7, 8, 9, 10]), (3, [11]), (4, [12, 13, 14, 15, 16, 17, 18, 19, 20]), (5, [21, 22, 23, 24, 25, 26, 27, 28, 29, 30]), (6, [31, 32, 33, 34, 35, 36, 37, 38, 39]), (7, [0, 3, 5, 6, 12, 40])]⟩ := rfl
@[simp] theorem ann27 : (cfgR ro).ann 27 = ⟨true, [4, 5], [(0, [1, 2, 6]), (2, [0, 10, 11, 12]), (3, [5, 13, 14]), (5, [15, 16, 17]), (7, [18, 21, 22, 23, 24, 25, 26, 27, 28, 29]), (8, [30, 31, 32, 33, 34]), (6, [19, 20]), (9, [4, 7, 8, 9, 18, 35])]⟩ := rfl
@[simp] theorem ann28 : (cfgR ro).ann 28 = ⟨true, [1, 2], [(0, [0]), (1, [1, 3, 4, 5, 6, 7, 8, 9, 10, 11])]⟩ := rfl
@[simp] theorem ann29 : (cfgR ro).ann 29 = ⟨true, [1, 2], [(0, [0]), (1, [1, 3, 4, 5, 6, 7, 8, 9])]⟩ := rfl
@[simp] theorem ann30 : (cfgR ro).ann 30 = ⟨true, [7], [(0, [4]), (1, [0, 8, 9]), (2, [10, 11, 12, 13]), (3, [1, 5, 14]), (4, [5, 14]), (6, [18, 19, 20, 21]), (7, [6, 7, 22, 23, 24, 25, 26, 27, 28, 29, 30, 31, 32, 33, 34, 35, 36, 37, 38, 39, 40, 41, 42, 43, 44, 45, 46, 47, 48, 49, 50, 51, 52, 53, 54, 55, 56, 57, 58]), (8, [1, 15, 16, 17, 59]), (9, [59, 60]), (10, [1, 15, 16, 17, 18])]⟩ := rfl
@[simp] theorem ann31 : (cfgR ro).ann 31 = ⟨true, [3], [(0, [1, 4]), (1, [0, 3, 5, 7, 8, 9, 10, 11, 12]), (2, [6, 13])]⟩ := rfl
@[simp] theorem ann32 : (cfgR ro).ann 32 = ⟨true, [5], [(0, [2]), (2, [0, 6, 7, 8, 9]), (3, [10]), (5, [11, 14, 15]), (6, [16]), (7, [5, 17, 18, 19, 20]), (4, [5, 12, 13, 17]), (8, [3, 4, 11, 21])]⟩ := rfl
@[simp] theorem ann33 : (cfgR ro).ann 33 = ⟨true, [], [(0, [4]), (1, [0, 1, 8, 9, 10, 11]), (2, [12, 13, 14, 15]), (3, [5, 6, 16]), (4, [16, 17]), (6, [20, 21]), (7, [7, 22, 23, 24, 25, 26, 27, 28, 29]), (8, [5, 6, 18, 19, 30]), (9, [30, 31]), (10, [5, 6, 18, 19, 20])]⟩ := rfl
@[simp] theorem ann34 : (cfgR ro).ann 34 = ⟨true, [3], [(0, [1, 4]), (2, [6, 7, 8]), (4, [9, 12, 13, 14, 15, 16, 17, 18, 19, 20, 21, 22, 23, 24, 25, 26, 27, 28, 29, 30]), (5, [0, 3, 5, 31, 32]), (3, [10, 11, 31]), (6, [0, 3, 5, 9])]⟩ := rfl
@[simp] theorem ann35 : (cfgR ro).ann 35 = ⟨true, [3, 4], [(0, [1, 5]), (1, [0, 3, 8, 9, 10, 11, 12, 13]), (2, [14]), (3, [6, 7, 15, 16]), (4, [6, 7, 15, 17, 18, 19, 20])]⟩ := rfl
@[simp] theorem ann36 : (cfgR ro).ann 36 = ⟨true, [3, 9], [(0, [1, 4, 5, 6]), (1, [3, 10, 11, 12, 13, 14, 15]), (2, [16]), (3, [0, 7, 8, 17]), (4, [0, 17, 18, 19, 20, 21, 22]), (5, [7, 23, 24]), (6, [25, 26, 27, 28, 29, 30]), (7, [8, 9, 25, 31, 32, 33, 34, 35, 36])]⟩ := rfl
@[simp] theorem ann37 : (cfgR ro).ann 37 = ⟨true, [2, 3], [(0, [0, 1, 4]), (1, [2, 3, 5, 6, 7, 8, 9, 10, 11, 12, 13, 14, 15, 16, 17, 18, 19, 20, 21, 22, 23, 24, 25, 26, 27, 28, 29, 30])]⟩ := rfl
@[simp] theorem ann38 : (cfgR ro).ann 38 = ⟨true, [], [(0, [2]), (3, [5, 6, 7]), (5, [8, 11, 12, 13, 14]), (6, [15, 16, 17, 18, 19, 20, 21, 22, 23, 24]), (4, [9, 10, 15]), (7, [0, 3, 4, 8, 25])]⟩ := rfl
@[simp] theorem ann39 : (cfgR ro).ann 39 = ⟨true, [], [(0, [4]), (2, [6, 7, 8]), (4, [9, 12, 13, 14, 15]), (5, [16, 17]), (6, [0, 1, 5, 18, 19]), (7, [18, 20, 21]), (3, [10, 11, 16]), (8, [0, 1, 5, 9])]⟩ := rfl
@[simp] theorem ann40 : (cfgR ro).ann 40 = ⟨true, [4, 7], [(0, [1, 5]), (1, [8, 9, 10, 11, 12, 13, 14]), (2, [0, 3, 15, 16]), (3, [0, 15, 17, 18, 19, 20, 21, 22, 23, 24]), (4, [3, 6, 7, 25, 26, 27, 28, 29, 30, 31])]⟩ := rfl
@[simp] theorem ann41 : (cfgR ro).ann 41 = ⟨true, [3, 4, 9, 10], [(0, [1, 5]), (1, [12, 13, 14, 15]), (2, [16, 17]), (3, [0, 3, 6, 18, 19, 20, 21, 22, 23, 24]), (4, [25]), (5, [7, 8, 26, 27]), (6, [8, 9, 26, 28, 29, 30, 31, 32, 33, 34, 35, 36]), (7, [11]), (8, [7, 10, 37, 38]), (9, [7, 10, 37, 39, 40]), (10, [0, 3, 18, 41]), (11, [6, 42, 43]), (12, [6, 42, 44, 45])]⟩ := rfl
@[simp] theorem ann42 : (cfgR ro).ann 42 = ⟨true, [1], [(0, [0, 2]), (3, [6, 7, 8, 9]), (5, [10, 13, 14]), (6, [5, 15, 16, 17, 18, 19, 20, 21, 22, 23, 24, 25, 26, 27, 28, 29, 30, 31, 32, 33, 34, 35, 36, 37, 38, 39, 40, 41, 42, 43, 44, 45]), (4, [11, 12]), (7, [1, 3, 4, 10, 46])]⟩ := rfl
@[simp] theorem ann43 : (cfgR ro).ann 43 = ⟨true, [], [(0, [4]), (1, [6, 7, 8, 9]), (2, [0, 1, 10]), (3, [10]), (4, [11, 12, 13]), (6, [14, 17, 18, 19, 20, 21, 22, 23, 24]), (7, [0, 1, 5, 25]), (5, [15, 16, 25]), (8, [0, 1, 5, 14])]⟩ := rfl
@[simp] theorem ann44 : (cfgR ro).ann 44 = ⟨true, [4, 5], [(0, [1, 2, 6]), (2, [12, 13, 14]), (3, [0, 4, 5, 7, 11]), (4, [11, 16, 17, 18, 19, 20, 21, 22, 23, 24]), (5, [0, 4, 5, 7, 15]), (6, [15, 26, 27, 28, 29]), (7, [0, 4, 5, 7, 25]), (8, [25, 31, 32, 33, 34, 35, 36]), (9, [0, 4, 5, 7, 30]), (10, [30, 37, 38]), (11, [4, 7, 39, 40, 41, 42, 43, 44, 45]), (12, [8, 9, 46, 47, 48, 49, 50]), (13, [4, 5, 39, 51, 52, 53, 54, 55, 56]), (14, [57, 58, 59]), (15, [10, 60, 61, 62]), (16, [0, 7, 63, 64, 65])]⟩ := rfl
@[simp] theorem ann45 : (cfgR ro).ann 45 = ⟨true, [2, 4], [(0, [0]), (1, [1, 2, 5, 6, 7, 8, 9, 10, 11, 12])]⟩ := rfl
@[simp] theorem ann46 : (cfgR ro).ann 46 = ⟨true, [4, 9], [(0, [1, 6]), (1, [4, 10, 11, 12, 13, 14, 15]), (2, [16]), (3, [0, 2, 7, 8, 17]), (4, [17, 18, 19, 20, 21]), (5, [0, 2, 7, 8, 22]), (6, [22, 23, 24, 25, 26, 27]), (7, [28]), (8, [8, 29, 30, 31, 32, 33, 34]), (9, [8, 29, 35, 36]), (10, [2, 37, 38]), (11, [9, 39, 40, 41, 42, 43, 44]), (12, [45, 46, 47]), (13, [0, 7, 48, 49, 50, 51])]⟩ := rfl
@[simp] theorem ann47 : (cfgR ro).ann 47 = ⟨true, [4, 5], [(0, [1, 2, 6, 7]), (1, [12, 13]), (2, [0, 4, 5, 14, 15]), (3, [14]), (4, [16, 17, 18, 19, 20, 21, 22]), (5, [4, 23, 24, 25, 26, 27]), (6, [28]), (7, [0, 5, 8, 29, 30]), (8, [4, 5, 23, 29, 31, 32]), (10, [33, 34, 35]), (12, [36, 39, 40, 41, 42, 43, 44, 45, 46, 47, 48, 49, 50, 51, 52, 53]), (13, [0, 8, 9, 10, 54, 55]), (11, [37, 38, 54]), (14, [10, 36, 56, 57, 58, 59, 60]), (15, [0, 8, 9, 61, 62]), (16, [61]), (17, [63, 64, 65, 66, 67]), (18, [9, 68, 69, 70]), (19, [0, 8, 11, 71, 72, 73, 74, 75])]⟩ := rfl
@[simp] theorem ann48 : (cfgR ro).ann 48 = ⟨true, [4], [(0, [1, 6, 7]), (1, [4, 10, 11, 12]), (2, [13]), (3, [0, 2, 8, 14, 15]), (4, [14]), (5, [0, 16, 17, 18]), (6, [2, 8, 19, 20, 21, 22, 23]), (7, [9, 24])]⟩ := rfl
@[simp] theorem ann49 : (cfgR ro).ann 49 = ⟨true, [2], [(1, [0, 3, 4, 5, 6, 7])]⟩ := rfl
@[simp] theorem ann50 : (cfgR ro).ann 50 = ⟨true, [], [(0, [2]), (1, [0, 3, 4, 5, 6, 7])]⟩ := rfl
@[simp] theorem ann51 : (cfgR ro).ann 51 = ⟨true, [2, 3], [(0, [0, 1, 4]), (1, [2, 3, 5, 6, 7, 8, 9, 10, 11, 12, 13, 14, 15, 16, 17, 18, 19, 20, 21, 22, 23, 24, 25, 26, 27, 28, 29, 30, 31, 32, 33, 34, 35, 36, 37, 38, 39, 40, 41, 42, 43, 44, 45, 46, 47, 48, 49, 50, 51, 52, 53, 54, 55, 56])]⟩ := rfl
@[simp] theorem ann52 : (cfgR ro).ann 52 = ⟨true, [5], [(0, [2]), (2, [0, 7, 8, 9, 10]), (3, [11]), (5, [12, 15, 16]), (6, [17]), (8, [20, 21]), (9, [6, 22, 23, 24, 25, 26, 27]), (10, [28]), (4, [5, 13, 14, 18, 19, 20]), (11, [3, 4, 12, 29])]⟩ := rfl
@[simp] theorem ann53 : (cfgR ro).ann 53 = ⟨true, [], [(0, [2]), (1, [0, 3, 4, 5, 6, 7])]⟩ := rfl
@[simp] theorem ann54 : (cfgR ro).ann 54 = ⟨true, [2, 3, 4], [(1, [6]), (2, [7]), (4, [8, 9, 10]), (6, [11, 14, 15, 16, 17, 18, 19]), (7, [20, 21, 22, 23, 24, 25]), (5, [12, 13]), (8, [0, 3, 4, 5, 11, 26, 27, 28, 29, 30])]⟩ := rfl
@[simp] theorem ann55 : (cfgR ro).ann 55 = ⟨true, [2, 6], [(0, [3]), (1, [7, 8]), (2, [0, 9, 10]), (3, [11, 12, 13, 14, 15, 16, 17, 18, 19, 20, 21, 22, 23, 24, 25]), (4, [4, 5, 26, 27]), (5, [26, 28, 29, 30, 31, 32]), (6, [4, 5, 33, 34, 35, 36, 37, 38, 39, 40, 41, 42, 43]), (7, [6, 44, 45]), (8, [6, 44, 46])]⟩ := rfl
@[simp] theorem ann56 : (cfgR ro).ann 56 = ⟨true, [2, 3], [(1, [0, 4, 5, 6, 7]), (2, [8, 9]), (3, [3, 10, 11]), (4, [3, 10, 12, 13])]⟩ := rfl
@[simp] theorem ann57 : (cfgR ro).ann 57 = ⟨true, [6], [(0, [1, 10]), (1, [0, 2, 3, 4, 6, 11, 12, 13, 14, 15, 16, 17, 18, 19, 20])]⟩ := rfl
@[simp] theorem ann58 : (cfgR ro).ann 58 = ⟨true, [4, 5, 7], [(0, [1, 2, 6]), (1, [0, 9, 10, 11, 12, 13, 14]), (2, [4, 5, 7, 8, 15, 16, 17, 18, 19, 20, 21, 22, 23, 24, 25, 26])]⟩ := rfl
@[simp] theorem ann59 : (cfgR ro).ann 59 = ⟨true, [2, 3], [(0, [0, 1, 4]), (1, [2, 3, 5, 6, 7, 8, 9, 10, 11, 12, 13, 14, 15, 16, 17, 18, 19, 20, 21])]⟩ := rfl
@[simp] theorem ann60 : (cfgR ro).ann 60 = ⟨true, [1, 2], [(0, [0]), (1, [1, 3, 4, 5, 6, 7])]⟩ := rfl
@[simp] theorem ann61 : (cfgR ro).ann 61 = ⟨true, [1], [(0, [0, 2]), (1, [1, 3, 4, 5])]⟩ := rfl
@[simp] theorem ann62 : (cfgR ro).ann 62 = ⟨true, [], [(0, [2]), (1, [0, 5]), (3, [9, 10, 11]), (4, [4, 12, 13, 14, 15, 16, 17, 18, 19, 20]), (5, [6, 7, 8, 21]), (6, [21, 22]), (7, [6, 7, 8, 9])]⟩ := rfl
@[simp] theorem ann63 : (cfgR ro).ann 63 = ⟨true, [1, 2], [(0, [0]), (1, [1, 3, 4, 5, 6, 7])]⟩ := rfl
@[simp] theorem ann64 : (cfgR ro).ann 64 = ⟨true, [1], [(0, [0, 2]), (1, [1, 3, 4, 5, 6, 7, 8, 9, 10])]⟩ := rfl
@[simp] theorem ann65 : (cfgR ro).ann 65 = ⟨true, [2, 3], [(0, [0, 1, 4]), (1, [5, 6, 7, 8]), (2, [2, 3, 9, 10, 11, 12, 13, 14]), (3, [2, 3, 9, 15, 16, 17, 18, 19, 20, 21, 22, 23, 24, 25, 26, 27, 28, 29, 30, 31, 32, 33])]⟩ := rfl
@[simp] theorem ann66 : (cfgR ro).ann 66 = ⟨true, [1], [(0, [0, 2]), (1, [4, 5, 6]), (2, [7, 8, 9, 10, 11, 12, 13, 14, 15, 16, 17, 18, 19, 20, 21, 22, 23, 24, 25, 26, 27, 28, 29, 30, 31, 32, 33, 34, 35, 36, 37, 38, 39, 40, 41]), (3, [1, 3, 42]), (4, [1, 3, 42, 43, 44, 45, 46, 47, 48, 49, 50, 51, 52, 53, 54, 55, 56, 57, 58, 59, 60])]⟩ := rfl
@[simp] theorem ann67 : (cfgR ro).ann 67 = ⟨true, [5, 7], [(0, [1, 3, 8]), (3, [11, 12, 13]), (5, [14, 17, 18, 19, 20, 21, 22, 23, 24, 25, 26, 27, 28, 29, 30, 31, 32, 33, 34, 35, 36, 37]), (6, [38, 39, 40, 41, 42, 43, 44, 45, 46, 47, 48, 49, 50, 51, 52, 53, 54]), (7, [55, 56]), (4, [15, 16, 38, 55]), (8, [0, 2, 5, 7, 9, 10, 14, 57])]⟩ := rfl
@[simp] theorem ann68 : (cfgR ro).ann 68 = ⟨true, [3], [(0, [1, 4, 5]), (1, [0, 11, 12, 13, 14, 15, 16, 17]), (2, [18, 19, 20, 21, 22, 23, 24]), (3, [8, 25]), (4, [26, 27, 28]), (5, [26, 29]), (6, [3, 6, 7, 30]), (7, [3, 6, 9, 30, 31, 32, 33, 34, 35, 36, 37, 38, 39, 40]), (8, [7, 10, 41, 42])]⟩ := rfl
@[simp] theorem ann69 : (cfgR ro).ann 69 = ⟨true, [], [(0, [2]), (1, [0, 3, 4, 5, 6, 7])]⟩ := rfl
@[simp] theorem ann70 : (cfgR ro).ann 70 = ⟨true, [], [(0, [2]), (1, [3, 4, 5, 6]), (2, [0, 7, 8, 9, 10, 11, 12]), (3, [7, 13, 14, 15, 16, 17, 18, 19, 20, 21, 22, 23, 24, 25, 26, 27]), (4, [28, 29, 30, 31, 32]), (5, [0, 28, 33, 34, 35, 36])]⟩ := rfl
@[simp] theorem ann71 : (cfgR ro).ann 71 = ⟨true, [2], [(1, [0, 3, 4, 5, 6])]⟩ := rfl
@[simp] theorem ann74 : (cfgR ro).ann 74 = ⟨true, [3], [(0, [1, 4, 5]), (1, [11, 12, 13, 14, 15, 16]), (2, [7, 17]), (3, [0, 3, 6, 18]), (4, [0, 6, 18, 19, 20, 21, 22, 23, 24, 25, 26, 27, 28]), (5, [3, 10, 29, 30, 31, 32, 33, 34, 35]), (6, [8, 9, 36, 37])]⟩ := rfl
@[simp] theorem ann75 : (cfgR ro).ann 75 = ⟨true, [2, 4], [(0, [0]), (1, [1, 2, 5, 6, 7, 8, 9, 10, 11, 12, 13, 14, 15, 16, 17, 18, 19])]⟩ := rfl
@[simp] theorem ann76 : (cfgR ro).ann 76 = ⟨true, [4, 5], [(0, [0]), (1, [6, 7, 8, 9, 10]), (2, [11, 12, 13, 14]), (4, [15, 20, 21, 22, 23, 24, 25, 26, 27]), (5, [28, 29, 30, 31, 32, 33, 34, 35, 36, 37, 38, 39, 40, 41, 42, 43, 44, 45, 46, 47, 48, 49, 50]), (3, [16, 17, 18, 19, 28]), (6, [1, 5, 15, 51])]⟩ := rfl
@[simp] theorem ann77 : (cfgR ro).ann 77 = ⟨true, [5, 6, 8, 9], [(0, [4]), (2, [10, 11, 12, 13]), (3, [14, 15, 16, 17, 18, 19, 20, 21, 22, 23]), (4, [0, 1, 6, 7, 24, 25, 26]), (5, [0, 24, 27, 28, 29, 30, 31, 32, 33, 34]), (6, [35, 36, 37, 38, 39, 40, 41, 42, 43]), (7, [8, 44, 45, 46, 47, 48]), (8, [44, 49, 50, 51, 52, 53, 54, 55, 56, 57]), (9, [58, 59, 60]), (10, [8, 9, 61, 62, 63, 64, 65, 66]), (11, [1, 6, 7, 8, 9, 61, 67, 68])]⟩ := rfl
@[simp] theorem ann78 : (cfgR ro).ann 78 = ⟨true, [2], [(0, [0, 3]), (1, [1, 2, 4, 5, 6, 7])]⟩ := rfl
@[simp] theorem ann79 : (cfgR ro).ann 79 = ⟨true, [2, 4, 5, 7, 8], [(0, [0, 6]), (1, [9, 10, 11, 12, 13, 14, 15]), (2, [1, 2, 16, 17, 18]), (3, [16, 19, 20]), (4, [21, 22, 23, 24, 25]), (5, [1, 2, 26, 27, 28, 29, 30, 31, 32, 33, 34, 35, 36, 37, 38, 39, 40]), (6, [7, 8, 41, 42])]⟩ := rfl
@[simp] theorem ann80 : (cfgR ro).ann 80 = ⟨true, [3], [(0, [1, 4]), (1, [8, 9, 10, 11, 12, 13, 14, 15, 16, 17]), (2, [0, 3, 18]), (3, [6, 18, 19, 20, 21, 22, 23, 24, 25]), (4, [0, 26, 27, 28, 29, 30, 31, 32, 33]), (5, [3, 5, 7, 34, 35, 36, 37, 38, 39, 40, 41, 42, 43, 44, 45, 46, 47, 48, 49, 50, 51, 52, 53, 54, 55, 56, 57, 58, 59, 60, 61, 62, 63])]⟩ := rfl
@[simp] theorem ann81 : (cfgR ro).ann 81 = ⟨true, [7, 8], [(0, [6]), (1, [2, 10, 11, 12, 13, 14, 15, 16, 17]), (2, [9, 18]), (3, [0, 1, 7, 8, 19, 20]), (4, [7, 19, 21, 22, 23, 24, 25, 26]), (5, [0, 8, 27, 28, 29, 30, 31, 32, 33, 34]), (6, [1, 35])]⟩ := rfl
@[simp] theorem ann82 : (cfgR ro).ann 82 = ⟨true, [5], [(0, [2, 6]), (1, [5, 8, 9, 10, 11, 12]), (3, [21, 22, 23, 24, 25]), (4, [1, 20, 26, 27, 28, 29]), (5, [20, 31, 32]), (6, [1, 30, 33, 34, 35, 36]), (7, [30, 38, 39, 40, 41, 42]), (8, [1, 37, 43, 44, 45]), (2, [1, 13, 14, 15, 16, 17, 18, 19, 37]), (9, [46, 47]), (10, [48, 49, 50, 51, 52, 53, 54, 55, 56, 57, 58, 59, 60, 61, 62, 63, 64, 65]), (11, [66, 67, 68, 69]), (12, [0, 7, 66, 70])]⟩ := rfl
@[simp] theorem ann83 : (cfgR ro).ann 83 = ⟨true, [4], [(0, [8, 9, 10, 11]), (1, [12, 13, 14, 15, 16]), (2, [12, 17, 18, 19]), (3, [20, 21, 22, 23, 24, 25, 26]), (4, [7, 27, 28, 29, 30, 31, 32, 33]), (5, [0, 1, 4, 5, 6, 34, 35, 36, 37, 38, 39, 40, 41, 42, 43, 44])]⟩ := rfl
@[simp] theorem ann84 : (cfgR ro).ann 84 = ⟨true, [5], [(0, [7]), (1, [8, 9, 10]), (2, [11]), (3, [12, 13, 14, 15, 16, 17, 18, 19, 20]), (4, [6]), (5, [4, 21, 22, 23, 24]), (6, [0, 1, 5, 25, 26, 27, 28, 29, 30])]⟩ := rfl
@[simp] theorem ann85 : (cfgR ro).ann 85 = ⟨true, [5], [(0, [0, 2]), (1, [5, 6, 7, 8, 9]), (2, [1, 10, 11])]⟩ := rfl
@[simp] theorem ann86 : (cfgR ro).ann 86 = ⟨true, [], [(0, [2]), (1, [3, 4, 5, 6]), (2, [0, 7, 8, 9, 10, 11, 12]), (3, [7, 13, 14, 15, 16, 17, 18, 19, 20, 21, 22, 23, 24, 25, 26, 27]), (4, [28, 29, 30, 31, 32]), (5, [0, 28, 33, 34, 35, 36])]⟩ := rfl
@[simp] theorem ann87 : (cfgR ro).ann 87 = ⟨true, [2, 3], [(1, [4]), (2, [0, 5]), (3, [3, 6]), (4, [0, 5, 7, 8, 9, 10])]⟩ := rfl
@[simp] theorem ann88 : (cfgR ro).ann 88 = ⟨true, [], [(0, [2]), (1, [3]), (2, [0, 4]), (3, [0, 4, 5, 6, 7, 8])]⟩ := rfl
@[simp] theorem ann89 : (cfgR ro).ann 89 = ⟨true, [2, 3, 4, 5], [(0, [0, 1]), (1, [3, 6, 7, 8, 9]), (2, [2, 5, 10, 11, 12, 13, 14, 15, 16, 17, 18, 19, 20, 21, 22])]⟩ := rfl
@[simp] theorem ann90 : (cfgR ro).ann 90 = ⟨true, [2], [(1, [0, 4, 5]), (2, [3, 6, 7, 8, 9, 10, 11, 12, 13, 14, 15, 16, 17])]⟩ := rfl
@[simp] theorem ann91 : (cfgR ro).ann 91 = ⟨true, [2, 3, 4], [(0, [0, 1]), (1, [2, 3, 5, 6, 7, 8, 9, 10, 11, 12, 13, 14, 15])]⟩ := rfl
@[simp] theorem ann92 : (cfgR ro).ann 92 = ⟨true, [0], [(1, [1])]⟩ := rfl
@[simp] theorem ann93 : (cfgR ro).ann 93 = ⟨true, [], [(0, [2]), (2, [0]), (4, [9, 10, 11]), (5, [12, 13]), (6, [3, 5, 6, 7, 8, 14, 15]), (7, [5, 14, 16]), (8, [3, 6, 7, 8, 9, 17])]⟩ := rfl
@[simp] theorem ann94 : (cfgR ro).ann 94 = ⟨true, [], [(0, [4]), (1, [7, 8]), (2, [9, 10]), (3, [5]), (4, [0, 1, 6, 11]), (5, [12]), (6, [12]), (7, [6, 11]), (8, [0, 1, 13]), (9, [13, 14, 15]), (10, [0, 1, 16]), (11, [0, 1, 16, 17, 18]), (12, [19]), (13, [19])]⟩ := rfl
@[simp] theorem ann95 : (cfgR ro).ann 95 = ⟨true, [], [(0, [4]), (1, [7, 8]), (2, [9, 10]), (3, [5]), (4, [0, 1, 6, 11]), (5, [12]), (6, [12]), (7, [6, 11]), (8, [0, 1, 13]), (9, [13, 14, 15]), (10, [0, 1, 16]), (11, [0, 1, 16, 17, 18]), (12, [19]), (13, [19])]⟩ := rfl
@[simp] theorem ann96 : (cfgR ro).ann 96 = ⟨true, [], [(0, [4]), (1, [7, 8]), (2, [9, 10]), (3, [5]), (4, [0, 1, 6, 11]), (5, [12]), (6, [12]), (7, [6, 11]), (8, [0, 1, 13]), (9, [13, 14, 15]), (10, [0, 1, 16]), (11, [0, 1, 16, 17, 18]), (12, [19]), (13, [19])]⟩ := rfl
@[simp] theorem ann97 : (cfgR ro).ann 97 = ⟨true, [2, 4], [(0, [0]), (1, [1, 2, 5, 6, 7, 8, 9])]⟩ := rfl
@[simp] theorem ann98 : (cfgR ro).ann 98 = ⟨true, [], [(0, [2]), (2, [4, 5, 6]), (4, [7, 10, 11, 12, 13, 14, 15, 16, 17, 18, 19, 20, 21, 22, 23, 24]), (5, [0, 3, 25]), (3, [8, 9, 25]), (6, [0, 3, 7])]⟩ := rfl
@[simp] theorem ann99 : (cfgR ro).ann 99 = ⟨true, [], [(0, [6, 7]), (1, [12, 13]), (2, [14]), (3, [15, 16]), (4, [17, 18, 19, 20, 21, 22, 23]), (5, [24, 25, 26, 27, 28, 29, 30]), (6, [11, 31, 32, 33]), (7, [11, 31, 34]), (8, [0, 1, 2, 8, 9, 10, 17, 35, 36, 37, 38, 39, 40, 41, 42, 43, 44, 45, 46, 47, 48])]⟩ := rfl
@[simp] theorem ann100 : (cfgR ro).ann 100 = ⟨true, [], [(0, [4]), (1, [0, 1, 5, 6, 7, 8, 9, 10])]⟩ := rfl
@[simp] theorem ann101 : (cfgR ro).ann 101 = ⟨true, [2, 3], [(0, [0, 1, 4, 5]), (1, [6, 7, 8, 9, 10, 11, 12, 13, 14, 15, 16, 17, 18, 19, 20, 21, 22, 23, 24, 25, 26]), (2, [2, 3, 27]), (3, [2, 3, 27, 28, 29, 30, 31, 32, 33, 34])]⟩ := rfl
@[simp] theorem ann102 : (cfgR ro).ann 102 = ⟨true, [], [(0, [2]), (1, [3, 4, 5, 6, 7, 8, 9, 10]), (2, [11, 12, 13, 14, 15]), (3, [0, 11, 16])]⟩ := rfl
@[simp] theorem ann103 : (cfgR ro).ann 103 = ⟨true, [], [(0, [2, 3, 4, 5]), (1, [0, 6, 7, 8, 9, 10, 11, 12, 13]), (2, [0, 6, 14, 15, 16, 17, 18])]⟩ := rfl
@[simp] theorem ann104 : (cfgR ro).ann 104 = ⟨true, [2, 4], [(0, [0]), (1, [1, 2, 5, 6, 7, 8, 9, 10, 11, 12, 13, 14])]⟩ := rfl
@[simp] theorem ann105 : (cfgR ro).ann 105 = ⟨true, [], [(0, [2]), (1, [4, 5, 6, 7, 8, 9, 10]), (2, [0, 11, 12, 13, 14]), (3, [15, 16, 17, 18, 19]), (4, [3, 20, 21, 22, 23])]⟩ := rfl
@[simp] theorem ann106 : (cfgR ro).ann 106 = ⟨true, [], [(0, [6, 7, 8, 9]), (1, [2]), (2, [0, 1, 10, 11, 12, 13, 14]), (3, [0, 1, 10, 15, 16, 17, 18])]⟩ := rfl
@[simp] theorem ann107 : (cfgR ro).ann 107 = ⟨true, [], [(0, [2]), (2, [3, 8, 9]), (1, [4, 5, 6, 7])]⟩ := rfl
@[simp] theorem ann108 : (cfgR ro).ann 108 = ⟨true, [], [(0, [5, 6, 7, 8]), (1, [0, 9, 10, 11, 12]), (2, [13, 14, 15, 16, 17]), (3, [18, 19, 20, 21, 22, 23, 24, 25]), (4, [26, 27, 28, 29]), (5, [30, 31, 32, 33, 34, 35, 36, 37]), (6, [30, 38, 39, 40, 41]), (7, [18, 42, 43, 44, 45, 46, 47, 48]), (8, [49, 50, 51, 52]), (9, [53, 54, 55, 56, 57, 58, 59, 60]), (10, [53, 61, 62, 63, 64]), (11, [65, 66, 67, 68]), (12, [4, 69, 70]), (13, [1, 71, 72])]⟩ := rfl
@[simp] theorem ann109 : (cfgR ro).ann 109 = ⟨true, [], [(0, [4]), (1, [0, 1, 5, 6, 7, 8, 9, 10])]⟩ := rfl
@[simp] theorem ann111 : (cfgR ro).ann 111 = ⟨true, [2, 3, 4], [(0, [0, 1, 5]), (1, [6, 7, 8, 9, 10, 11, 12, 13, 14, 15, 16, 17, 18, 19, 20, 21, 22, 23, 24, 25, 26, 27, 28, 29, 30, 31, 32, 33, 34, 35, 36, 37]), (2, [2, 3, 38, 39]), (3, [3, 38, 40, 41, 42, 43, 44, 45]), (4, [2, 46])]⟩ := rfl
@[simp] theorem ann112 : (cfgR ro).ann 112 = ⟨true, [4], [(0, [7, 8, 9]), (1, [10, 11, 12, 13, 14, 15, 16]), (2, [6]), (3, [4, 5, 17, 18, 19, 20, 21, 22, 23, 24, 25, 26, 27, 28, 29, 30, 31, 32, 33, 34]), (4, [0, 1, 4, 5, 17, 35, 36, 37, 38, 39])]⟩ := rfl
@[simp] theorem ann113 : (cfgR ro).ann 113 = ⟨true, [], [(0, [2]), (1, [3, 4, 5, 6, 7, 8, 9, 10]), (2, [11, 12, 13, 14, 15]), (3, [0, 11, 16])]⟩ := rfl
@[simp] theorem ann114 : (cfgR ro).ann 114 = ⟨true, [2, 3, 4], [(0, [0, 1]), (1, [2, 3, 5, 6, 7, 8, 9, 10, 11, 12, 13, 14, 15, 16, 17, 18, 19, 20, 21, 22, 23, 24, 25, 26, 27])]⟩ := rfl
@[simp] theorem ann115 : (cfgR ro).ann 115 = ⟨true, [2, 3], [(1, [5]), (3, [6, 7]), (5, [8, 11, 12, 13]), (4, [9, 10]), (6, [0, 3, 4, 8, 14])]⟩ := rfl
@[simp] theorem ann116 : (cfgR ro).ann 116 = ⟨true, [], [(0, [2]), (1, [0, 3, 4, 5])]⟩ := rfl
@[simp] theorem ann117 : (cfgR ro).ann 117 = ⟨true, [], [(0, [2]), (1, [0, 3, 4, 5])]⟩ := rfl
@[simp] theorem ann118 : (cfgR ro).ann 118 = ⟨true, [], [(0, [2]), (1, [0, 3, 4, 5])]⟩ := rfl
@[simp] theorem ann120 : (cfgR ro).ann 120 = ⟨true, [], [(0, [2, 3, 4, 5, 6, 7, 8, 9, 10, 11, 12, 13, 14, 15, 16]), (1, [0, 17, 18, 19, 20, 21, 22, 23, 24, 25, 26, 27, 28, 29, 30, 31, 32, 33, 34, 35, 36, 37, 38, 39])]⟩ := rfl
@[simp] theorem ann121 : (cfgR ro).ann 121 = ⟨true, [], [(0, [7, 8, 9, 10]), (1, [11]), (2, [12, 13, 14, 15, 16]), (4, [12, 22, 23]), (5, [0, 1, 2, 6, 21, 24, 25, 26, 27]), (6, [0, 1, 21, 29, 30, 31, 32, 33, 34]), (7, [2, 6, 28, 35, 36, 37, 38]), (3, [2, 6, 17, 18, 19, 20, 28])]⟩ := rfl
@[simp] theorem ann123 : (cfgR ro).ann 123 = ⟨true, [], [(0, [0, 1, 4, 5, 6, 7, 8, 9])]⟩ := rfl
@[simp] theorem ann124 : (cfgR ro).ann 124 = ⟨true, [], [(0, [6]), (1, [8, 9, 10, 11, 12, 13]), (2, [14, 15]), (3, [0, 1, 2, 16, 17]), (4, [16, 18, 19]), (5, [1, 2, 20, 21, 22, 23, 24, 25, 26]), (6, [7, 27, 28, 29, 30, 31]), (7, [0, 32])]⟩ := rfl
@[simp] theorem ann125 : (cfgR ro).ann 125 = ⟨true, [], [(0, [5, 6, 7, 8, 9, 10, 11, 12, 13, 14, 15, 16, 17, 18, 19, 20, 21, 22, 23, 24, 25, 26, 27, 28, 29, 30, 31, 32, 33]), (1, [4, 34, 35, 36, 37, 38, 39]), (2, [4, 41, 42, 43, 44, 45]), (3, [40, 46, 47, 48, 49, 50, 51]), (4, [0, 40, 52, 53, 54]), (5, [55, 56, 57, 58, 59]), (6, [1, 60, 61, 62])]⟩ := rfl
@[simp] theorem ann126 : (cfgR ro).ann 126 = ⟨true, [], [(0, [4, 5, 6, 7]), (1, [1, 8, 9, 10, 11]), (2, [0, 12, 13])]⟩ := rfl
@[simp] theorem ann127 : (cfgR ro).ann 127 = ⟨true, [], [(0, [4, 5, 6]), (1, [7, 8]), (3, [9, 14, 15, 16, 17, 18, 19, 20, 21, 22, 23, 24, 25, 26, 27]), (2, [10, 11, 12, 13])]⟩ := rfl
@[simp] theorem ann143 : (cfgR ro).ann 143 = ⟨true, [1, 2], [(0, [0]), (1, [3, 4]), (2, [1, 5, 6, 7, 8]), (3, [1, 5, 9, 10, 11, 12, 13, 14, 15, 16])]⟩ := rfl
@[simp] theorem ann144 : (cfgR ro).ann 144 = ⟨true, [2, 3], [(1, [6]), (2, [0, 7]), (4, [11, 12, 13]), (5, [5, 14, 15, 16, 17, 18]), (6, [19]), (7, [3, 8, 9, 10, 11, 20])]⟩ := rfl
@[simp] theorem ann145 : (cfgR ro).ann 145 = ⟨true, [2, 4, 6], [(0, [0]), (1, [1]), (3, [10, 11, 12]), (4, [6, 13, 14, 15, 16, 17, 18, 19, 20, 21, 22, 23, 24, 25, 26]), (5, [27]), (6, [2, 7, 8, 9, 10, 28])]⟩ := rfl
@[simp] theorem ann146 : (cfgR ro).ann 146 = ⟨true, [2], [(1, [0, 3, 4, 5, 6, 7, 8, 9, 10, 11, 12, 13, 14, 15, 16])]⟩ := rfl
@[simp] theorem ann147 : (cfgR ro).ann 147 = ⟨true, [], [(0, [2]), (1, [0, 3]), (2, [6]), (3, [4, 5]), (4, [5, 8]), (5, [4, 7]), (6, [4, 7, 10]), (7, [9]), (8, [9])]⟩ := rfl
@[simp] theorem ann148 : (cfgR ro).ann 148 = ⟨true, [], [(0, [4]), (1, [0, 1, 5, 6, 7, 8, 9])]⟩ := rfl
@[simp] theorem ann150 : (cfgR ro).ann 150 = ⟨true, [2, 3, 4, 5], [(0, [0, 1]), (1, [6, 7]), (2, [9, 10, 11]), (3, [8, 12, 13]), (4, [8, 15, 16, 17]), (5, [14, 18, 19, 20, 21, 22, 23]), (6, [2, 3, 5, 14, 24, 25, 26, 27, 28, 29, 30, 31, 32, 33, 34, 35])]⟩ := rfl
@[simp] theorem ann156 : (cfgR ro).ann 156 = ⟨true, [], [(0, [0])]⟩ := rfl
end
@[simp] theorem sz3 : sizeR Tryd.prog 3 = .ok 1 := by kernel_rfl
@[simp] theorem ag3 : isAggR Tryd.prog 3 = .ok false := by kernel_rfl
@[simp] theorem zv3 : zeroV Tryd.prog 3 = .ok (.int .i64 0) := by kernel_rfl
@[simp] theorem zc3 : zeroCellsR Tryd.prog 3 = .ok [.int .i64 0] := by kernel_rfl
@[simp] theorem un3 : undR Tryd.prog 3 = .ok (.int .i64) := by kernel_rfl
@[simp] theorem nm3 : notMake Tryd.prog (some 3) = .err 130 := by kernel_rfl
@[simp] theorem sz4 : sizeR Tryd.prog 4 = .ok 1 := by kernel_rfl
@[simp] theorem ag4 : isAggR Tryd.prog 4 = .ok false := by kernel_rfl
@[simp] theorem zv4 : zeroV Tryd.prog 4 = .ok (.bool false) := by kernel_rfl
@[simp] theorem zc4 : zeroCellsR Tryd.prog 4 = .ok [.bool false] := by kernel_rfl
@[simp] theorem un4 : undR Tryd.prog 4 = .ok .bool := by kernel_rfl
@[simp] theorem nm4 : notMake Tryd.prog (some 4) = .ok () := by kernel_rfl
@[simp] theorem sz5 : sizeR Tryd.prog 5 = .ok 1 := by kernel_rfl
@[simp] theorem ag5 : isAggR Tryd.prog 5 = .ok false := by kernel_rfl
@[simp] theorem zv5 : zeroV Tryd.prog 5 = .ok (.int .u8 0) := by kernel_rfl
@[simp] theorem zc5 : zeroCellsR Tryd.prog 5 = .ok [.int .u8 0] := by kernel_rfl
@[simp] theorem un5 : undR Tryd.prog 5 = .ok (.int .u8) := by kernel_rfl
@[simp] theorem nm5 : notMake Tryd.prog (some 5) = .err 130 := by kernel_rfl
@[simp] theorem sz9 : sizeR Tryd.prog 9 = .ok 1 := by kernel_rfl
@[simp] theorem ag9 : isAggR Tryd.prog 9 = .ok false := by kernel_rfl
@[simp] theorem zv9 : zeroV Tryd.prog 9 = .ok (.str []) := by kernel_rfl
@[simp] theorem zc9 : zeroCellsR Tryd.prog 9 = .ok [.str []] := by kernel_rfl
@[simp] theorem un9 : undR Tryd.prog 9 = .ok .string := by kernel_rfl
@[simp] theorem nm9 : notMake Tryd.prog (some 9) = .ok () := by kernel_rfl
@[simp] theorem sz20 : sizeR Tryd.prog 20 = .ok 1 := by kernel_rfl
@[simp] theorem ag20 : isAggR Tryd.prog 20 = .ok false := by kernel_rfl
@[simp] theorem zv20 : zeroV Tryd.prog 20 = .ok (.nili) := by kernel_rfl
@[simp] theorem zc20 : zeroCellsR Tryd.prog 20 = .ok [.nili] := by kernel_rfl
@[simp] theorem nm20 : notMake Tryd.prog (some 20) = .ok () := by kernel_rfl
@[simp] theorem sz22 : sizeR Tryd.prog 22 = .ok 1 := by kernel_rfl
@[simp] theorem ag22 : isAggR Tryd.prog 22 = .ok false := by kernel_rfl
@[simp] theorem zv22 : zeroV Tryd.prog 22 = .ok (.nils) := by kernel_rfl
@[simp] theorem zc22 : zeroCellsR Tryd.prog 22 = .ok [.nils] := by kernel_rfl
@[simp] theorem un22 : undR Tryd.prog 22 = .ok (.slice 42) := by kernel_rfl
@[simp] theorem el22 : elemSl Tryd.prog 22 = .ok 42 := by kernel_rfl
@[simp] theorem nm22 : notMake Tryd.prog (some 22) = .ok () := by kernel_rfl
@[simp] theorem sz25 : sizeR Tryd.prog 25 = .ok 1 := by kernel_rfl
@[simp] theorem ag25 : isAggR Tryd.prog 25 = .ok false := by kernel_rfl
@[simp] theorem zv25 : zeroV Tryd.prog 25 = .ok (.nilp) := by kernel_rfl
@[simp] theorem zc25 : zeroCellsR Tryd.prog 25 = .ok [.nilp] := by kernel_rfl
@[simp] theorem un25 : undR Tryd.prog 25 = .ok (.pointer 168) := by kernel_rfl
@[simp] theorem nm25 : notMake Tryd.prog (some 25) = .ok () := by kernel_rfl
@[simp] theorem sz26 : sizeR Tryd.prog 26 = .ok 1 := by kernel_rfl
@[simp] theorem ag26 : isAggR Tryd.prog 26 = .ok false := by kernel_rfl
@[simp] theorem zv26 : zeroV Tryd.prog 26 = .ok (.int .u64 0) := by kernel_rfl
@[simp] theorem zc26 : zeroCellsR Tryd.prog 26 = .ok [.int .u64 0] := by kernel_rfl
@[simp] theorem un26 : undR Tryd.prog 26 = .ok (.int .u64) := by kernel_rfl
@[simp] theorem nm26 : notMake Tryd.prog (some 26) = .err 130 := by kernel_rfl
@[simp] theorem sz28 : sizeR Tryd.prog 28 = .ok 2 := by kernel_rfl
@[simp] theorem ag28 : isAggR Tryd.prog 28 = .ok true := by kernel_rfl
@[simp] theorem zv28 : zeroV Tryd.prog 28 = .ok (.agg [.nilp, .int .u64 0]) := by kernel_rfl
@[simp] theorem zc28 : zeroCellsR Tryd.prog 28 = .ok [.nilp, .int .u64 0] := by kernel_rfl
@[simp] theorem nm28 : notMake Tryd.prog (some 28) = .ok () := by kernel_rfl
@[simp] theorem sz29 : sizeR Tryd.prog 29 = .ok 1 := by kernel_rfl
@[simp] theorem ag29 : isAggR Tryd.prog 29 = .ok false := by kernel_rfl
@[simp] theorem zv29 : zeroV Tryd.prog 29 = .ok (.nilm) := by kernel_rfl
@[simp] theorem zc29 : zeroCellsR Tryd.prog 29 = .ok [.nilm] := by kernel_rfl
@[simp] theorem un29 : undR Tryd.prog 29 = .ok (.map 33 164) := by kernel_rfl
@[simp] theorem nm29 : notMake Tryd.prog (some 29) = .ok () := by kernel_rfl
@[simp] theorem mt29 : mapTypes Tryd.prog 29 = .ok (33, 164) := by kernel_rfl
@[simp] theorem sz31 : sizeR Tryd.prog 31 = .ok 3 := by kernel_rfl
@[simp] theorem ag31 : isAggR Tryd.prog 31 = .ok true := by kernel_rfl
@[simp] theorem zv31 : zeroV Tryd.prog 31 = .ok (.agg [.nilp, .int .u64 0, .nilm]) := by kernel_rfl
@[simp] theorem zc31 : zeroCellsR Tryd.prog 31 = .ok [.nilp, .int .u64 0, .nilm] := by kernel_rfl
@[simp] theorem nm31 : notMake Tryd.prog (some 31) = .ok () := by kernel_rfl
@[simp] theorem sz32 : sizeR Tryd.prog 32 = .ok 1 := by kernel_rfl
@[simp] theorem ag32 : isAggR Tryd.prog 32 = .ok false := by kernel_rfl
@[simp] theorem zv32 : zeroV Tryd.prog 32 = .ok (.nils) := by kernel_rfl
@[simp] theorem zc32 : zeroCellsR Tryd.prog 32 = .ok [.nils] := by kernel_rfl
@[simp] theorem un32 : undR Tryd.prog 32 = .ok (.slice 71) := by kernel_rfl
@[simp] theorem el32 : elemSl Tryd.prog 32 = .ok 71 := by kernel_rfl
@[simp] theorem nm32 : notMake Tryd.prog (some 32) = .ok () := by kernel_rfl
@[simp] theorem sz33 : sizeR Tryd.prog 33 = .ok 1 := by kernel_rfl
@[simp] theorem ag33 : isAggR Tryd.prog 33 = .ok false := by kernel_rfl
@[simp] theorem zv33 : zeroV Tryd.prog 33 = .ok (.int .u16 0) := by kernel_rfl
@[simp] theorem zc33 : zeroCellsR Tryd.prog 33 = .ok [.int .u16 0] := by kernel_rfl
@[simp] theorem un33 : undR Tryd.prog 33 = .ok (.int .u16) := by kernel_rfl
@[simp] theorem nm33 : notMake Tryd.prog (some 33) = .err 130 := by kernel_rfl
@[simp] theorem sz34 : sizeR Tryd.prog 34 = .ok 1 := by kernel_rfl
@[simp] theorem ag34 : isAggR Tryd.prog 34 = .ok false := by kernel_rfl
@[simp] theorem zv34 : zeroV Tryd.prog 34 = .ok (.int .u32 0) := by kernel_rfl
@[simp] theorem zc34 : zeroCellsR Tryd.prog 34 = .ok [.int .u32 0] := by kernel_rfl
@[simp] theorem un34 : undR Tryd.prog 34 = .ok (.int .u32) := by kernel_rfl
@[simp] theorem nm34 : notMake Tryd.prog (some 34) = .err 130 := by kernel_rfl
@[simp] theorem sz36 : sizeR Tryd.prog 36 = .ok 2 := by kernel_rfl
@[simp] theorem ag36 : isAggR Tryd.prog 36 = .ok true := by kernel_rfl
@[simp] theorem zv36 : zeroV Tryd.prog 36 = .ok (.agg [.int .u16 0, .int .u32 0]) := by kernel_rfl
@[simp] theorem zc36 : zeroCellsR Tryd.prog 36 = .ok [.int .u16 0, .int .u32 0] := by kernel_rfl
@[simp] theorem nm36 : notMake Tryd.prog (some 36) = .ok () := by kernel_rfl
@[simp] theorem sz38 : sizeR Tryd.prog 38 = .ok 3 := by kernel_rfl
@[simp] theorem ag38 : isAggR Tryd.prog 38 = .ok true := by kernel_rfl
@[simp] theorem zv38 : zeroV Tryd.prog 38 = .ok (.agg [.int .u64 0, .int .u16 0, .int .u32 0]) := by kernel_rfl
@[simp] theorem zc38 : zeroCellsR Tryd.prog 38 = .ok [.int .u64 0, .int .u16 0, .int .u32 0] := by kernel_rfl
@[simp] theorem nm38 : notMake Tryd.prog (some 38) = .ok () := by kernel_rfl
@[simp] theorem sz40 : sizeR Tryd.prog 40 = .ok 7 := by kernel_rfl
@[simp] theorem ag40 : isAggR Tryd.prog 40 = .ok true := by kernel_rfl
@[simp] theorem zv40 : zeroV Tryd.prog 40 = .ok (.agg [.int .u64 0, .int .u16 0, .int .u32 0, .int .u16 0, .int .u32 0, .str [], .bool false]) := by kernel_rfl
@[simp] theorem zc40 : zeroCellsR Tryd.prog 40 = .ok [.int .u64 0, .int .u16 0, .int .u32 0, .int .u16 0, .int .u32 0, .str [], .bool false] := by kernel_rfl
@[simp] theorem nm40 : notMake Tryd.prog (some 40) = .ok () := by kernel_rfl
@[simp] theorem sz42 : sizeR Tryd.prog 42 = .ok 11 := by kernel_rfl
@[simp] theorem ag42 : isAggR Tryd.prog 42 = .ok true := by kernel_rfl
@[simp] theorem zv42 : zeroV Tryd.prog 42 = .ok (.agg [.int .i64 0, .int .u16 0, .int .u32 0, .int .u64 0, .int .u16 0, .int .u32 0, .int .u16 0, .int .u32 0, .str [], .bool false, .bool false]) := by kernel_rfl
@[simp] theorem zc42 : zeroCellsR Tryd.prog 42 = .ok [.int .i64 0, .int .u16 0, .int .u32 0, .int .u64 0, .int .u16 0, .int .u32 0, .int .u16 0, .int .u32 0, .str [], .bool false, .bool false] := by kernel_rfl
@[simp] theorem nm42 : notMake Tryd.prog (some 42) = .ok () := by kernel_rfl
@[simp] theorem sz45 : sizeR Tryd.prog 45 = .ok 1 := by kernel_rfl
@[simp] theorem ag45 : isAggR Tryd.prog 45 = .ok false := by kernel_rfl
@[simp] theorem zv45 : zeroV Tryd.prog 45 = .ok (.nilp) := by kernel_rfl
@[simp] theorem zc45 : zeroCellsR Tryd.prog 45 = .ok [.nilp] := by kernel_rfl
@[simp] theorem un45 : undR Tryd.prog 45 = .ok (.pointer 31) := by kernel_rfl
@[simp] theorem nm45 : notMake Tryd.prog (some 45) = .ok () := by kernel_rfl
@[simp] theorem sz49 : sizeR Tryd.prog 49 = .ok 1 := by kernel_rfl
@[simp] theorem ag49 : isAggR Tryd.prog 49 = .ok false := by kernel_rfl
@[simp] theorem zv49 : zeroV Tryd.prog 49 = .ok (.nils) := by kernel_rfl
@[simp] theorem zc49 : zeroCellsR Tryd.prog 49 = .ok [.nils] := by kernel_rfl
@[simp] theorem un49 : undR Tryd.prog 49 = .ok (.slice 51) := by kernel_rfl
@[simp] theorem el49 : elemSl Tryd.prog 49 = .ok 51 := by kernel_rfl
@[simp] theorem nm49 : notMake Tryd.prog (some 49) = .ok () := by kernel_rfl
@[simp] theorem sz51 : sizeR Tryd.prog 51 = .ok 9 := by kernel_rfl
@[simp] theorem ag51 : isAggR Tryd.prog 51 = .ok true := by kernel_rfl
@[simp] theorem zv51 : zeroV Tryd.prog 51 = .ok (.agg [.int .u16 0, .int .u32 0, .int .u64 0, .int .u16 0, .int .u32 0, .int .u16 0, .int .u32 0, .str [], .bool false]) := by kernel_rfl
@[simp] theorem zc51 : zeroCellsR Tryd.prog 51 = .ok [.int .u16 0, .int .u32 0, .int .u64 0, .int .u16 0, .int .u32 0, .int .u16 0, .int .u32 0, .str [], .bool false] := by kernel_rfl
@[simp] theorem nm51 : notMake Tryd.prog (some 51) = .ok () := by kernel_rfl
@[simp] theorem sz53 : sizeR Tryd.prog 53 = .ok 1 := by kernel_rfl
@[simp] theorem ag53 : isAggR Tryd.prog 53 = .ok false := by kernel_rfl
@[simp] theorem zv53 : zeroV Tryd.prog 53 = .ok (.nils) := by kernel_rfl
@[simp] theorem zc53 : zeroCellsR Tryd.prog 53 = .ok [.nils] := by kernel_rfl
@[simp] theorem un53 : undR Tryd.prog 53 = .ok (.slice 124) := by kernel_rfl
@[simp] theorem el53 : elemSl Tryd.prog 53 = .ok 124 := by kernel_rfl
@[simp] theorem nm53 : notMake Tryd.prog (some 53) = .ok () := by kernel_rfl
@[simp] theorem sz56 : sizeR Tryd.prog 56 = .ok 2 := by kernel_rfl
@[simp] theorem ag56 : isAggR Tryd.prog 56 = .ok true := by kernel_rfl
@[simp] theorem zv56 : zeroV Tryd.prog 56 = .ok (.agg [.int .u16 0, .int .u32 0]) := by kernel_rfl
@[simp] theorem zc56 : zeroCellsR Tryd.prog 56 = .ok [.int .u16 0, .int .u32 0] := by kernel_rfl
@[simp] theorem nm56 : notMake Tryd.prog (some 56) = .ok () := by kernel_rfl
@[simp] theorem sz57 : sizeR Tryd.prog 57 = .ok 3 := by kernel_rfl
@[simp] theorem ag57 : isAggR Tryd.prog 57 = .ok true := by kernel_rfl
@[simp] theorem zv57 : zeroV Tryd.prog 57 = .ok (.agg [.int .u64 0, .int .u16 0, .int .u32 0]) := by kernel_rfl
@[simp] theorem zc57 : zeroCellsR Tryd.prog 57 = .ok [.int .u64 0, .int .u16 0, .int .u32 0] := by kernel_rfl
@[simp] theorem nm57 : notMake Tryd.prog (some 57) = .ok () := by kernel_rfl
@[simp] theorem sz58 : sizeR Tryd.prog 58 = .ok 1 := by kernel_rfl
@[simp] theorem ag58 : isAggR Tryd.prog 58 = .ok false := by kernel_rfl
@[simp] theorem zv58 : zeroV Tryd.prog 58 = .ok (.int .i64 0) := by kernel_rfl
@[simp] theorem zc58 : zeroCellsR Tryd.prog 58 = .ok [.int .i64 0] := by kernel_rfl
@[simp] theorem un58 : undR Tryd.prog 58 = .ok (.int .i64) := by kernel_rfl
@[simp] theorem nm58 : notMake Tryd.prog (some 58) = .err 130 := by kernel_rfl
@[simp] theorem sz68 : sizeR Tryd.prog 68 = .ok 7 := by kernel_rfl
@[simp] theorem ag68 : isAggR Tryd.prog 68 = .ok true := by kernel_rfl
@[simp] theorem zv68 : zeroV Tryd.prog 68 = .ok (.agg [.int .u64 0, .int .u16 0, .int .u32 0, .int .u16 0, .int .u32 0, .str [], .bool false]) := by kernel_rfl
@[simp] theorem zc68 : zeroCellsR Tryd.prog 68 = .ok [.int .u64 0, .int .u16 0, .int .u32 0, .int .u16 0, .int .u32 0, .str [], .bool false] := by kernel_rfl
@[simp] theorem nm68 : notMake Tryd.prog (some 68) = .ok () := by kernel_rfl
@[simp] theorem sz71 : sizeR Tryd.prog 71 = .ok 7 := by kernel_rfl
@[simp] theorem ag71 : isAggR Tryd.prog 71 = .ok true := by kernel_rfl
@[simp] theorem zv71 : zeroV Tryd.prog 71 = .ok (.agg [.int .u64 0, .int .u16 0, .int .u32 0, .int .u16 0, .int .u32 0, .int .u8 0, .bool false]) := by kernel_rfl
@[simp] theorem zc71 : zeroCellsR Tryd.prog 71 = .ok [.int .u64 0, .int .u16 0, .int .u32 0, .int .u16 0, .int .u32 0, .int .u8 0, .bool false] := by kernel_rfl
@[simp] theorem nm71 : notMake Tryd.prog (some 71) = .ok () := by kernel_rfl
@[simp] theorem sz74 : sizeR Tryd.prog 74 = .ok 1 := by kernel_rfl
@[simp] theorem ag74 : isAggR Tryd.prog 74 = .ok false := by kernel_rfl
@[simp] theorem zv74 : zeroV Tryd.prog 74 = .ok (.nils) := by kernel_rfl
@[simp] theorem zc74 : zeroCellsR Tryd.prog 74 = .ok [.nils] := by kernel_rfl
@[simp] theorem un74 : undR Tryd.prog 74 = .ok (.slice 3) := by kernel_rfl
@[simp] theorem el74 : elemSl Tryd.prog 74 = .ok 3 := by kernel_rfl
@[simp] theorem nm74 : notMake Tryd.prog (some 74) = .ok () := by kernel_rfl
@[simp] theorem sz75 : sizeR Tryd.prog 75 = .ok 1 := by kernel_rfl
@[simp] theorem ag75 : isAggR Tryd.prog 75 = .ok false := by kernel_rfl
@[simp] theorem zv75 : zeroV Tryd.prog 75 = .ok (.int .u64 0) := by kernel_rfl
@[simp] theorem zc75 : zeroCellsR Tryd.prog 75 = .ok [.int .u64 0] := by kernel_rfl
@[simp] theorem un75 : undR Tryd.prog 75 = .ok (.int .u64) := by kernel_rfl
@[simp] theorem nm75 : notMake Tryd.prog (some 75) = .err 130 := by kernel_rfl
@[simp] theorem sz82 : sizeR Tryd.prog 82 = .ok 7 := by kernel_rfl
@[simp] theorem ag82 : isAggR Tryd.prog 82 = .ok true := by kernel_rfl
@[simp] theorem zv82 : zeroV Tryd.prog 82 = .ok (.agg [.int .u64 0, .int .u16 0, .int .u32 0, .int .u16 0, .int .u32 0, .int .u8 0, .bool false]) := by kernel_rfl
@[simp] theorem zc82 : zeroCellsR Tryd.prog 82 = .ok [.int .u64 0, .int .u16 0, .int .u32 0, .int .u16 0, .int .u32 0, .int .u8 0, .bool false] := by kernel_rfl
@[simp] theorem nm82 : notMake Tryd.prog (some 82) = .ok () := by kernel_rfl
@[simp] theorem sz102 : sizeR Tryd.prog 102 = .ok 1 := by kernel_rfl
@[simp] theorem ag102 : isAggR Tryd.prog 102 = .ok false := by kernel_rfl
@[simp] theorem zv102 : zeroV Tryd.prog 102 = .ok (.cplx .f64 0 0) := by kernel_rfl
@[simp] theorem zc102 : zeroCellsR Tryd.prog 102 = .ok [.cplx .f64 0 0] := by kernel_rfl
@[simp] theorem un102 : undR Tryd.prog 102 = .ok (.complex .f64) := by kernel_rfl
@[simp] theorem nm102 : notMake Tryd.prog (some 102) = .ok () := by kernel_rfl
@[simp] theorem sz104 : sizeR Tryd.prog 104 = .ok 2 := by kernel_rfl
@[simp] theorem ag104 : isAggR Tryd.prog 104 = .ok true := by kernel_rfl
@[simp] theorem zv104 : zeroV Tryd.prog 104 = .ok (.agg [.cplx .f64 0 0, .cplx .f64 0 0]) := by kernel_rfl
@[simp] theorem zc104 : zeroCellsR Tryd.prog 104 = .ok [.cplx .f64 0 0, .cplx .f64 0 0] := by kernel_rfl
@[simp] theorem nm104 : notMake Tryd.prog (some 104) = .ok () := by kernel_rfl
@[simp] theorem sz106 : sizeR Tryd.prog 106 = .ok 4 := by kernel_rfl
@[simp] theorem ag106 : isAggR Tryd.prog 106 = .ok true := by kernel_rfl
@[simp] theorem zv106 : zeroV Tryd.prog 106 = .ok (.agg [.int .i64 0, .int .i64 0, .cplx .f64 0 0, .cplx .f64 0 0]) := by kernel_rfl
@[simp] theorem zc106 : zeroCellsR Tryd.prog 106 = .ok [.int .i64 0, .int .i64 0, .cplx .f64 0 0, .cplx .f64 0 0] := by kernel_rfl
@[simp] theorem nm106 : notMake Tryd.prog (some 106) = .ok () := by kernel_rfl
@[simp] theorem sz109 : sizeR Tryd.prog 109 = .ok 1 := by kernel_rfl
@[simp] theorem ag109 : isAggR Tryd.prog 109 = .ok false := by kernel_rfl
@[simp] theorem zv109 : zeroV Tryd.prog 109 = .ok (.nils) := by kernel_rfl
@[simp] theorem zc109 : zeroCellsR Tryd.prog 109 = .ok [.nils] := by kernel_rfl
@[simp] theorem un109 : undR Tryd.prog 109 = .ok (.slice 82) := by kernel_rfl
@[simp] theorem el109 : elemSl Tryd.prog 109 = .ok 82 := by kernel_rfl
@[simp] theorem nm109 : notMake Tryd.prog (some 109) = .ok () := by kernel_rfl
@[simp] theorem sz112 : sizeR Tryd.prog 112 = .ok 2 := by kernel_rfl
@[simp] theorem ag112 : isAggR Tryd.prog 112 = .ok true := by kernel_rfl
@[simp] theorem zv112 : zeroV Tryd.prog 112 = .ok (.agg [.int .i64 0, .int .i64 0]) := by kernel_rfl
@[simp] theorem zc112 : zeroCellsR Tryd.prog 112 = .ok [.int .i64 0, .int .i64 0] := by kernel_rfl
@[simp] theorem nm112 : notMake Tryd.prog (some 112) = .ok () := by kernel_rfl
@[simp] theorem sz114 : sizeR Tryd.prog 114 = .ok 4 := by kernel_rfl
@[simp] theorem ag114 : isAggR Tryd.prog 114 = .ok true := by kernel_rfl
@[simp] theorem zv114 : zeroV Tryd.prog 114 = .ok (.agg [.int .i64 0, .int .i64 0, .int .i64 0, .int .i64 0]) := by kernel_rfl
@[simp] theorem zc114 : zeroCellsR Tryd.prog 114 = .ok [.int .i64 0, .int .i64 0, .int .i64 0, .int .i64 0] := by kernel_rfl
@[simp] theorem nm114 : notMake Tryd.prog (some 114) = .ok () := by kernel_rfl
@[simp] theorem sz124 : sizeR Tryd.prog 124 = .ok 9 := by kernel_rfl
@[simp] theorem ag124 : isAggR Tryd.prog 124 = .ok true := by kernel_rfl
@[simp] theorem zv124 : zeroV Tryd.prog 124 = .ok (.agg [.int .u64 0, .int .u16 0, .int .u32 0, .int .u16 0, .int .u32 0, .int .u8 0, .bool false, .int .u16 0, .int .u32 0]) := by kernel_rfl
@[simp] theorem zc124 : zeroCellsR Tryd.prog 124 = .ok [.int .u64 0, .int .u16 0, .int .u32 0, .int .u16 0, .int .u32 0, .int .u8 0, .bool false, .int .u16 0, .int .u32 0] := by kernel_rfl
@[simp] theorem nm124 : notMake Tryd.prog (some 124) = .ok () := by kernel_rfl
@[simp] theorem sz131 : sizeR Tryd.prog 131 = .ok 1 := by kernel_rfl
@[simp] theorem ag131 : isAggR Tryd.prog 131 = .ok false := by kernel_rfl
@[simp] theorem zv131 : zeroV Tryd.prog 131 = .ok (.nilp) := by kernel_rfl
@[simp] theorem zc131 : zeroCellsR Tryd.prog 131 = .ok [.nilp] := by kernel_rfl
@[simp] theorem un131 : undR Tryd.prog 131 = .ok (.pointer 134) := by kernel_rfl
@[simp] theorem nm131 : notMake Tryd.prog (some 131) = .ok () := by kernel_rfl
@[simp] theorem sz132 : sizeR Tryd.prog 132 = .ok 1 := by kernel_rfl
@[simp] theorem ag132 : isAggR Tryd.prog 132 = .ok false := by kernel_rfl
@[simp] theorem zv132 : zeroV Tryd.prog 132 = .ok (.nils) := by kernel_rfl
@[simp] theorem zc132 : zeroCellsR Tryd.prog 132 = .ok [.nils] := by kernel_rfl
@[simp] theorem un132 : undR Tryd.prog 132 = .ok (.slice 5) := by kernel_rfl
@[simp] theorem el132 : elemSl Tryd.prog 132 = .ok 5 := by kernel_rfl
@[simp] theorem nm132 : notMake Tryd.prog (some 132) = .ok () := by kernel_rfl
@[simp] theorem sz134 : sizeR Tryd.prog 134 = .ok 2 := by kernel_rfl
@[simp] theorem ag134 : isAggR Tryd.prog 134 = .ok true := by kernel_rfl
@[simp] theorem zv134 : zeroV Tryd.prog 134 = .ok (.agg [.nilp, .nils]) := by kernel_rfl
@[simp] theorem zc134 : zeroCellsR Tryd.prog 134 = .ok [.nilp, .nils] := by kernel_rfl
@[simp] theorem nm134 : notMake Tryd.prog (some 134) = .ok () := by kernel_rfl
@[simp] theorem sz147 : sizeR Tryd.prog 147 = .ok 1 := by kernel_rfl
@[simp] theorem ag147 : isAggR Tryd.prog 147 = .ok false := by kernel_rfl
@[simp] theorem zv147 : zeroV Tryd.prog 147 = .ok (.nilf) := by kernel_rfl
@[simp] theorem zc147 : zeroCellsR Tryd.prog 147 = .ok [.nilf] := by kernel_rfl
@[simp] theorem nm147 : notMake Tryd.prog (some 147) = .ok () := by kernel_rfl
@[simp] theorem sz155 : sizeR Tryd.prog 155 = .ok 1 := by kernel_rfl
@[simp] theorem ag155 : isAggR Tryd.prog 155 = .ok false := by kernel_rfl
@[simp] theorem zv155 : zeroV Tryd.prog 155 = .ok (.nilp) := by kernel_rfl
@[simp] theorem zc155 : zeroCellsR Tryd.prog 155 = .ok [.nilp] := by kernel_rfl
@[simp] theorem un155 : undR Tryd.prog 155 = .ok (.pointer 28) := by kernel_rfl
@[simp] theorem nm155 : notMake Tryd.prog (some 155) = .ok () := by kernel_rfl
@[simp] theorem sz159 : sizeR Tryd.prog 159 = .ok 1 := by kernel_rfl
@[simp] theorem ag159 : isAggR Tryd.prog 159 = .ok false := by kernel_rfl
@[simp] theorem zv159 : zeroV Tryd.prog 159 = .ok (.float .f64 0) := by kernel_rfl
@[simp] theorem zc159 : zeroCellsR Tryd.prog 159 = .ok [.float .f64 0] := by kernel_rfl
@[simp] theorem un159 : undR Tryd.prog 159 = .ok (.float .f64) := by kernel_rfl
@[simp] theorem nm159 : notMake Tryd.prog (some 159) = .ok () := by kernel_rfl
@[simp] theorem sz164 : sizeR Tryd.prog 164 = .ok 1 := by kernel_rfl
@[simp] theorem ag164 : isAggR Tryd.prog 164 = .ok false := by kernel_rfl
@[simp] theorem zv164 : zeroV Tryd.prog 164 = .ok (.nils) := by kernel_rfl
@[simp] theorem zc164 : zeroCellsR Tryd.prog 164 = .ok [.nils] := by kernel_rfl
@[simp] theorem un164 : undR Tryd.prog 164 = .ok (.slice 25) := by kernel_rfl
@[simp] theorem el164 : elemSl Tryd.prog 164 = .ok 25 := by kernel_rfl
@[simp] theorem nm164 : notMake Tryd.prog (some 164) = .ok () := by kernel_rfl
@[simp] theorem sz166 : sizeR Tryd.prog 166 = .ok 1 := by kernel_rfl
@[simp] theorem ag166 : isAggR Tryd.prog 166 = .ok false := by kernel_rfl
@[simp] theorem zv166 : zeroV Tryd.prog 166 = .ok (.nilf) := by kernel_rfl
@[simp] theorem zc166 : zeroCellsR Tryd.prog 166 = .ok [.nilf] := by kernel_rfl
@[simp] theorem nm166 : notMake Tryd.prog (some 166) = .ok () := by kernel_rfl
@[simp] theorem sz168 : sizeR Tryd.prog 168 = .ok 16 := by kernel_rfl
@[simp] theorem ag168 : isAggR Tryd.prog 168 = .ok true := by kernel_rfl
@[simp] theorem zv168 : zeroV Tryd.prog 168 = .ok (.agg [.nilp, .nilp, .nilp, .int .u64 0, .int .i64 0, .int .u64 0, .int .u16 0, .int .u32 0, .int .u16 0, .int .u32 0, .str [], .bool false, .int .i64 0, .int .i64 0, .cplx .f64 0 0, .cplx .f64 0 0]) := by kernel_rfl
@[simp] theorem zc168 : zeroCellsR Tryd.prog 168 = .ok [.nilp, .nilp, .nilp, .int .u64 0, .int .i64 0, .int .u64 0, .int .u16 0, .int .u32 0, .int .u16 0, .int .u32 0, .str [], .bool false, .int .i64 0, .int .i64 0, .cplx .f64 0 0, .cplx .f64 0 0] := by kernel_rfl
@[simp] theorem nm168 : notMake Tryd.prog (some 168) = .ok () := by kernel_rfl
@[simp] theorem sz180 : sizeR Tryd.prog 180 = .ok 1 := by kernel_rfl
@[simp] theorem ag180 : isAggR Tryd.prog 180 = .ok false := by kernel_rfl
@[simp] theorem nm180 : notMake Tryd.prog (some 180) = .ok () := by kernel_rfl
@[simp] theorem sz202 : sizeR Tryd.prog 202 = .ok 1 := by kernel_rfl
@[simp] theorem ag202 : isAggR Tryd.prog 202 = .ok false := by kernel_rfl
@[simp] theorem zv202 : zeroV Tryd.prog 202 = .ok (.nils) := by kernel_rfl
@[simp] theorem zc202 : zeroCellsR Tryd.prog 202 = .ok [.nils] := by kernel_rfl
@[simp] theorem un202 : undR Tryd.prog 202 = .ok (.slice 104) := by kernel_rfl
@[simp] theorem el202 : elemSl Tryd.prog 202 = .ok 104 := by kernel_rfl
@[simp] theorem nm202 : notMake Tryd.prog (some 202) = .ok () := by kernel_rfl
@[simp] theorem co0 : Tryd.prog.cellsOf 0 = 1 := by kernel_rfl
@[simp] theorem co3 : Tryd.prog.cellsOf 3 = 1 := by kernel_rfl
@[simp] theorem co4 : Tryd.prog.cellsOf 4 = 1 := by kernel_rfl
@[simp] theorem co5 : Tryd.prog.cellsOf 5 = 1 := by kernel_rfl
@[simp] theorem co9 : Tryd.prog.cellsOf 9 = 1 := by kernel_rfl
@[simp] theorem co20 : Tryd.prog.cellsOf 20 = 1 := by kernel_rfl
@[simp] theorem co22 : Tryd.prog.cellsOf 22 = 1 := by kernel_rfl
@[simp] theorem co25 : Tryd.prog.cellsOf 25 = 1 := by kernel_rfl
@[simp] theorem co26 : Tryd.prog.cellsOf 26 = 1 := by kernel_rfl
@[simp] theorem co28 : Tryd.prog.cellsOf 28 = 2 := by kernel_rfl
@[simp] theorem co29 : Tryd.prog.cellsOf 29 = 1 := by kernel_rfl
@[simp] theorem co31 : Tryd.prog.cellsOf 31 = 3 := by kernel_rfl
@[simp] theorem co32 : Tryd.prog.cellsOf 32 = 1 := by kernel_rfl
@[simp] theorem co33 : Tryd.prog.cellsOf 33 = 1 := by kernel_rfl
@[simp] theorem co34 : Tryd.prog.cellsOf 34 = 1 := by kernel_rfl
@[simp] theorem co36 : Tryd.prog.cellsOf 36 = 2 := by kernel_rfl
@[simp] theorem co38 : Tryd.prog.cellsOf 38 = 3 := by kernel_rfl
@[simp] theorem co40 : Tryd.prog.cellsOf 40 = 7 := by kernel_rfl
@[simp] theorem co42 : Tryd.prog.cellsOf 42 = 11 := by kernel_rfl
@[simp] theorem co43 : Tryd.prog.cellsOf 43 = 1 := by kernel_rfl
@[simp] theorem co45 : Tryd.prog.cellsOf 45 = 1 := by kernel_rfl
@[simp] theorem co49 : Tryd.prog.cellsOf 49 = 1 := by kernel_rfl
@[simp] theorem co51 : Tryd.prog.cellsOf 51 = 9 := by kernel_rfl
@[simp] theorem co53 : Tryd.prog.cellsOf 53 = 1 := by kernel_rfl
@[simp] theorem co54 : Tryd.prog.cellsOf 54 = 1 := by kernel_rfl
@[simp] theorem co56 : Tryd.prog.cellsOf 56 = 2 := by kernel_rfl
@[simp] theorem co57 : Tryd.prog.cellsOf 57 = 3 := by kernel_rfl
@[simp] theorem co58 : Tryd.prog.cellsOf 58 = 1 := by kernel_rfl
@[simp] theorem co59 : Tryd.prog.cellsOf 59 = 1 := by kernel_rfl
@[simp] theorem co68 : Tryd.prog.cellsOf 68 = 7 := by kernel_rfl
@[simp] theorem co71 : Tryd.prog.cellsOf 71 = 7 := by kernel_rfl
@[simp] theorem co74 : Tryd.prog.cellsOf 74 = 1 := by kernel_rfl
@[simp] theorem co75 : Tryd.prog.cellsOf 75 = 1 := by kernel_rfl
@[simp] theorem co82 : Tryd.prog.cellsOf 82 = 7 := by kernel_rfl
@[simp] theorem co83 : Tryd.prog.cellsOf 83 = 1 := by kernel_rfl
@[simp] theorem co85 : Tryd.prog.cellsOf 85 = 1 := by kernel_rfl
@[simp] theorem co91 : Tryd.prog.cellsOf 91 = 1 := by kernel_rfl
@[simp] theorem co99 : Tryd.prog.cellsOf 99 = 1 := by kernel_rfl
@[simp] theorem co102 : Tryd.prog.cellsOf 102 = 1 := by kernel_rfl
@[simp] theorem co104 : Tryd.prog.cellsOf 104 = 2 := by kernel_rfl
@[simp] theorem co106 : Tryd.prog.cellsOf 106 = 4 := by kernel_rfl
@[simp] theorem co109 : Tryd.prog.cellsOf 109 = 1 := by kernel_rfl
@[simp] theorem co112 : Tryd.prog.cellsOf 112 = 2 := by kernel_rfl
@[simp] theorem co114 : Tryd.prog.cellsOf 114 = 4 := by kernel_rfl
@[simp] theorem co116 : Tryd.prog.cellsOf 116 = 1 := by kernel_rfl
@[simp] theorem co124 : Tryd.prog.cellsOf 124 = 9 := by kernel_rfl
@[simp] theorem co129 : Tryd.prog.cellsOf 129 = 1 := by kernel_rfl
@[simp] theorem co131 : Tryd.prog.cellsOf 131 = 1 := by kernel_rfl
@[simp] theorem co132 : Tryd.prog.cellsOf 132 = 1 := by kernel_rfl
@[simp] theorem co134 : Tryd.prog.cellsOf 134 = 2 := by kernel_rfl
@[simp] theorem co139 : Tryd.prog.cellsOf 139 = 1 := by kernel_rfl
@[simp] theorem co141 : Tryd.prog.cellsOf 141 = 1 := by kernel_rfl
@[simp] theorem co145 : Tryd.prog.cellsOf 145 = 1 := by kernel_rfl
@[simp] theorem co147 : Tryd.prog.cellsOf 147 = 1 := by kernel_rfl
@[simp] theorem co148 : Tryd.prog.cellsOf 148 = 1 := by kernel_rfl
@[simp] theorem co155 : Tryd.prog.cellsOf 155 = 1 := by kernel_rfl
@[simp] theorem co159 : Tryd.prog.cellsOf 159 = 1 := by kernel_rfl
@[simp] theorem co164 : Tryd.prog.cellsOf 164 = 1 := by kernel_rfl
@[simp] theorem co166 : Tryd.prog.cellsOf 166 = 1 := by kernel_rfl
@[simp] theorem co168 : Tryd.prog.cellsOf 168 = 16 := by kernel_rfl
@[simp] theorem co180 : Tryd.prog.cellsOf 180 = 1 := by kernel_rfl
@[simp] theorem co202 : Tryd.prog.cellsOf 202 = 1 := by kernel_rfl
@[simp] theorem nmN : notMake Tryd.prog none = .ok () := rfl
@[simp] theorem fa28_0 (x : AVal) : fieldAddrR Tryd.prog 28 x 0 = addOff x 0 := by kernel_rfl
@[simp] theorem so28_0 : ((fieldOf Tryd.prog 28 0).bind fun fd => (sizeR Tryd.prog fd.type).bind fun n => if n = 0 then .err 191 else .ok fd.offset) = .ok 0 := by kernel_rfl
@[simp] theorem fi28_0 (vs : List AVal) : fieldR Tryd.prog 28 (.agg vs) 0 = partR Tryd.prog 25 vs 0 := by kernel_rfl
@[simp] theorem fa28_1 (x : AVal) : fieldAddrR Tryd.prog 28 x 1 = addOff x 1 := by kernel_rfl
@[simp] theorem so28_1 : ((fieldOf Tryd.prog 28 1).bind fun fd => (sizeR Tryd.prog fd.type).bind fun n => if n = 0 then .err 191 else .ok fd.offset) = .ok 1 := by kernel_rfl
@[simp] theorem fi28_1 (vs : List AVal) : fieldR Tryd.prog 28 (.agg vs) 1 = partR Tryd.prog 26 vs 1 := by kernel_rfl
@[simp] theorem fa31_0 (x : AVal) : fieldAddrR Tryd.prog 31 x 0 = addOff x 0 := by kernel_rfl
@[simp] theorem so31_0 : ((fieldOf Tryd.prog 31 0).bind fun fd => (sizeR Tryd.prog fd.type).bind fun n => if n = 0 then .err 191 else .ok fd.offset) = .ok 0 := by kernel_rfl
@[simp] theorem fi31_0 (vs : List AVal) : fieldR Tryd.prog 31 (.agg vs) 0 = partR Tryd.prog 28 vs 0 := by kernel_rfl
@[simp] theorem fa31_1 (x : AVal) : fieldAddrR Tryd.prog 31 x 1 = addOff x 2 := by kernel_rfl
@[simp] theorem so31_1 : ((fieldOf Tryd.prog 31 1).bind fun fd => (sizeR Tryd.prog fd.type).bind fun n => if n = 0 then .err 191 else .ok fd.offset) = .ok 2 := by kernel_rfl
@[simp] theorem fi31_1 (vs : List AVal) : fieldR Tryd.prog 31 (.agg vs) 1 = partR Tryd.prog 29 vs 2 := by kernel_rfl
@[simp] theorem fa36_0 (x : AVal) : fieldAddrR Tryd.prog 36 x 0 = addOff x 0 := by kernel_rfl
@[simp] theorem so36_0 : ((fieldOf Tryd.prog 36 0).bind fun fd => (sizeR Tryd.prog fd.type).bind fun n => if n = 0 then .err 191 else .ok fd.offset) = .ok 0 := by kernel_rfl
@[simp] theorem fi36_0 (vs : List AVal) : fieldR Tryd.prog 36 (.agg vs) 0 = partR Tryd.prog 33 vs 0 := by kernel_rfl
@[simp] theorem fa36_1 (x : AVal) : fieldAddrR Tryd.prog 36 x 1 = addOff x 1 := by kernel_rfl
@[simp] theorem so36_1 : ((fieldOf Tryd.prog 36 1).bind fun fd => (sizeR Tryd.prog fd.type).bind fun n => if n = 0 then .err 191 else .ok fd.offset) = .ok 1 := by kernel_rfl
@[simp] theorem fi36_1 (vs : List AVal) : fieldR Tryd.prog 36 (.agg vs) 1 = partR Tryd.prog 34 vs 1 := by kernel_rfl
@[simp] theorem fa38_0 (x : AVal) : fieldAddrR Tryd.prog 38 x 0 = addOff x 0 := by kernel_rfl
@[simp] theorem so38_0 : ((fieldOf Tryd.prog 38 0).bind fun fd => (sizeR Tryd.prog fd.type).bind fun n => if n = 0 then .err 191 else .ok fd.offset) = .ok 0 := by kernel_rfl
@[simp] theorem fi38_0 (vs : List AVal) : fieldR Tryd.prog 38 (.agg vs) 0 = partR Tryd.prog 26 vs 0 := by kernel_rfl
@[simp] theorem fa38_1 (x : AVal) : fieldAddrR Tryd.prog 38 x 1 = addOff x 1 := by kernel_rfl
@[simp] theorem so38_1 : ((fieldOf Tryd.prog 38 1).bind fun fd => (sizeR Tryd.prog fd.type).bind fun n => if n = 0 then .err 191 else .ok fd.offset) = .ok 1 := by kernel_rfl
@[simp] theorem fi38_1 (vs : List AVal) : fieldR Tryd.prog 38 (.agg vs) 1 = partR Tryd.prog 33 vs 1 := by kernel_rfl
@[simp] theorem fa38_2 (x : AVal) : fieldAddrR Tryd.prog 38 x 2 = addOff x 2 := by kernel_rfl
@[simp] theorem so38_2 : ((fieldOf Tryd.prog 38 2).bind fun fd => (sizeR Tryd.prog fd.type).bind fun n => if n = 0 then .err 191 else .ok fd.offset) = .ok 2 := by kernel_rfl
@[simp] theorem fi38_2 (vs : List AVal) : fieldR Tryd.prog 38 (.agg vs) 2 = partR Tryd.prog 34 vs 2 := by kernel_rfl
@[simp] theorem fa40_0 (x : AVal) : fieldAddrR Tryd.prog 40 x 0 = addOff x 0 := by kernel_rfl
@[simp] theorem so40_0 : ((fieldOf Tryd.prog 40 0).bind fun fd => (sizeR Tryd.prog fd.type).bind fun n => if n = 0 then .err 191 else .ok fd.offset) = .ok 0 := by kernel_rfl
@[simp] theorem fi40_0 (vs : List AVal) : fieldR Tryd.prog 40 (.agg vs) 0 = partR Tryd.prog 38 vs 0 := by kernel_rfl
@[simp] theorem fa40_1 (x : AVal) : fieldAddrR Tryd.prog 40 x 1 = addOff x 3 := by kernel_rfl
@[simp] theorem so40_1 : ((fieldOf Tryd.prog 40 1).bind fun fd => (sizeR Tryd.prog fd.type).bind fun n => if n = 0 then .err 191 else .ok fd.offset) = .ok 3 := by kernel_rfl
@[simp] theorem fi40_1 (vs : List AVal) : fieldR Tryd.prog 40 (.agg vs) 1 = partR Tryd.prog 36 vs 3 := by kernel_rfl
@[simp] theorem fa40_2 (x : AVal) : fieldAddrR Tryd.prog 40 x 2 = addOff x 5 := by kernel_rfl
@[simp] theorem so40_2 : ((fieldOf Tryd.prog 40 2).bind fun fd => (sizeR Tryd.prog fd.type).bind fun n => if n = 0 then .err 191 else .ok fd.offset) = .ok 5 := by kernel_rfl
@[simp] theorem fi40_2 (vs : List AVal) : fieldR Tryd.prog 40 (.agg vs) 2 = partR Tryd.prog 9 vs 5 := by kernel_rfl
@[simp] theorem fa40_3 (x : AVal) : fieldAddrR Tryd.prog 40 x 3 = addOff x 6 := by kernel_rfl
@[simp] theorem so40_3 : ((fieldOf Tryd.prog 40 3).bind fun fd => (sizeR Tryd.prog fd.type).bind fun n => if n = 0 then .err 191 else .ok fd.offset) = .ok 6 := by kernel_rfl
@[simp] theorem fi40_3 (vs : List AVal) : fieldR Tryd.prog 40 (.agg vs) 3 = partR Tryd.prog 4 vs 6 := by kernel_rfl
@[simp] theorem fa42_0 (x : AVal) : fieldAddrR Tryd.prog 42 x 0 = addOff x 0 := by kernel_rfl
@[simp] theorem so42_0 : ((fieldOf Tryd.prog 42 0).bind fun fd => (sizeR Tryd.prog fd.type).bind fun n => if n = 0 then .err 191 else .ok fd.offset) = .ok 0 := by kernel_rfl
@[simp] theorem fi42_0 (vs : List AVal) : fieldR Tryd.prog 42 (.agg vs) 0 = partR Tryd.prog 3 vs 0 := by kernel_rfl
@[simp] theorem fa42_1 (x : AVal) : fieldAddrR Tryd.prog 42 x 1 = addOff x 1 := by kernel_rfl
@[simp] theorem so42_1 : ((fieldOf Tryd.prog 42 1).bind fun fd => (sizeR Tryd.prog fd.type).bind fun n => if n = 0 then .err 191 else .ok fd.offset) = .ok 1 := by kernel_rfl
@[simp] theorem fi42_1 (vs : List AVal) : fieldR Tryd.prog 42 (.agg vs) 1 = partR Tryd.prog 36 vs 1 := by kernel_rfl
@[simp] theorem fa42_2 (x : AVal) : fieldAddrR Tryd.prog 42 x 2 = addOff x 3 := by kernel_rfl
@[simp] theorem so42_2 : ((fieldOf Tryd.prog 42 2).bind fun fd => (sizeR Tryd.prog fd.type).bind fun n => if n = 0 then .err 191 else .ok fd.offset) = .ok 3 := by kernel_rfl
@[simp] theorem fi42_2 (vs : List AVal) : fieldR Tryd.prog 42 (.agg vs) 2 = partR Tryd.prog 40 vs 3 := by kernel_rfl
@[simp] theorem fa42_3 (x : AVal) : fieldAddrR Tryd.prog 42 x 3 = addOff x 10 := by kernel_rfl
@[simp] theorem so42_3 : ((fieldOf Tryd.prog 42 3).bind fun fd => (sizeR Tryd.prog fd.type).bind fun n => if n = 0 then .err 191 else .ok fd.offset) = .ok 10 := by kernel_rfl
@[simp] theorem fi42_3 (vs : List AVal) : fieldR Tryd.prog 42 (.agg vs) 3 = partR Tryd.prog 4 vs 10 := by kernel_rfl
@[simp] theorem fa51_0 (x : AVal) : fieldAddrR Tryd.prog 51 x 0 = addOff x 0 := by kernel_rfl
@[simp] theorem so51_0 : ((fieldOf Tryd.prog 51 0).bind fun fd => (sizeR Tryd.prog fd.type).bind fun n => if n = 0 then .err 191 else .ok fd.offset) = .ok 0 := by kernel_rfl
@[simp] theorem fi51_0 (vs : List AVal) : fieldR Tryd.prog 51 (.agg vs) 0 = partR Tryd.prog 36 vs 0 := by kernel_rfl
@[simp] theorem fa51_1 (x : AVal) : fieldAddrR Tryd.prog 51 x 1 = addOff x 2 := by kernel_rfl
@[simp] theorem so51_1 : ((fieldOf Tryd.prog 51 1).bind fun fd => (sizeR Tryd.prog fd.type).bind fun n => if n = 0 then .err 191 else .ok fd.offset) = .ok 2 := by kernel_rfl
@[simp] theorem fi51_1 (vs : List AVal) : fieldR Tryd.prog 51 (.agg vs) 1 = partR Tryd.prog 40 vs 2 := by kernel_rfl
@[simp] theorem fa56_0 (x : AVal) : fieldAddrR Tryd.prog 56 x 0 = addOff x 0 := by kernel_rfl
@[simp] theorem so56_0 : ((fieldOf Tryd.prog 56 0).bind fun fd => (sizeR Tryd.prog fd.type).bind fun n => if n = 0 then .err 191 else .ok fd.offset) = .ok 0 := by kernel_rfl
@[simp] theorem fi56_0 (vs : List AVal) : fieldR Tryd.prog 56 (.agg vs) 0 = partR Tryd.prog 33 vs 0 := by kernel_rfl
@[simp] theorem fa56_1 (x : AVal) : fieldAddrR Tryd.prog 56 x 1 = addOff x 1 := by kernel_rfl
@[simp] theorem so56_1 : ((fieldOf Tryd.prog 56 1).bind fun fd => (sizeR Tryd.prog fd.type).bind fun n => if n = 0 then .err 191 else .ok fd.offset) = .ok 1 := by kernel_rfl
@[simp] theorem fi56_1 (vs : List AVal) : fieldR Tryd.prog 56 (.agg vs) 1 = partR Tryd.prog 34 vs 1 := by kernel_rfl
@[simp] theorem fa57_0 (x : AVal) : fieldAddrR Tryd.prog 57 x 0 = addOff x 0 := by kernel_rfl
@[simp] theorem so57_0 : ((fieldOf Tryd.prog 57 0).bind fun fd => (sizeR Tryd.prog fd.type).bind fun n => if n = 0 then .err 191 else .ok fd.offset) = .ok 0 := by kernel_rfl
@[simp] theorem fi57_0 (vs : List AVal) : fieldR Tryd.prog 57 (.agg vs) 0 = partR Tryd.prog 26 vs 0 := by kernel_rfl
@[simp] theorem fa57_1 (x : AVal) : fieldAddrR Tryd.prog 57 x 1 = addOff x 1 := by kernel_rfl
@[simp] theorem so57_1 : ((fieldOf Tryd.prog 57 1).bind fun fd => (sizeR Tryd.prog fd.type).bind fun n => if n = 0 then .err 191 else .ok fd.offset) = .ok 1 := by kernel_rfl
@[simp] theorem fi57_1 (vs : List AVal) : fieldR Tryd.prog 57 (.agg vs) 1 = partR Tryd.prog 33 vs 1 := by kernel_rfl
@[simp] theorem fa57_2 (x : AVal) : fieldAddrR Tryd.prog 57 x 2 = addOff x 2 := by kernel_rfl
@[simp] theorem so57_2 : ((fieldOf Tryd.prog 57 2).bind fun fd => (sizeR Tryd.prog fd.type).bind fun n => if n = 0 then .err 191 else .ok fd.offset) = .ok 2 := by kernel_rfl
@[simp] theorem fi57_2 (vs : List AVal) : fieldR Tryd.prog 57 (.agg vs) 2 = partR Tryd.prog 34 vs 2 := by kernel_rfl
@[simp] theorem fa68_0 (x : AVal) : fieldAddrR Tryd.prog 68 x 0 = addOff x 0 := by kernel_rfl
@[simp] theorem so68_0 : ((fieldOf Tryd.prog 68 0).bind fun fd => (sizeR Tryd.prog fd.type).bind fun n => if n = 0 then .err 191 else .ok fd.offset) = .ok 0 := by kernel_rfl
@[simp] theorem fi68_0 (vs : List AVal) : fieldR Tryd.prog 68 (.agg vs) 0 = partR Tryd.prog 57 vs 0 := by kernel_rfl
@[simp] theorem fa68_1 (x : AVal) : fieldAddrR Tryd.prog 68 x 1 = addOff x 3 := by kernel_rfl
@[simp] theorem so68_1 : ((fieldOf Tryd.prog 68 1).bind fun fd => (sizeR Tryd.prog fd.type).bind fun n => if n = 0 then .err 191 else .ok fd.offset) = .ok 3 := by kernel_rfl
@[simp] theorem fi68_1 (vs : List AVal) : fieldR Tryd.prog 68 (.agg vs) 1 = partR Tryd.prog 56 vs 3 := by kernel_rfl
@[simp] theorem fa68_2 (x : AVal) : fieldAddrR Tryd.prog 68 x 2 = addOff x 5 := by kernel_rfl
@[simp] theorem so68_2 : ((fieldOf Tryd.prog 68 2).bind fun fd => (sizeR Tryd.prog fd.type).bind fun n => if n = 0 then .err 191 else .ok fd.offset) = .ok 5 := by kernel_rfl
@[simp] theorem fi68_2 (vs : List AVal) : fieldR Tryd.prog 68 (.agg vs) 2 = partR Tryd.prog 9 vs 5 := by kernel_rfl
@[simp] theorem fa68_3 (x : AVal) : fieldAddrR Tryd.prog 68 x 3 = addOff x 6 := by kernel_rfl
@[simp] theorem so68_3 : ((fieldOf Tryd.prog 68 3).bind fun fd => (sizeR Tryd.prog fd.type).bind fun n => if n = 0 then .err 191 else .ok fd.offset) = .ok 6 := by kernel_rfl
@[simp] theorem fi68_3 (vs : List AVal) : fieldR Tryd.prog 68 (.agg vs) 3 = partR Tryd.prog 4 vs 6 := by kernel_rfl
@[simp] theorem fa71_0 (x : AVal) : fieldAddrR Tryd.prog 71 x 0 = addOff x 0 := by kernel_rfl
@[simp] theorem so71_0 : ((fieldOf Tryd.prog 71 0).bind fun fd => (sizeR Tryd.prog fd.type).bind fun n => if n = 0 then .err 191 else .ok fd.offset) = .ok 0 := by kernel_rfl
@[simp] theorem fi71_0 (vs : List AVal) : fieldR Tryd.prog 71 (.agg vs) 0 = partR Tryd.prog 57 vs 0 := by kernel_rfl
@[simp] theorem fa71_1 (x : AVal) : fieldAddrR Tryd.prog 71 x 1 = addOff x 3 := by kernel_rfl
@[simp] theorem so71_1 : ((fieldOf Tryd.prog 71 1).bind fun fd => (sizeR Tryd.prog fd.type).bind fun n => if n = 0 then .err 191 else .ok fd.offset) = .ok 3 := by kernel_rfl
@[simp] theorem fi71_1 (vs : List AVal) : fieldR Tryd.prog 71 (.agg vs) 1 = partR Tryd.prog 56 vs 3 := by kernel_rfl
@[simp] theorem fa71_2 (x : AVal) : fieldAddrR Tryd.prog 71 x 2 = addOff x 5 := by kernel_rfl
@[simp] theorem so71_2 : ((fieldOf Tryd.prog 71 2).bind fun fd => (sizeR Tryd.prog fd.type).bind fun n => if n = 0 then .err 191 else .ok fd.offset) = .ok 5 := by kernel_rfl
@[simp] theorem fi71_2 (vs : List AVal) : fieldR Tryd.prog 71 (.agg vs) 2 = partR Tryd.prog 5 vs 5 := by kernel_rfl
@[simp] theorem fa71_3 (x : AVal) : fieldAddrR Tryd.prog 71 x 3 = addOff x 6 := by kernel_rfl
@[simp] theorem so71_3 : ((fieldOf Tryd.prog 71 3).bind fun fd => (sizeR Tryd.prog fd.type).bind fun n => if n = 0 then .err 191 else .ok fd.offset) = .ok 6 := by kernel_rfl
@[simp] theorem fi71_3 (vs : List AVal) : fieldR Tryd.prog 71 (.agg vs) 3 = partR Tryd.prog 4 vs 6 := by kernel_rfl
@[simp] theorem fa82_0 (x : AVal) : fieldAddrR Tryd.prog 82 x 0 = addOff x 0 := by kernel_rfl
@[simp] theorem so82_0 : ((fieldOf Tryd.prog 82 0).bind fun fd => (sizeR Tryd.prog fd.type).bind fun n => if n = 0 then .err 191 else .ok fd.offset) = .ok 0 := by kernel_rfl
@[simp] theorem fi82_0 (vs : List AVal) : fieldR Tryd.prog 82 (.agg vs) 0 = partR Tryd.prog 38 vs 0 := by kernel_rfl
@[simp] theorem fa82_1 (x : AVal) : fieldAddrR Tryd.prog 82 x 1 = addOff x 3 := by kernel_rfl
@[simp] theorem so82_1 : ((fieldOf Tryd.prog 82 1).bind fun fd => (sizeR Tryd.prog fd.type).bind fun n => if n = 0 then .err 191 else .ok fd.offset) = .ok 3 := by kernel_rfl
@[simp] theorem fi82_1 (vs : List AVal) : fieldR Tryd.prog 82 (.agg vs) 1 = partR Tryd.prog 36 vs 3 := by kernel_rfl
@[simp] theorem fa82_2 (x : AVal) : fieldAddrR Tryd.prog 82 x 2 = addOff x 5 := by kernel_rfl
@[simp] theorem so82_2 : ((fieldOf Tryd.prog 82 2).bind fun fd => (sizeR Tryd.prog fd.type).bind fun n => if n = 0 then .err 191 else .ok fd.offset) = .ok 5 := by kernel_rfl
@[simp] theorem fi82_2 (vs : List AVal) : fieldR Tryd.prog 82 (.agg vs) 2 = partR Tryd.prog 5 vs 5 := by kernel_rfl
@[simp] theorem fa82_3 (x : AVal) : fieldAddrR Tryd.prog 82 x 3 = addOff x 6 := by kernel_rfl
@[simp] theorem so82_3 : ((fieldOf Tryd.prog 82 3).bind fun fd => (sizeR Tryd.prog fd.type).bind fun n => if n = 0 then .err 191 else .ok fd.offset) = .ok 6 := by kernel_rfl
@[simp] theorem fi82_3 (vs : List AVal) : fieldR Tryd.prog 82 (.agg vs) 3 = partR Tryd.prog 4 vs 6 := by kernel_rfl
@[simp] theorem fa104_0 (x : AVal) : fieldAddrR Tryd.prog 104 x 0 = addOff x 0 := by kernel_rfl
@[simp] theorem so104_0 : ((fieldOf Tryd.prog 104 0).bind fun fd => (sizeR Tryd.prog fd.type).bind fun n => if n = 0 then .err 191 else .ok fd.offset) = .ok 0 := by kernel_rfl
@[simp] theorem fi104_0 (vs : List AVal) : fieldR Tryd.prog 104 (.agg vs) 0 = partR Tryd.prog 102 vs 0 := by kernel_rfl
@[simp] theorem fa104_1 (x : AVal) : fieldAddrR Tryd.prog 104 x 1 = addOff x 1 := by kernel_rfl
@[simp] theorem so104_1 : ((fieldOf Tryd.prog 104 1).bind fun fd => (sizeR Tryd.prog fd.type).bind fun n => if n = 0 then .err 191 else .ok fd.offset) = .ok 1 := by kernel_rfl
@[simp] theorem fi104_1 (vs : List AVal) : fieldR Tryd.prog 104 (.agg vs) 1 = partR Tryd.prog 102 vs 1 := by kernel_rfl
@[simp] theorem fa106_0 (x : AVal) : fieldAddrR Tryd.prog 106 x 0 = addOff x 0 := by kernel_rfl
@[simp] theorem so106_0 : ((fieldOf Tryd.prog 106 0).bind fun fd => (sizeR Tryd.prog fd.type).bind fun n => if n = 0 then .err 191 else .ok fd.offset) = .ok 0 := by kernel_rfl
@[simp] theorem fi106_0 (vs : List AVal) : fieldR Tryd.prog 106 (.agg vs) 0 = partR Tryd.prog 3 vs 0 := by kernel_rfl
@[simp] theorem fa106_1 (x : AVal) : fieldAddrR Tryd.prog 106 x 1 = addOff x 1 := by kernel_rfl
@[simp] theorem so106_1 : ((fieldOf Tryd.prog 106 1).bind fun fd => (sizeR Tryd.prog fd.type).bind fun n => if n = 0 then .err 191 else .ok fd.offset) = .ok 1 := by kernel_rfl
@[simp] theorem fi106_1 (vs : List AVal) : fieldR Tryd.prog 106 (.agg vs) 1 = partR Tryd.prog 3 vs 1 := by kernel_rfl
@[simp] theorem fa106_2 (x : AVal) : fieldAddrR Tryd.prog 106 x 2 = addOff x 2 := by kernel_rfl
@[simp] theorem so106_2 : ((fieldOf Tryd.prog 106 2).bind fun fd => (sizeR Tryd.prog fd.type).bind fun n => if n = 0 then .err 191 else .ok fd.offset) = .ok 2 := by kernel_rfl
@[simp] theorem fi106_2 (vs : List AVal) : fieldR Tryd.prog 106 (.agg vs) 2 = partR Tryd.prog 104 vs 2 := by kernel_rfl
@[simp] theorem fa112_0 (x : AVal) : fieldAddrR Tryd.prog 112 x 0 = addOff x 0 := by kernel_rfl
@[simp] theorem so112_0 : ((fieldOf Tryd.prog 112 0).bind fun fd => (sizeR Tryd.prog fd.type).bind fun n => if n = 0 then .err 191 else .ok fd.offset) = .ok 0 := by kernel_rfl
@[simp] theorem fi112_0 (vs : List AVal) : fieldR Tryd.prog 112 (.agg vs) 0 = partR Tryd.prog 3 vs 0 := by kernel_rfl
@[simp] theorem fa112_1 (x : AVal) : fieldAddrR Tryd.prog 112 x 1 = addOff x 1 := by kernel_rfl
@[simp] theorem so112_1 : ((fieldOf Tryd.prog 112 1).bind fun fd => (sizeR Tryd.prog fd.type).bind fun n => if n = 0 then .err 191 else .ok fd.offset) = .ok 1 := by kernel_rfl
@[simp] theorem fi112_1 (vs : List AVal) : fieldR Tryd.prog 112 (.agg vs) 1 = partR Tryd.prog 3 vs 1 := by kernel_rfl
@[simp] theorem fa114_0 (x : AVal) : fieldAddrR Tryd.prog 114 x 0 = addOff x 0 := by kernel_rfl
@[simp] theorem so114_0 : ((fieldOf Tryd.prog 114 0).bind fun fd => (sizeR Tryd.prog fd.type).bind fun n => if n = 0 then .err 191 else .ok fd.offset) = .ok 0 := by kernel_rfl
@[simp] theorem fi114_0 (vs : List AVal) : fieldR Tryd.prog 114 (.agg vs) 0 = partR Tryd.prog 112 vs 0 := by kernel_rfl
@[simp] theorem fa114_1 (x : AVal) : fieldAddrR Tryd.prog 114 x 1 = addOff x 2 := by kernel_rfl
@[simp] theorem so114_1 : ((fieldOf Tryd.prog 114 1).bind fun fd => (sizeR Tryd.prog fd.type).bind fun n => if n = 0 then .err 191 else .ok fd.offset) = .ok 2 := by kernel_rfl
@[simp] theorem fi114_1 (vs : List AVal) : fieldR Tryd.prog 114 (.agg vs) 1 = partR Tryd.prog 112 vs 2 := by kernel_rfl
@[simp] theorem fa124_0 (x : AVal) : fieldAddrR Tryd.prog 124 x 0 = addOff x 0 := by kernel_rfl
@[simp] theorem so124_0 : ((fieldOf Tryd.prog 124 0).bind fun fd => (sizeR Tryd.prog fd.type).bind fun n => if n = 0 then .err 191 else .ok fd.offset) = .ok 0 := by kernel_rfl
@[simp] theorem fi124_0 (vs : List AVal) : fieldR Tryd.prog 124 (.agg vs) 0 = partR Tryd.prog 71 vs 0 := by kernel_rfl
@[simp] theorem fa124_1 (x : AVal) : fieldAddrR Tryd.prog 124 x 1 = addOff x 7 := by kernel_rfl
@[simp] theorem so124_1 : ((fieldOf Tryd.prog 124 1).bind fun fd => (sizeR Tryd.prog fd.type).bind fun n => if n = 0 then .err 191 else .ok fd.offset) = .ok 7 := by kernel_rfl
@[simp] theorem fi124_1 (vs : List AVal) : fieldR Tryd.prog 124 (.agg vs) 1 = partR Tryd.prog 56 vs 7 := by kernel_rfl
@[simp] theorem fa134_0 (x : AVal) : fieldAddrR Tryd.prog 134 x 0 = addOff x 0 := by kernel_rfl
@[simp] theorem so134_0 : ((fieldOf Tryd.prog 134 0).bind fun fd => (sizeR Tryd.prog fd.type).bind fun n => if n = 0 then .err 191 else .ok fd.offset) = .ok 0 := by kernel_rfl
@[simp] theorem fi134_0 (vs : List AVal) : fieldR Tryd.prog 134 (.agg vs) 0 = partR Tryd.prog 131 vs 0 := by kernel_rfl
@[simp] theorem fa168_0 (x : AVal) : fieldAddrR Tryd.prog 168 x 0 = addOff x 0 := by kernel_rfl
@[simp] theorem so168_0 : ((fieldOf Tryd.prog 168 0).bind fun fd => (sizeR Tryd.prog fd.type).bind fun n => if n = 0 then .err 191 else .ok fd.offset) = .ok 0 := by kernel_rfl
@[simp] theorem fi168_0 (vs : List AVal) : fieldR Tryd.prog 168 (.agg vs) 0 = partR Tryd.prog 25 vs 0 := by kernel_rfl
@[simp] theorem fa168_1 (x : AVal) : fieldAddrR Tryd.prog 168 x 1 = addOff x 1 := by kernel_rfl
@[simp] theorem so168_1 : ((fieldOf Tryd.prog 168 1).bind fun fd => (sizeR Tryd.prog fd.type).bind fun n => if n = 0 then .err 191 else .ok fd.offset) = .ok 1 := by kernel_rfl
@[simp] theorem fi168_1 (vs : List AVal) : fieldR Tryd.prog 168 (.agg vs) 1 = partR Tryd.prog 25 vs 1 := by kernel_rfl
@[simp] theorem fa168_2 (x : AVal) : fieldAddrR Tryd.prog 168 x 2 = addOff x 2 := by kernel_rfl
@[simp] theorem so168_2 : ((fieldOf Tryd.prog 168 2).bind fun fd => (sizeR Tryd.prog fd.type).bind fun n => if n = 0 then .err 191 else .ok fd.offset) = .ok 2 := by kernel_rfl
@[simp] theorem fi168_2 (vs : List AVal) : fieldR Tryd.prog 168 (.agg vs) 2 = partR Tryd.prog 25 vs 2 := by kernel_rfl
@[simp] theorem fa168_3 (x : AVal) : fieldAddrR Tryd.prog 168 x 3 = addOff x 3 := by kernel_rfl
@[simp] theorem so168_3 : ((fieldOf Tryd.prog 168 3).bind fun fd => (sizeR Tryd.prog fd.type).bind fun n => if n = 0 then .err 191 else .ok fd.offset) = .ok 3 := by kernel_rfl
@[simp] theorem fi168_3 (vs : List AVal) : fieldR Tryd.prog 168 (.agg vs) 3 = partR Tryd.prog 26 vs 3 := by kernel_rfl
@[simp] theorem fa168_4 (x : AVal) : fieldAddrR Tryd.prog 168 x 4 = addOff x 4 := by kernel_rfl
@[simp] theorem so168_4 : ((fieldOf Tryd.prog 168 4).bind fun fd => (sizeR Tryd.prog fd.type).bind fun n => if n = 0 then .err 191 else .ok fd.offset) = .ok 4 := by kernel_rfl
@[simp] theorem fi168_4 (vs : List AVal) : fieldR Tryd.prog 168 (.agg vs) 4 = partR Tryd.prog 3 vs 4 := by kernel_rfl
@[simp] theorem fa168_5 (x : AVal) : fieldAddrR Tryd.prog 168 x 5 = addOff x 5 := by kernel_rfl
@[simp] theorem so168_5 : ((fieldOf Tryd.prog 168 5).bind fun fd => (sizeR Tryd.prog fd.type).bind fun n => if n = 0 then .err 191 else .ok fd.offset) = .ok 5 := by kernel_rfl
@[simp] theorem fi168_5 (vs : List AVal) : fieldR Tryd.prog 168 (.agg vs) 5 = partR Tryd.prog 40 vs 5 := by kernel_rfl
@[simp] theorem fa168_6 (x : AVal) : fieldAddrR Tryd.prog 168 x 6 = addOff x 12 := by kernel_rfl
@[simp] theorem so168_6 : ((fieldOf Tryd.prog 168 6).bind fun fd => (sizeR Tryd.prog fd.type).bind fun n => if n = 0 then .err 191 else .ok fd.offset) = .ok 12 := by kernel_rfl
@[simp] theorem fi168_6 (vs : List AVal) : fieldR Tryd.prog 168 (.agg vs) 6 = partR Tryd.prog 106 vs 12 := by kernel_rfl
@[simp] theorem bu36 (l : List (Nat × AVal)) : buildR Tryd.prog 36 l = (fillR (fun i => [(0, 1), (1, 1)][i]?) [.int .u16 0, .int .u32 0] l).bind fun cs => .ok (.agg cs) := by kernel_rfl
@[simp] theorem bu38 (l : List (Nat × AVal)) : buildR Tryd.prog 38 l = (fillR (fun i => [(0, 1), (1, 1), (2, 1)][i]?) [.int .u64 0, .int .u16 0, .int .u32 0] l).bind fun cs => .ok (.agg cs) := by kernel_rfl
@[simp] theorem bu40 (l : List (Nat × AVal)) : buildR Tryd.prog 40 l = (fillR (fun i => [(0, 3), (3, 2), (5, 1), (6, 1)][i]?) [.int .u64 0, .int .u16 0, .int .u32 0, .int .u16 0, .int .u32 0, .str [], .bool false] l).bind fun cs => .ok (.agg cs) := by kernel_rfl
@[simp] theorem bu56 (l : List (Nat × AVal)) : buildR Tryd.prog 56 l = (fillR (fun i => [(0, 1), (1, 1)][i]?) [.int .u16 0, .int .u32 0] l).bind fun cs => .ok (.agg cs) := by kernel_rfl
@[simp] theorem bu57 (l : List (Nat × AVal)) : buildR Tryd.prog 57 l = (fillR (fun i => [(0, 1), (1, 1), (2, 1)][i]?) [.int .u64 0, .int .u16 0, .int .u32 0] l).bind fun cs => .ok (.agg cs) := by kernel_rfl
@[simp] theorem bu68 (l : List (Nat × AVal)) : buildR Tryd.prog 68 l = (fillR (fun i => [(0, 3), (3, 2), (5, 1), (6, 1)][i]?) [.int .u64 0, .int .u16 0, .int .u32 0, .int .u16 0, .int .u32 0, .str [], .bool false] l).bind fun cs => .ok (.agg cs) := by kernel_rfl
@[simp] theorem bu71 (l : List (Nat × AVal)) : buildR Tryd.prog 71 l = (fillR (fun i => [(0, 3), (3, 2), (5, 1), (6, 1)][i]?) [.int .u64 0, .int .u16 0, .int .u32 0, .int .u16 0, .int .u32 0, .int .u8 0, .bool false] l).bind fun cs => .ok (.agg cs) := by kernel_rfl
@[simp] theorem bu82 (l : List (Nat × AVal)) : buildR Tryd.prog 82 l = (fillR (fun i => [(0, 3), (3, 2), (5, 1), (6, 1)][i]?) [.int .u64 0, .int .u16 0, .int .u32 0, .int .u16 0, .int .u32 0, .int .u8 0, .bool false] l).bind fun cs => .ok (.agg cs) := by kernel_rfl
@[simp] theorem bu104 (l : List (Nat × AVal)) : buildR Tryd.prog 104 l = (fillR (fun i => [(0, 1), (1, 1)][i]?) [.cplx .f64 0 0, .cplx .f64 0 0] l).bind fun cs => .ok (.agg cs) := by kernel_rfl
@[simp] theorem bu106 (l : List (Nat × AVal)) : buildR Tryd.prog 106 l = (fillR (fun i => [(0, 1), (1, 1), (2, 2)][i]?) [.int .i64 0, .int .i64 0, .cplx .f64 0 0, .cplx .f64 0 0] l).bind fun cs => .ok (.agg cs) := by kernel_rfl
@[simp] theorem bu112 (l : List (Nat × AVal)) : buildR Tryd.prog 112 l = (fillR (fun i => [(0, 1), (1, 1)][i]?) [.int .i64 0, .int .i64 0] l).bind fun cs => .ok (.agg cs) := by kernel_rfl
@[simp] theorem bu114 (l : List (Nat × AVal)) : buildR Tryd.prog 114 l = (fillR (fun i => [(0, 2), (2, 2)][i]?) [.int .i64 0, .int .i64 0, .int .i64 0, .int .i64 0] l).bind fun cs => .ok (.agg cs) := by kernel_rfl
@[simp] theorem bu124 (l : List (Nat × AVal)) : buildR Tryd.prog 124 l = (fillR (fun i => [(0, 7), (7, 2)][i]?) [.int .u64 0, .int .u16 0, .int .u32 0, .int .u16 0, .int .u32 0, .int .u8 0, .bool false, .int .u16 0, .int .u32 0] l).bind fun cs => .ok (.agg cs) := by kernel_rfl
@[simp] theorem bu168 (l : List (Nat × AVal)) : buildR Tryd.prog 168 l = (fillR (fun i => [(0, 1), (1, 1), (2, 1), (3, 1), (4, 1), (5, 7), (12, 4)][i]?) [.nilp, .nilp, .nilp, .int .u64 0, .int .i64 0, .int .u64 0, .int .u16 0, .int .u32 0, .int .u16 0, .int .u32 0, .str [], .bool false, .int .i64 0, .int .i64 0, .cplx .f64 0 0, .cplx .f64 0 0] l).bind fun cs => .ok (.agg cs) := by kernel_rfl
theorem inf32 : ∃ i, infoR Tryd.prog 71 = .ok i ∧ i.size = 7 ∧ i.bytes = 32 := ⟨_, rfl, by kernel_rfl, by kernel_rfl⟩
@[simp] theorem ap32 {ro} (h : AHeap) (xt : Option Nat) (s x : AVal) : appendR (cfgR ro) h 32 xt s x = mk2 (notMake Tryd.prog xt) (appMakeR (cfgR ro) h 32 xt s x) ((lenA x).bind fun n => (readSl (cfgR ro) h 7 n x).bind fun new => appCore 7 32 h s n new) := by
  obtain ⟨i, h1, h2, h3⟩ := inf32
  exact append_core xt s x el32 h1 zc71 h2 h3 (by decide) (by decide) rfl
theorem inf49 : ∃ i, infoR Tryd.prog 51 = .ok i ∧ i.size = 9 ∧ i.bytes = 56 := ⟨_, rfl, by kernel_rfl, by kernel_rfl⟩
@[simp] theorem ap49 {ro} (h : AHeap) (xt : Option Nat) (s x : AVal) : appendR (cfgR ro) h 49 xt s x = mk2 (notMake Tryd.prog xt) (appMakeR (cfgR ro) h 49 xt s x) ((lenA x).bind fun n => (readSl (cfgR ro) h 9 n x).bind fun new => appCore 9 56 h s n new) := by
  obtain ⟨i, h1, h2, h3⟩ := inf49
  exact append_core xt s x el49 h1 zc51 h2 h3 (by decide) (by decide) rfl
theorem inf53 : ∃ i, infoR Tryd.prog 124 = .ok i ∧ i.size = 9 ∧ i.bytes = 40 := ⟨_, rfl, by kernel_rfl, by kernel_rfl⟩
@[simp] theorem ap53 {ro} (h : AHeap) (xt : Option Nat) (s x : AVal) : appendR (cfgR ro) h 53 xt s x = mk2 (notMake Tryd.prog xt) (appMakeR (cfgR ro) h 53 xt s x) ((lenA x).bind fun n => (readSl (cfgR ro) h 9 n x).bind fun new => appCore 9 40 h s n new) := by
  obtain ⟨i, h1, h2, h3⟩ := inf53
  exact append_core xt s x el53 h1 zc124 h2 h3 (by decide) (by decide) rfl
theorem inf109 : ∃ i, infoR Tryd.prog 82 = .ok i ∧ i.size = 7 ∧ i.bytes = 32 := ⟨_, rfl, by kernel_rfl, by kernel_rfl⟩
@[simp] theorem ap109 {ro} (h : AHeap) (xt : Option Nat) (s x : AVal) : appendR (cfgR ro) h 109 xt s x = mk2 (notMake Tryd.prog xt) (appMakeR (cfgR ro) h 109 xt s x) ((lenA x).bind fun n => (readSl (cfgR ro) h 7 n x).bind fun new => appCore 7 32 h s n new) := by
  obtain ⟨i, h1, h2, h3⟩ := inf109
  exact append_core xt s x el109 h1 zc82 h2 h3 (by decide) (by decide) rfl
theorem inf164 : ∃ i, infoR Tryd.prog 25 = .ok i ∧ i.size = 1 ∧ i.bytes = 8 := ⟨_, rfl, by kernel_rfl, by kernel_rfl⟩
@[simp] theorem ap164 {ro} (h : AHeap) (xt : Option Nat) (s x : AVal) : appendR (cfgR ro) h 164 xt s x = mk2 (notMake Tryd.prog xt) (appMakeR (cfgR ro) h 164 xt s x) ((lenA x).bind fun n => (readSl (cfgR ro) h 1 n x).bind fun new => appCore 1 8 h s n new) := by
  obtain ⟨i, h1, h2, h3⟩ := inf164
  exact append_core xt s x el164 h1 zc25 h2 h3 (by decide) (by decide) rfl
@[simp] theorem eq4 {ro} (h : AHeap) (x y : AVal) : eqIn (cfgR ro) h 10000 4 x y = eqFlat Tryd.prog h .bool x y := by kernel_rfl
theorem eq25 {ro} (h : AHeap) (x y : AVal) : eqIn (cfgR ro) h 10000 25 x y = eqFlat Tryd.prog h (.pointer 168) x y := by kernel_rfl
@[simp] theorem en25 {ro} (h : AHeap) : eqIn (cfgR ro) h 10000 25 .nilp .nilp = .ok true := by rw [eq25]; rfl
@[simp] theorem ep25 {ro} (h : AHeap) (o f : Nat) : eqIn (cfgR ro) h 10000 25 (.ptr o f) .nilp = .ok false := by rw [eq25]; rfl
@[simp] theorem eq25_np {ro} (h : AHeap) (o f : Nat) : eqIn (cfgR ro) h 10000 25 .nilp (.ptr o f) = .ok false := by rw [eq25]; rfl
@[simp] theorem eq25_pp {ro} (h : AHeap) (o f o1 f1 : Nat) : eqIn (cfgR ro) h 10000 25 (.ptr o f) (.ptr o1 f1) = ptrEq h o f o1 f1 := by
  have hz : sizeNonzero Tryd.prog 168 = true := by kernel_rfl
  rw [eq25]
  show (if sizeNonzero Tryd.prog 168 = true then eq1 h (.ptr o f) (.ptr o1 f1) else Res.err 65) = _
  rw [if_pos hz]; rfl
@[simp] theorem eq29 {ro} (h : AHeap) (x y : AVal) : eqIn (cfgR ro) h 10000 29 x y = eqFlat Tryd.prog h (.map 33 164) x y := by kernel_rfl
theorem eq131 {ro} (h : AHeap) (x y : AVal) : eqIn (cfgR ro) h 10000 131 x y = eqFlat Tryd.prog h (.pointer 134) x y := by kernel_rfl
@[simp] theorem en131 {ro} (h : AHeap) : eqIn (cfgR ro) h 10000 131 .nilp .nilp = .ok true := by rw [eq131]; rfl
@[simp] theorem ep131 {ro} (h : AHeap) (o f : Nat) : eqIn (cfgR ro) h 10000 131 (.ptr o f) .nilp = .ok false := by rw [eq131]; rfl
@[simp] theorem eq131_np {ro} (h : AHeap) (o f : Nat) : eqIn (cfgR ro) h 10000 131 .nilp (.ptr o f) = .ok false := by rw [eq131]; rfl
@[simp] theorem eq131_pp {ro} (h : AHeap) (o f o1 f1 : Nat) : eqIn (cfgR ro) h 10000 131 (.ptr o f) (.ptr o1 f1) = ptrEq h o f o1 f1 := by
  have hz : sizeNonzero Tryd.prog 134 = true := by kernel_rfl
  rw [eq131]
  show (if sizeNonzero Tryd.prog 134 = true then eq1 h (.ptr o f) (.ptr o1 f1) else Res.err 65) = _
  rw [if_pos hz]; rfl
end Go.Proofs.YthblmlkkmebciaaDoor
set_option linter.all false
set_option maxRecDepth 100000
set_option maxHeartbeats 4000000
namespace Go.Proofs.YthblmlkkmebciaaDoor
open Go Go.RowKit Go.Proofs
/-! walks: a turn and a step, in whole numbers -/
abbrev Str := List UInt8
structure Wk where
  tr : Int
  ti : Int
  sr : Int
  si : Int
def Wk.one : Wk := ⟨1, 0, 0, 0⟩
/-- a walk, and another one behind it -/
def Wk.then_ (w v : Wk) : Wk := ⟨v.tr * w.tr - v.ti * w.ti, v.tr * w.ti + v.ti * w.tr, v.tr * w.sr - v.ti * w.si + v.sr, v.tr * w.si + v.ti * w.sr + v.si⟩
structure Wk.Ok (w : Wk) (n : Nat) : Prop where
  unit : (w.tr = 1 ∧ w.ti = 0) ∨ (w.tr = -1 ∧ w.ti = 0) ∨ (w.tr = 0 ∧ w.ti = 1) ∨ (w.tr = 0 ∧ w.ti = -1)
  sr : w.sr.natAbs ≤ 8 * n
  si : w.si.natAbs ≤ 8 * n
theorem Wk.Ok.then_ {w v : Wk} {n m : Nat} (hw : w.Ok n) (hv : v.Ok m) : (w.then_ v).Ok (n + m) := by
  obtain ⟨u1, r1, i1⟩ := hw
  obtain ⟨u2, r2, i2⟩ := hv
  obtain ⟨a, b, c, d⟩ := w
  obtain ⟨e, f, g, k⟩ := v
  simp only at u1 r1 i1 u2 r2 i2
  unfold Wk.then_
  refine ⟨?_, ?_, ?_⟩ <;> rcases u2 with ⟨rfl, rfl⟩ | ⟨rfl, rfl⟩ | ⟨rfl, rfl⟩ | ⟨rfl, rfl⟩ <;> simp only [] <;> omega
theorem Wk.then_assoc (a b c : Wk) : (a.then_ b).then_ c = a.then_ (b.then_ c) := by
  obtain ⟨a1, a2, a3, a4⟩ := a
  obtain ⟨b1, b2, b3, b4⟩ := b
  obtain ⟨c1, c2, c3, c4⟩ := c
  simp only [Wk.then_, Wk.mk.injEq]
  refine ⟨?_, ?_, ?_, ?_⟩ <;> simp only [Int.mul_sub, Int.mul_add, Int.sub_mul, Int.add_mul, Int.mul_assoc] <;> omega
theorem Wk.one_then (a : Wk) : Wk.one.then_ a = a := by
  obtain ⟨a1, a2, a3, a4⟩ := a
  simp [Wk.one, Wk.then_]
theorem Wk.then_one (a : Wk) : a.then_ Wk.one = a := by
  obtain ⟨a1, a2, a3, a4⟩ := a
  simp [Wk.one, Wk.then_]
def tX : Nat → Int
  | 0 => 1
  | 2 => -1
  | _ => 0
def tY : Nat → Int
  | 1 => 1
  | 3 => -1
  | _ => 0
def tA : Nat → Nat
  | 0 => 4607182418800017408
  | 2 => 13830554455654793216
  | _ => 0
def tB : Nat → Nat
  | 1 => 4607182418800017408
  | 3 => 13830554455654793216
  | _ => 0
theorem lt4 {n : Nat} (h : n < 4) : n = 0 ∨ n = 1 ∨ n = 2 ∨ n = 3 := by omega
theorem wh_c0 : Wh 0 0 := by
  have : FloatKind.f64.nearest 0 = 0 := by decide +kernel
  have h := nearest_wh (n := 0) (by decide)
  rw [this] at h; exact h
theorem wh_c1 : Wh 4607182418800017408 1 := by
  have : FloatKind.f64.nearest 1 = 4607182418800017408 := by decide +kernel
  rw [← this]; exact nearest_wh (by decide)
theorem wh_cm : Wh 13830554455654793216 (-1) := by
  have : FloatKind.f64.nearest (-1) = 13830554455654793216 := by decide +kernel
  rw [← this]; exact nearest_wh (by decide)
theorem tA_wh {n : Nat} (h : n < 4) : Wh (tA n) (tX n) := by
  rcases lt4 h with rfl | rfl | rfl | rfl
  · exact wh_c1
  · exact wh_c0
  · exact wh_cm
  · exact wh_c0
theorem tB_wh {n : Nat} (h : n < 4) : Wh (tB n) (tY n) := by
  rcases lt4 h with rfl | rfl | rfl | rfl
  · exact wh_c0
  · exact wh_c1
  · exact wh_c0
  · exact wh_cm
/-- the walk of a byte -/
def Wk.byte (b : UInt8) : Wk := ⟨tX (b.toNat % 4), tY (b.toNat % 4), (b.toNat / 4 % 8 + 1 : Nat), (b.toNat / 32 + 1 : Nat)⟩
theorem Wk.byte_ok (b : UInt8) : (Wk.byte b).Ok 1 := by
  have hb := b.toNat_lt
  refine ⟨?_, ?_, ?_⟩
  · rcases lt4 (n := b.toNat % 4) (by omega) with h | h | h | h <;> simp [Wk.byte, h, tX, tY]
  · show Int.natAbs ((b.toNat / 4 % 8 + 1 : Nat) : Int) ≤ 8; omega
  · show Int.natAbs ((b.toNat / 32 + 1 : Nat) : Int) ≤ 8; omega
def Wk.text (s : Str) : Wk := s.foldl (fun w b => w.then_ (Wk.byte b)) Wk.one
theorem Wk.fold_then (s : Str) : ∀ w : Wk, s.foldl (fun w b => w.then_ (Wk.byte b)) w = w.then_ (Wk.text s) := by
  unfold Wk.text
  induction s with
  | nil => intro w; rw [List.foldl_nil, List.foldl_nil, Wk.then_one]
  | cons b s ih => intro w; rw [List.foldl_cons, List.foldl_cons, ih, ih (Wk.one.then_ _), Wk.one_then, Wk.then_assoc]
theorem Wk.text_append (s t : Str) : Wk.text (s ++ t) = (Wk.text s).then_ (Wk.text t) := by
  rw [Wk.text, List.foldl_append, Wk.fold_then]; rfl
theorem Wk.text_ok (s : Str) : (Wk.text s).Ok s.length := by
  have : ∀ (s : Str) (w : Wk) (n : Nat), w.Ok n → (s.foldl (fun w b => w.then_ (Wk.byte b)) w).Ok (n + s.length) := by
    intro s
    induction s with
    | nil => intro w n h; exact h
    | cons b s ih =>
      intro w n h
      have := ih _ _ (h.then_ (Wk.byte_ok b))
      rw [List.foldl_cons, List.length_cons, show n + (s.length + 1) = n + 1 + s.length by omega]; exact this
  have h := this s Wk.one 0 ⟨.inl ⟨rfl, rfl⟩, by decide, by decide⟩
  rw [Nat.zero_add] at h; exact h
/-- four words that stand for a walk -/
structure WkR (a b c d : Nat) (w : Wk) : Prop where
  tr : Wh a w.tr
  ti : Wh b w.ti
  sr : Wh c w.sr
  si : Wh d w.si
theorem WkR.then_ {a b c d e f g k : Nat} {w v : Wk} {n m : Nat} (hw : WkR a b c d w) (hv : WkR e f g k v) (ow : w.Ok n) (ov : v.Ok m) (hn : n + m < 2 ^ 40) :
    ∃ r1 i1 r2 i2 r3 i3, cplxBin .mul .f64 e f a b = .ok (.cplx .f64 r1 i1) ∧ cplxBin .mul .f64 e f c d = .ok (.cplx .f64 r2 i2) ∧ cplxBin .add .f64 r2 i2 g k = .ok (.cplx .f64 r3 i3) ∧ WkR r1 i1 r3 i3 (w.then_ v) := by
  obtain ⟨u1, s1, s2⟩ := ow
  obtain ⟨u2, s3, s4⟩ := ov
  have bd : ∀ x y : Int, (x = 0 ∨ x = 1 ∨ x = -1) → y.natAbs ≤ 2 ^ 50 → (x * y).natAbs < 2 ^ 52 := by
    rintro x y (rfl | rfl | rfl) hy <;> omega
  have ur : v.tr = 0 ∨ v.tr = 1 ∨ v.tr = -1 := by omega
  have ui : v.ti = 0 ∨ v.ti = 1 ∨ v.ti = -1 := by omega
  have br : w.tr.natAbs ≤ 2 ^ 50 := by omega
  have bi : w.ti.natAbs ≤ 2 ^ 50 := by omega
  have b3 : w.sr.natAbs ≤ 2 ^ 50 := by omega
  have b4 : w.si.natAbs ≤ 2 ^ 50 := by omega
  obtain ⟨r1, i1, e1, w1, w2⟩ := cplx_mul hv.tr hv.ti hw.tr hw.ti (bd _ _ ur br) (bd _ _ ui bi) (bd _ _ ur bi) (bd _ _ ui br)
  obtain ⟨r2, i2, e2, w3, w4⟩ := cplx_mul hv.tr hv.ti hw.sr hw.si (bd _ _ ur b3) (bd _ _ ui b4) (bd _ _ ur b4) (bd _ _ ui b3)
  have hok := Wk.Ok.then_ ⟨u1, s1, s2⟩ ⟨u2, s3, s4⟩
  obtain ⟨r3, i3, e3, w5, w6⟩ := cplx_add w3 w4 hv.sr hv.si (by have := hok.sr; unfold Wk.then_ at this; simp only at this; omega) (by have := hok.si; unfold Wk.then_ at this; simp only at this; omega)
  exact ⟨r1, i1, r2, i2, r3, i3, e1, e2, e3, w1, w2, w5, w6⟩
section
variable {ro : Nat → Option (List AVal)}
theorem then_ev {h : AHeap} {a b c d e f g k : Nat} {w v : Wk} {n m : Nat} {sv : AVal} (hs : Sl (cfgR ro) h 2 sv [[.cplx .f64 e f, .cplx .f64 g k]]) (hw : WkR a b c d w) (hv : WkR e f g k v) (ow : w.Ok n) (ov : v.Ok m) (hn : n + m < 2 ^ 40)
    {Q : AVal → AHeap → Prop} (hq : ∀ a b c d, WkR a b c d (w.then_ v) → Q (.agg [.cplx .f64 a b, .cplx .f64 c d]) h) : Ev (cfgR ro) 145 [.agg [.cplx .f64 a b, .cplx .f64 c d], sv] h Q := by
  refine Ev.wp rfl rfl Tryd.func145 rfl ?_
  obtain ⟨r1, i1, r2, i2, r3, i3, e1, e2, e3, hr⟩ := hw.then_ hv ow ov hn
  have hL : lenR (cfgR ro) h 202 sv = .ok (.int .i64 1) := by have := hs.lenR (t := 202) un202; simpa using this
  have hX : indexAddrR Tryd.prog 202 sv (.int .i64 0) = .ok (elp sv 2 0) := hs.idx (i := 0) un202 sz104 (by simp)
  have hA : loadR (cfgR ro) h 104 (elp sv 2 0) = .ok (.agg [.cplx .f64 e f, .cplx .f64 g k]) := hs.load (by rfl) ag104 sz104
  have w1 : IntKind.i64.wrap 1 = 1 := by decide
  simp -implicitDefEqProofs [Tryd.f145, hL]
  obtain ⟨I, hI⟩ : ∃ I : Nat → List AVal → AHeap → Prop, I = fun m env h' => h' = h ∧ ((m = 1 ∧ env = (.dead :: .dead :: .cell [.cplx .f64 a b, .cplx .f64 c d] :: .dead :: .cell [.cplx .f64 0 0, .cplx .f64 0 0] :: .dead :: .dead :: sv :: .int .i64 1 :: .int .i64 0 :: .dead :: .dead :: .dead :: .dead :: .dead :: .dead :: .dead :: .dead :: .dead :: .dead :: .dead :: .dead :: .dead :: .dead :: .dead :: .dead :: .dead :: .dead :: .dead :: [])) ∨
    (m = 0 ∧ env = (.dead :: .dead :: .cell [.cplx .f64 r1 i1, .cplx .f64 r3 i3] :: .dead :: .cell [.cplx .f64 0 0, .cplx .f64 0 0] :: .dead :: .dead :: sv :: .int .i64 1 :: .int .i64 1 :: .dead :: .dead :: .dead :: .dead :: .dead :: .dead :: .dead :: .dead :: .dead :: .dead :: .dead :: .dead :: .dead :: .dead :: .dead :: .dead :: .dead :: .dead :: .dead :: []))) := ⟨_, rfl⟩
  refine loop_of I ?_ 1 (by rw [hI]; exact ⟨rfl, .inl ⟨rfl, rfl⟩⟩)
  intro m env h' hi
  rw [hI] at hi
  obtain ⟨rfl, ⟨rfl, rfl⟩ | ⟨rfl, rfl⟩⟩ := hi
  · simp -implicitDefEqProofs [hX, hA, e1, e2, e3, w1]
    exact .mk (m := 0) (by omega) (by rw [hI]; exact ⟨rfl, .inr ⟨rfl, rfl⟩⟩)
  · simp -implicitDefEqProofs
    exact hq _ _ _ _ hr
end
end Go.Proofs.YthblmlkkmebciaaDoor
set_option linter.all false
set_option maxRecDepth 100000
set_option maxHeartbeats 4000000
namespace Go.Proofs.YthblmlkkmebciaaDoor
open Go Go.RowKit Go.Proofs
theorem and3 : ∀ x : Nat, x < 256 → iand .i64 (x : Int) 3 = ((x % 4 : Nat) : Int) := by decide +kernel
theorem shr2 : ∀ x : Nat, x < 256 → ishr .u8 (x : Int) 2 = ((x / 4 : Nat) : Int) := by decide +kernel
theorem shr5 : ∀ x : Nat, x < 256 → ishr .u8 (x : Int) 5 = ((x / 32 : Nat) : Int) := by decide +kernel
theorem and7 : ∀ x : Nat, x < 64 → iand .u8 (x : Int) 7 = ((x % 8 : Nat) : Int) := by decide +kernel
section
variable {ro : Nat → Option (List AVal)}
theorem gturn_ev {h : AHeap} {n : Nat} (hn : n < 256) {Q : AVal → AHeap → Prop} (hq : Q (.cplx .f64 (tA (n % 4)) (tB (n % 4))) h) : Ev (cfgR ro) 147 [.int .i64 n] h Q := by
  refine Ev.wp rfl rfl Tryd.func147 rfl ?_
  have e := and3 n hn
  obtain ⟨m, hm⟩ : ∃ m, m = n % 4 := ⟨_, rfl⟩
  rw [← hm] at e hq
  rcases lt4 (n := m) (by omega) with rfl | rfl | rfl | rfl <;> (simp -implicitDefEqProofs [Tryd.f147, e]; exact hq)
theorem gof_ev {h : AHeap} {x y : Int} {Q : AVal → AHeap → Prop} (hq : Q (.cplx .f64 (FloatKind.f64.nearest x) (FloatKind.f64.nearest y)) h) : Ev (cfgR ro) 148 [.int .i64 x, .int .i64 y] h Q := by
  refine Ev.wp rfl rfl Tryd.func148 rfl ?_
  simp -implicitDefEqProofs [Tryd.f148]
  exact hq
theorem stay_ev {h : AHeap} {Q : AVal → AHeap → Prop} (hq : Q (.agg [.cplx .f64 4607182418800017408 0, .cplx .f64 0 0]) h) : Ev (cfgR ro) 92 [] h Q := by
  refine Ev.wp rfl rfl Tryd.func92 rfl ?_
  simp -implicitDefEqProofs [Tryd.f92]
  exact hq
theorem wof_ev {h : AHeap} {b : UInt8} {Q : AVal → AHeap → Prop} (hq : ∀ x y z t, WkR x y z t (Wk.byte b) → Q (.agg [.cplx .f64 x y, .cplx .f64 z t]) h) : Ev (cfgR ro) 146 [.int .u8 b.toNat] h Q := by
  refine Ev.wp rfl rfl Tryd.func146 rfl ?_
  have hb := b.toNat_lt
  have hq := hq _ _ _ _ ⟨tA_wh (Nat.mod_lt b.toNat (by decide)), tB_wh (Nat.mod_lt b.toNat (by decide)), nearest_wh (n := ((b.toNat / 4 % 8 + 1 : Nat) : Int)) (by omega), nearest_wh (n := ((b.toNat / 32 + 1 : Nat) : Int)) (by omega)⟩
  obtain ⟨n, hn⟩ : ∃ n, n = b.toNat := ⟨_, rfl⟩
  rw [← hn] at hb hq ⊢
  have c1 : IntKind.i64.wrap (n : Int) = (n : Int) := w64 (by omega) (by omega)
  have e2 := shr2 n (by omega)
  have e5 := shr5 n (by omega)
  obtain ⟨p, hp⟩ : ∃ p, p = n / 4 := ⟨_, rfl⟩
  obtain ⟨q, hqq⟩ : ∃ q, q = n / 32 := ⟨_, rfl⟩
  rw [← hp] at e2
  rw [← hqq] at e5
  have e7 := and7 p (by omega)
  obtain ⟨r, hr⟩ : ∃ r, r = p % 8 := ⟨_, rfl⟩
  rw [← hr] at e7
  have c2 : IntKind.i64.wrap (r : Int) = (r : Int) := w64 (by omega) (by omega)
  have c3 : IntKind.i64.wrap (q : Int) = (q : Int) := w64 (by omega) (by omega)
  have c4 : IntKind.i64.wrap ((r : Int) + 1) = ((r + 1 : Nat) : Int) := by rw [w64 (by omega) (by omega)]; omega
  have c5 : IntKind.i64.wrap ((q : Int) + 1) = ((q + 1 : Nat) : Int) := by rw [w64 (by omega) (by omega)]; omega
  rw [← hp, ← hr, ← hqq] at hq
  obtain ⟨r1, hr1⟩ : ∃ r1, r1 = r + 1 := ⟨_, rfl⟩
  obtain ⟨q1, hq1⟩ : ∃ q1, q1 = q + 1 := ⟨_, rfl⟩
  rw [← hr1] at c4 hq
  rw [← hq1] at c5 hq
  simp -implicitDefEqProofs [Tryd.f146, c1]
  refine gturn_ev (by omega) ?_
  simp -implicitDefEqProofs [e2, e5, e7, c2, c3, c4, c5]
  refine gof_ev ?_
  simp -implicitDefEqProofs
  exact hq
theorem wtext_ev {h : AHeap} {s : Str} (hs : s.length < 2 ^ 39) {Q : AVal → AHeap → Prop} (hq : ∀ x y z t h', Old h h' → WkR x y z t (Wk.text s) → Q (.agg [.cplx .f64 x y, .cplx .f64 z t]) h') : Ev (cfgR ro) 144 [.str s] h Q := by
  refine Ev.wp rfl rfl Tryd.func144 rfl ?_
  obtain ⟨h1, hh1⟩ : ∃ h1, h1 = h.push (.row 1 true (s.map fun x => .int .u8 x.toNat)) := ⟨_, rfl⟩
  have o1 : Old h h1 := by rw [hh1]; exact (Old.refl h).push _
  have bm : BM h h1 (.sl h.next 0 s.length) s := ⟨bes_one s, .inr ⟨h.next, true, by rw [bes_len], Nat.le_refl _, by rw [hh1]; simp, by rw [hh1, get_push_next, bes_flat]; rfl⟩⟩
  have bs : ∀ h', Old h1 h' → BS (cfgR ro) h' (.sl h.next 0 s.length) s := fun h' o => bm.toBS.old o
  have hX : ∀ h', Old h1 h' → ∀ i, i < s.length → indexAddrR Tryd.prog 132 (.sl h.next 0 s.length) (.int .i64 (i : Int)) = .ok (elp (.sl h.next 0 s.length) 1 i) := fun h' o i hi => (bs h' o).idx un132 sz5 hi
  have hA : ∀ h', Old h1 h' → ∀ i (hi : i < s.length), loadR (cfgR ro) h' 5 (elp (.sl h.next 0 s.length) 1 i) = .ok (.int .u8 s[i].toNat) := fun h' o i hi => (bs h' o).load hi ag5
  have hL := (bs h1 (Old.refl h1)).lenR (t := 132) un132
  obtain ⟨sv, hsv⟩ : ∃ sv, sv = AVal.sl h.next 0 s.length := ⟨_, rfl⟩
  simp -implicitDefEqProofs [Tryd.f144]
  refine stay_ev ?_
  simp -implicitDefEqProofs [← hh1, hL]
  rw [← hsv] at hX hA ⊢
  obtain ⟨I, hI⟩ : ∃ I : Nat → List AVal → AHeap → Prop, I = fun m env h' => ∃ (i : Nat) (x y z t : Nat), i + m = s.length ∧ Old h1 h' ∧ WkR x y z t (Wk.text (s.take i)) ∧
    env = (.dead :: .dead :: .cell [.cplx .f64 0 0, .cplx .f64 0 0] :: .cell [.cplx .f64 x y, .cplx .f64 z t] :: .dead :: .dead :: .dead :: .dead :: sv :: .int .i64 (s.length : Nat) :: .int .i64 (i : Nat) :: .dead :: .dead :: .dead :: .dead :: .dead :: .dead :: .dead :: .dead :: .dead :: .dead :: []) := ⟨_, rfl⟩
  refine loop_of I ?_ s.length (by rw [hI]; exact ⟨0, _, _, _, _, by omega, Old.refl h1, ⟨wh_c1, wh_c0, wh_c0, wh_c0⟩, rfl⟩)
  intro m env h' hi
  rw [hI] at hi
  obtain ⟨i, x, y, z, t, him, ho, hw, rfl⟩ := hi
  by_cases hlt : i < s.length
  · have w1 : IntKind.i64.wrap ((i : Int) + 1) = ((i + 1 : Nat) : Int) := by rw [w64 (by omega) (by omega)]; push_cast; rfl
    simp -implicitDefEqProofs [hlt, hX h' ho i hlt, hA h' ho i hlt]
    refine wof_ev (fun e f g k hv => ?_)
    have o2 : Old h' (h'.push (.row 2 false [.cplx .f64 e f, .cplx .f64 g k])) := (Old.refl h').push _
    have hsl : Sl (cfgR ro) (h'.push (.row 2 false [.cplx .f64 e f, .cplx .f64 g k])) 2 (.sl h'.next 0 1) [[.cplx .f64 e f, .cplx .f64 g k]] :=
      Mine.sl (h0 := h') ⟨by simp, .inr ⟨h'.next, false, rfl, Nat.le_refl _, by simp, by rw [get_push_next]; rfl⟩⟩
    simp -implicitDefEqProofs [buildSliceR, reps]
    refine then_ev hsl hw hv (Wk.text_ok _) (Wk.byte_ok _) (by simp; omega) (fun x' y' z' t' hw' => ?_)
    simp -implicitDefEqProofs [w1]
    refine .mk (m := m - 1) (by omega) (by
      rw [hI]
      refine ⟨i + 1, x', y', z', t', by omega, ho.trans o2, ?_, by simp⟩
      have : Wk.text (s.take (i + 1)) = (Wk.text (s.take i)).then_ (Wk.byte s[i]) := by
        rw [List.take_succ_eq_append_getElem hlt, Wk.text, List.foldl_append]; rfl
      rw [this]; exact hw')
  · simp -implicitDefEqProofs [hlt]
    have : s.take i = s := List.take_of_length_le (by omega)
    rw [this] at hw
    exact hq _ _ _ _ _ (o1.trans ho) hw
end
end Go.Proofs.YthblmlkkmebciaaDoor
set_option linter.all false
set_option maxRecDepth 100000
set_option maxHeartbeats 4000000
namespace Go.Proofs.YthblmlkkmebciaaDoor
open Go Go.RowKit Go.Proofs
/-! runs and masses -/
structure RunV where
  clock : Nat
  r : Nat
  n : Nat
  er : Nat
  en : Nat
  text : Str
  shown : Bool
def RunV.cells (x : RunV) : List AVal := [.int .u64 x.clock, .int .u16 x.r, .int .u32 x.n, .int .u16 x.er, .int .u32 x.en, .str x.text, .bool x.shown]
structure MassV where
  at_ : Nat
  sh : Nat
  a : Nat
  b : Nat
  c : Nat
  d : Nat
def MassV.cells (m : MassV) : List AVal := [.int .i64 m.at_, .int .i64 m.sh, .cplx .f64 m.a m.b, .cplx .f64 m.c m.d]
def atomsN (l : List RunV) : Nat := (l.map fun x => x.text.length).sum
def shownTx (l : List RunV) : Str := (l.map fun x => if x.shown then x.text else []).flatten
theorem atomsN_append (a b : List RunV) : atomsN (a ++ b) = atomsN a + atomsN b := by simp [atomsN]
theorem shownTx_append (a b : List RunV) : shownTx (a ++ b) = shownTx a ++ shownTx b := by simp [shownTx]
theorem shown_le (l : List RunV) : (shownTx l).length ≤ atomsN l := by
  induction l with
  | nil => simp [shownTx, atomsN]
  | cons x l ih =>
    have h1 : shownTx (x :: l) = (if x.shown then x.text else []) ++ shownTx l := by simp [shownTx]
    have h2 : atomsN (x :: l) = x.text.length + atomsN l := by simp [atomsN]
    rw [h1, h2, List.length_append]
    cases x.shown <;> simp <;> omega
/-- a mass of some runs -/
structure MassOf (l : List RunV) (m : MassV) : Prop where
  at_ : m.at_ = atomsN l
  sh : m.sh = (shownTx l).length
  w : 0 < m.sh → WkR m.a m.b m.c m.d (Wk.text (shownTx l))
theorem MassOf.nil : MassOf [] ⟨0, 0, 0, 0, 0, 0⟩ := ⟨rfl, rfl, fun h => absurd h (by simp)⟩
section
variable {ro : Nat → Option (List AVal)}
theorem rlen_ev {h : AHeap} {x : RunV} {Q : AVal → AHeap → Prop} (hq : Q (.int .i64 x.text.length) h) : Ev (cfgR ro) 61 [.agg x.cells] h Q := by
  refine Ev.wp rfl rfl Tryd.func61 rfl ?_
  simp -implicitDefEqProofs [Tryd.f61, RunV.cells]
  exact hq
theorem measure_ev {h : AHeap} {x : RunV} (hl : x.text.length < 2 ^ 39) {Q : AVal → AHeap → Prop} (hq : ∀ m h', Old h h' → MassOf [x] m → Q (.agg m.cells) h') : Ev (cfgR ro) 143 [.agg x.cells] h Q := by
  refine Ev.wp rfl rfl Tryd.func143 rfl ?_
  obtain ⟨c, r, n, er, en, tx, sh⟩ := x
  simp only at hl
  cases sh with
  | false =>
    have hq := hq ⟨tx.length, 0, 0, 0, 0, 0⟩ h (Old.refl h) ⟨by simp [atomsN], by simp [shownTx], fun h => absurd h (by simp)⟩
    simp only [MassV.cells] at hq
    simp -implicitDefEqProofs [Tryd.f143, RunV.cells]
    refine rlen_ev (x := ⟨c, r, n, er, en, tx, false⟩) ?_
    simp -implicitDefEqProofs
    exact hq
  | true =>
    simp -implicitDefEqProofs [Tryd.f143, RunV.cells]
    refine rlen_ev (x := ⟨c, r, n, er, en, tx, true⟩) ?_
    simp -implicitDefEqProofs
    refine rlen_ev (x := ⟨c, r, n, er, en, tx, true⟩) ?_
    simp -implicitDefEqProofs
    refine wtext_ev hl (fun x y z t h' o hw => ?_)
    have hq := hq ⟨tx.length, tx.length, x, y, z, t⟩ h' o ⟨by simp [atomsN], by simp [shownTx], fun _ => by simpa [shownTx] using hw⟩
    simp only [MassV.cells] at hq
    simp -implicitDefEqProofs
    exact hq
theorem mplus_ev {h : AHeap} {l1 l2 : List RunV} {m1 m2 : MassV} (h1 : MassOf l1 m1) (h2 : MassOf l2 m2) (hl : atomsN l1 + atomsN l2 < 2 ^ 39) {Q : AVal → AHeap → Prop}
    (hq : ∀ m h', Old h h' → MassOf (l1 ++ l2) m → Q (.agg m.cells) h') : Ev (cfgR ro) 150 [.agg m1.cells, .agg m2.cells] h Q := by
  refine Ev.wp rfl rfl Tryd.func150 rfl ?_
  obtain ⟨a1, s1, x1, y1, z1, t1⟩ := m1
  obtain ⟨a2, s2, x2, y2, z2, t2⟩ := m2
  obtain ⟨p1, q1, w1⟩ := h1
  obtain ⟨p2, q2, w2⟩ := h2
  simp only at p1 q1 w1 p2 q2 w2
  have b1 := shown_le l1
  have b2 := shown_le l2
  have wr1 : IntKind.i64.wrap ((a1 : Int) + (a2 : Int)) = ((a1 + a2 : Nat) : Int) := by rw [w64 (by omega) (by omega)]; omega
  have wr2 : IntKind.i64.wrap ((s1 : Int) + (s2 : Int)) = ((s1 + s2 : Nat) : Int) := by rw [w64 (by omega) (by omega)]; omega
  have hat : a1 + a2 = atomsN (l1 ++ l2) := by rw [atomsN_append]; omega
  have hsh : s1 + s2 = (shownTx (l1 ++ l2)).length := by rw [shownTx_append, List.length_append]; omega
  obtain ⟨a3, ha3⟩ : ∃ a3, a3 = a1 + a2 := ⟨_, rfl⟩
  obtain ⟨s3, hs3⟩ : ∃ s3, s3 = s1 + s2 := ⟨_, rfl⟩
  rw [← ha3] at wr1 hat
  rw [← hs3] at wr2 hsh
  by_cases z1' : s1 = 0
  · have hq := hq ⟨a3, s3, x2, y2, z2, t2⟩ h (Old.refl h) ⟨hat, hsh, fun hp => by
      have e1 : shownTx l1 = [] := List.length_eq_zero_iff.1 (by omega)
      simp only [] at hp ⊢
      rw [shownTx_append, e1, List.nil_append]
      exact w2 (by omega)⟩
    simp only [MassV.cells] at hq
    have d0 : decide ((s1 : Int) = 0) = true := decide_eq_true (by omega)
    simp -implicitDefEqProofs [Tryd.f150, MassV.cells, z1', d0]
    rw [z1'] at wr2
    simp at wr2
    simp -implicitDefEqProofs [wr1, wr2]
    exact hq
  · have d0 : decide ((s1 : Int) = 0) = false := decide_eq_false (by omega)
    by_cases z2' : s2 = 0
    · have hq := hq ⟨a3, s3, x1, y1, z1, t1⟩ h (Old.refl h) ⟨hat, hsh, fun hp => by
        have e1 : shownTx l2 = [] := List.length_eq_zero_iff.1 (by omega)
        simp only [] at hp ⊢
        rw [shownTx_append, e1, List.append_nil]
        exact w1 (by omega)⟩
      simp only [MassV.cells] at hq
      have d2 : decide (0 < (s2 : Int)) = false := decide_eq_false (by omega)
      have hp2 : ¬ 0 < s2 := by omega
      have hp3 : decide (0 < s2) = false := decide_eq_false hp2
      simp -implicitDefEqProofs [Tryd.f150, MassV.cells, z1', d0, d2, hp2, hp3, wr1, wr2]
      exact hq
    · have d2 : decide (0 < (s2 : Int)) = true := decide_eq_true (by omega)
      have hp2 : 0 < s2 := by omega
      have hw1 := w1 (by omega)
      have hw2 := w2 (by omega)
      have o2 : Old h (h.push (.row 2 false [.cplx .f64 x2 y2, .cplx .f64 z2 t2])) := (Old.refl h).push _
      have hsl : Sl (cfgR ro) (h.push (.row 2 false [.cplx .f64 x2 y2, .cplx .f64 z2 t2])) 2 (.sl h.next 0 1) [[.cplx .f64 x2 y2, .cplx .f64 z2 t2]] :=
        Mine.sl (h0 := h) ⟨by simp, .inr ⟨h.next, false, rfl, Nat.le_refl _, by simp, by rw [get_push_next]; rfl⟩⟩
      simp -implicitDefEqProofs [Tryd.f150, MassV.cells, z1', d0, d2, hp2, buildSliceR, reps]
      refine then_ev hsl hw1 hw2 (Wk.text_ok _) (Wk.text_ok _) (by omega) (fun x y z t hw => ?_)
      have hq := hq ⟨a3, s3, x, y, z, t⟩ _ o2 ⟨hat, hsh, fun _ => by rw [shownTx_append, Wk.text_append]; exact hw⟩
      simp only [MassV.cells] at hq
      simp -implicitDefEqProofs [wr1, wr2]
      exact hq
end
end Go.Proofs.YthblmlkkmebciaaDoor
set_option linter.all false
set_option maxRecDepth 100000
set_option maxHeartbeats 4000000
namespace Go.Proofs.YthblmlkkmebciaaDoor
open Go Go.RowKit Go.Proofs
def TS : Sig RunV := ⟨RunV.cells, fun l all => ∃ m, MassOf l m ∧ all = m.cells⟩
theorem rs_node (o ht : Nat) (x : RunV) (l r : Rt RunV) : (Rt.node o ht x l r).rs = l.rs ++ x :: r.rs := by simp [Rt.rs, Rt.items]
def Rt.at_ (t : Rt RunV) : Nat := atomsN t.rs
/-- a place, as it stands -/
def nrow (up l r : AVal) (ht sz : Nat) (x : RunV) (m : MassV) : AObj := .row 0 false [up, l, r, .int .u64 ht, .int .i64 sz, .int .u64 x.clock, .int .u16 x.r, .int .u32 x.n, .int .u16 x.er, .int .u32 x.en, .str x.text, .bool x.shown, .int .i64 m.at_, .int .i64 m.sh, .cplx .f64 m.a m.b, .cplx .f64 m.c m.d]
theorem nobj_row (up l r : AVal) (ht sz : Nat) (x : RunV) (m : MassV) : nobj TS up l r ht sz x m.cells = nrow up l r ht sz x m := rfl
theorem at_node {h : AHeap} {up : AVal} {o ht : Nat} {x : RunV} {l r : Rt RunV} : At TS h up (.node o ht x l r) ↔ (∃ m, MassOf (l.rs ++ x :: r.rs) m ∧ h.get o = some (nrow up l.ptr r.ptr ht (l.items.length + 1 + r.items.length) x m)) ∧ At TS h (.ptr o 0) l ∧ At TS h (.ptr o 0) r := by
  constructor
  · rintro ⟨⟨all, ⟨m, hm, rfl⟩, h1⟩, h2⟩
    rw [rs_node] at hm
    exact ⟨⟨m, hm, by rw [← nobj_row]; exact h1⟩, h2⟩
  · rintro ⟨⟨m, hm, h1⟩, h2⟩
    exact ⟨⟨m.cells, ⟨m, by rw [rs_node]; exact hm, rfl⟩, by rw [nobj_row]; exact h1⟩, h2⟩
theorem meth_run : methodR Tryd.prog 40 "Measure" = .ok 143 := by kernel_rfl
theorem meth_mass : methodR Tryd.prog 106 "Plus" = .ok 150 := by kernel_rfl
@[simp] theorem ptr_nil : (Rt.nil : Rt RunV).ptr = .nilp := rfl
theorem ptr_node (o ht : Nat) (x : RunV) (l r : Rt RunV) : (Rt.node o ht x l r).ptr = .ptr o 0 := rfl
@[simp] theorem get_set_self (h : AHeap) (o : Nat) (x : AObj) : (h.set o x).get o = some x := by rw [AHeap.get_set, if_pos rfl]
theorem get_set_ne {h : AHeap} {o q : Nat} {x : AObj} (d : q ≠ o) : (h.set q x).get o = h.get o := by rw [AHeap.get_set, if_neg d.symm]
/-- not too great -/
def Fit (t : Rt RunV) : Prop := t.items.length < 2 ^ 38 ∧ t.at_ < 2 ^ 38
section
variable {ro : Nat → Option (List AVal)}
theorem len_ev {h : AHeap} {up : AVal} {t : Rt RunV} (ha : At TS h up t) {Q : AVal → AHeap → Prop} (hq : Q (.int .i64 t.items.length) h) : Ev (cfgR ro) 88 [t.ptr] h Q := by
  refine Ev.wp rfl rfl Tryd.func88 rfl ?_
  cases t with
  | nil => simp -implicitDefEqProofs [Tryd.f88, Rt.ptr]; simpa [Rt.items] using hq
  | node o ht x l r =>
    obtain ⟨⟨m, hm, h1⟩, _⟩ := at_node.1 ha
    have hl : (Rt.node o ht x l r).items.length = l.items.length + 1 + r.items.length := by simp [Rt.items]; omega
    rw [hl] at hq
    obtain ⟨n, hn⟩ : ∃ n, n = l.items.length + 1 + r.items.length := ⟨_, rfl⟩
    rw [← hn] at h1 hq
    rw [nrow] at h1
    simp -implicitDefEqProofs [Tryd.f88, Rt.ptr, h1]
    exact hq
theorem sum_ev {h : AHeap} {up : AVal} {t : Rt RunV} (ha : At TS h up t) {Q : AVal → AHeap → Prop} (hq : ∀ m, MassOf t.rs m → Q (.agg m.cells) h) : Ev (cfgR ro) 87 [t.ptr] h Q := by
  refine Ev.wp rfl rfl Tryd.func87 rfl ?_
  cases t with
  | nil =>
    have hq := hq _ MassOf.nil
    simp only [MassV.cells] at hq
    simp -implicitDefEqProofs [Tryd.f87, Rt.ptr]; exact hq
  | node o ht x l r =>
    obtain ⟨⟨m, hm, h1⟩, _⟩ := at_node.1 ha
    have hq := hq m (by rw [rs_node]; exact hm)
    simp only [MassV.cells] at hq
    rw [nrow] at h1
    simp -implicitDefEqProofs [Tryd.f87, Rt.ptr, h1]
    exact hq
theorem renew_ev {h : AHeap} {up u1 u2 : AVal} {n ht sz : Nat} {x : RunV} {all : MassV} {l r : Rt RunV} (hn : h.get n = some (nrow up l.ptr r.ptr ht sz x all)) (hl : At TS h u1 l) (hr : At TS h u2 r)
    (hnl : n ∉ l.ids) (hnr : n ∉ r.ids) (hnn : n < h.next) (hll : ∀ o ∈ l.ids, o < h.next) (hlr : ∀ o ∈ r.ids, o < h.next) (hlen : l.items.length + r.items.length < 2 ^ 38) (htx : l.at_ + x.text.length + r.at_ < 2 ^ 38) {Q : AVal → AHeap → Prop}
    (hq : ∀ h' m, MassOf (l.rs ++ x :: r.rs) m → h'.get n = some (nrow up l.ptr r.ptr ht (l.items.length + 1 + r.items.length) x m) → (∀ o, o < h.next → o ≠ n → h'.get o = h.get o) → h.next ≤ h'.next → Q (.tuple []) h') : Ev (cfgR ro) 120 [.ptr n 0] h Q := by
  refine Ev.wp rfl rfl Tryd.func120 rfl ?_
  rw [nrow] at hn
  simp -implicitDefEqProofs [Tryd.f120, hn]
  refine len_ev hl ?_
  simp -implicitDefEqProofs [hn]
  refine len_ev hr ?_
  have e1 : IntKind.i64.wrap ((l.items.length : Int) + 1) = ((l.items.length + 1 : Nat) : Int) := by rw [w64 (by omega) (by omega)]; omega
  obtain ⟨k, hk⟩ : ∃ k, k = l.items.length + 1 := ⟨_, rfl⟩
  rw [← hk] at e1
  have e2 : IntKind.i64.wrap ((k : Int) + r.items.length) = ((l.items.length + 1 + r.items.length : Nat) : Int) := by rw [w64 (by omega) (by omega)]; omega
  obtain ⟨s, hs⟩ : ∃ s, s = l.items.length + 1 + r.items.length := ⟨_, rfl⟩
  rw [← hs] at e2
  simp only [← hs] at hq
  simp -implicitDefEqProofs [hn, e1, e2, same_self]
  obtain ⟨h2, hh2⟩ : ∃ h2, h2 = h.set n (nrow up l.ptr r.ptr ht s x all) := ⟨_, rfl⟩
  have hh2' := hh2
  rw [nrow] at hh2'
  rw [← hh2']
  have hn2 : h2.get n = some (nrow up l.ptr r.ptr ht s x all) := by rw [hh2, get_set_self]
  have n2 : h2.next = h.next := by rw [hh2]; rfl
  have hl2 : At TS h2 u1 l := At.congr (fun o ho => by rw [hh2, get_set_ne (fun e => hnl (by rw [e]; exact ho))]) hl
  have hr2 : At TS h2 u2 r := At.congr (fun o ho => by rw [hh2, get_set_ne (fun e => hnr (by rw [e]; exact ho))]) hr
  have k2 : ∀ o, o ≠ n → h2.get o = h.get o := fun o ho => by rw [hh2, get_set_ne (Ne.symm ho)]
  rw [nrow] at hn2
  refine sum_ev hl2 (fun m1 hm1 => ?_)
  simp -implicitDefEqProofs [hn2, undR, Tryd.underlying40, Tryd.underlying106, meth_run, meth_mass]
  refine measure_ev (x := x) (by omega) (fun m2 h3 o3 hm2 => ?_)
  have hn3 := hn2
  rw [← o3.2 n (by rw [n2]; exact hnn)] at hn3
  simp -implicitDefEqProofs [hn2, hn3, undR, Tryd.underlying40, Tryd.underlying106, meth_run, meth_mass, same_self]
  refine mplus_ev hm1 hm2 (by show l.at_ + _ < _; simp [atomsN]; omega) (fun m3 h4 o4 hm3 => ?_)
  have o24 := o3.trans o4
  have hn4 := hn2
  rw [← o24.2 n (by rw [n2]; exact hnn)] at hn4
  simp -implicitDefEqProofs [hn2, hn3, hn4, undR, Tryd.underlying40, Tryd.underlying106, meth_run, meth_mass, same_self]
  have hr4 : At TS h4 u2 r := At.congr (fun o ho => o24.2 o (by rw [n2]; exact hlr o ho)) hr2
  refine sum_ev hr4 (fun m5 hm5 => ?_)
  simp -implicitDefEqProofs [hn2, hn3, hn4, undR, Tryd.underlying40, Tryd.underlying106, meth_run, meth_mass, same_self]
  refine mplus_ev hm3 hm5 (by rw [atomsN_append]; show l.at_ + _ + r.at_ < _; simp [atomsN]; omega) (fun m6 h6 o6 hm6 => ?_)
  have o26 := o24.trans o6
  have hn6 := hn2
  rw [← o26.2 n (by rw [n2]; exact hnn)] at hn6
  simp -implicitDefEqProofs [hn2, hn3, hn4, hn6, MassV.cells, same_self, get_set_self]
  refine hq (h6.set n (nrow up l.ptr r.ptr ht s x m6)) m6 (by rw [List.append_assoc] at hm6; exact hm6) (get_set_self _ _ _) (fun o ho hne => ?_) (by have := o26.1; rw [n2] at this; exact this)
  rw [get_set_ne (Ne.symm hne), o26.2 o (by rw [n2]; exact ho), k2 o hne]
end
end Go.Proofs.YthblmlkkmebciaaDoor
set_option linter.all false
set_option maxRecDepth 100000
set_option maxHeartbeats 4000000
namespace Go.Proofs.YthblmlkkmebciaaDoor
open Go Go.RowKit Go.Proofs
/-- a place whose own sums, and those above, may be stale -/
def Stl (h : AHeap) (c : List (Frm RunV)) (n ht : Nat) (x : RunV) (l r : Rt RunV) : Prop :=
  (∃ sz all, h.get n = some (nrow (upOf c) l.ptr r.ptr ht sz x all)) ∧ At TS h (.ptr n 0) l ∧ At TS h (.ptr n 0) r ∧ CA TS h c (.ptr n 0)
theorem Stl.up {h : AHeap} {f : Frm RunV} {c : List (Frm RunV)} {t : Rt RunV} (ha : At TS h (.ptr f.o 0) t) (hc : CA TS h (f :: c) t.ptr) : ∃ l r, plug1 f t = .node f.o f.ht f.x l r ∧ Stl h c f.o f.ht f.x l r := by
  obtain ⟨⟨sz, all, ⟨q, m, hq, rfl⟩, h1⟩, h2, h3⟩ := hc
  rw [nobj_row] at h1
  unfold plug1
  cases hf : f.left with
  | true =>
    have e1 : lptr f t.ptr = t.ptr := by simp only [lptr, hf]
    have e2 : rptr' f t.ptr = f.sib.ptr := by simp only [rptr', hf]
    rw [e1, e2] at h1
    exact ⟨_, _, rfl, ⟨sz, _, h1⟩, ha, h2, h3⟩
  | false =>
    have e1 : lptr f t.ptr = f.sib.ptr := by simp only [lptr, hf]
    have e2 : rptr' f t.ptr = t.ptr := by simp only [rptr', hf]
    rw [e1, e2] at h1
    exact ⟨_, _, rfl, ⟨sz, _, h1⟩, h2, ha, h3⟩
theorem plug_at (c : List (Frm RunV)) (t : Rt RunV) : (plug c t).at_ = atomsN ((bef c).map (·.2)) + t.at_ + atomsN ((aft c).map (·.2)) := by simp [Rt.at_, Rt.rs, plug_items, atomsN_append, Nat.add_assoc]
theorem at_node_n (o ht : Nat) (x : RunV) (l r : Rt RunV) : (Rt.node o ht x l r).at_ = l.at_ + x.text.length + r.at_ := by
  unfold Rt.at_
  rw [rs_node, atomsN_append]
  simp [atomsN]; omega
theorem Fit.sub {c : List (Frm RunV)} {t : Rt RunV} (h : Fit (plug c t)) : Fit t := by
  unfold Fit at *
  rw [plug_items, plug_at] at h
  simp at h
  exact ⟨by omega, by omega⟩
theorem Fit.node {o ht : Nat} {x : RunV} {l r : Rt RunV} (h : Fit (.node o ht x l r)) : l.items.length + r.items.length < 2 ^ 38 ∧ l.at_ + x.text.length + r.at_ < 2 ^ 38 := by
  unfold Fit at h
  rw [at_node_n, items_node] at h
  simp at h
  exact ⟨by omega, by omega⟩
section
variable {ro : Nat → Option (List AVal)}
theorem climb_ev {h : AHeap} {c : List (Frm RunV)} {n ht : Nat} {x : RunV} {l r : Rt RunV} (hs : Stl h c n ht x l r) (hnd : (plug c (.node n ht x l r)).ids.Nodup) (hlt : ∀ o ∈ (plug c (.node n ht x l r)).ids, o < h.next) (hfit : Fit (plug c (.node n ht x l r))) {Q : AVal → AHeap → Prop}
    (hq : ∀ h', At TS h' .nilp (plug c (.node n ht x l r)) → (∀ o, o < h.next → o ∉ (plug c (.node n ht x l r)).ids → h'.get o = h.get o) → h.next ≤ h'.next → Q (.tuple []) h') : Ev (cfgR ro) 107 [.ptr n 0] h Q := by
  obtain ⟨W, hW⟩ : ∃ W, W = plug c (.node n ht x l r) := ⟨_, rfl⟩
  rw [← hW] at hq hnd hfit hlt
  refine Ev.wp rfl rfl Tryd.func107 rfl ?_
  simp -implicitDefEqProofs [Tryd.f107]
  obtain ⟨I, hI⟩ : ∃ I : Nat → List AVal → AHeap → Prop, I = fun m env h' => (∀ o, o < h.next → o ∉ W.ids → h'.get o = h.get o) ∧ h.next ≤ h'.next ∧
      ((m = 0 ∧ At TS h' .nilp W ∧ env = [.nilp, .dead, .dead, .dead, .dead, .dead, .dead, .dead, .dead, .dead]) ∨ ∃ c n ht x l r, m = c.length + 1 ∧ W = plug c (.node n ht x l r) ∧ Stl h' c n ht x l r ∧ env = [.ptr n 0, .dead, .dead, .dead, .dead, .dead, .dead, .dead, .dead, .dead]) := ⟨_, rfl⟩
  refine loop_of I ?_ (c.length + 1) (by rw [hI]; exact ⟨fun _ _ _ => rfl, Nat.le_refl _, .inr ⟨c, n, ht, x, l, r, rfl, hW, hs, rfl⟩⟩)
  rintro m env h' hi
  rw [hI] at hi
  obtain ⟨hfr, hnx, ⟨rfl, hat, rfl⟩ | ⟨c, n, ht, x, l, r, rfl, hW, hs, rfl⟩⟩ := hi
  · simp -implicitDefEqProofs
    exact hq _ hat hfr hnx
  · simp -implicitDefEqProofs
    obtain ⟨⟨sz, all, hn⟩, hl, hr, hc⟩ := hs
    rw [hW] at hnd hfit
    have hlt' : ∀ o ∈ (plug c (.node n ht x l r)).ids, o < h'.next := fun o ho => Nat.lt_of_lt_of_le (hlt o (by rw [hW]; exact ho)) hnx
    obtain ⟨nd1, nd2⟩ := apart_tree hnd
    obtain ⟨_, _, hnl, hnr, hlr⟩ := apart_node nd1
    obtain ⟨f1, f2⟩ := hfit.sub.node
    have hnn : n < h'.next := hlt' n (plug_mem.2 (.inl (by rw [ids_node]; simp)))
    have hll : ∀ o ∈ l.ids, o < h'.next := fun o ho => hlt' o (plug_mem.2 (.inl (by rw [ids_node]; simp [ho])))
    have hlr' : ∀ o ∈ r.ids, o < h'.next := fun o ho => hlt' o (plug_mem.2 (.inl (by rw [ids_node]; simp [ho])))
    have hlc : ∀ o ∈ cids c, o < h'.next := fun o ho => hlt' o (plug_mem.2 (.inr ho))
    refine renew_ev hn hl hr hnl hnr hnn hll hlr' f1 f2 (fun h2 m2 hm2 g1 g2 g3 => ?_)
    have hat : At TS h2 (upOf c) (.node n ht x l r) := at_node.2 ⟨⟨m2, hm2, g1⟩, At.congr (fun o ho => g2 o (hll o ho) (fun e => hnl (by rw [← e]; exact ho))) hl, At.congr (fun o ho => g2 o (hlr' o ho) (fun e => hnr (by rw [← e]; exact ho))) hr⟩
    have hca : CA TS h2 c (.ptr n 0) := CA.congr (fun o ho => g2 o (hlc o ho) (fun e => nd2 n (by rw [ids_node]; simp) (by rw [← e]; exact ho))) hc
    have hfr2 : ∀ o, o < h.next → o ∉ W.ids → h2.get o = h.get o := fun o hon ho => by
      rw [g2 o (Nat.lt_of_lt_of_le hon hnx) (fun e => ho (by rw [hW, plug_mem, ids_node, e]; simp)), hfr o hon ho]
    rw [nrow] at g1
    simp -implicitDefEqProofs [g1]
    cases c with
    | nil =>
      simp -implicitDefEqProofs [upOf]
      exact .mk (m := 0) (by simp) (by rw [hI]; exact ⟨hfr2, Nat.le_trans hnx g3, .inl ⟨rfl, by rw [hW]; exact hat, rfl⟩⟩)
    | cons f c =>
      obtain ⟨l2, r2, e1, e2⟩ := Stl.up (t := .node n ht x l r) hat hca
      simp -implicitDefEqProofs [upOf]
      exact .mk (m := c.length + 1) (by simp) (by rw [hI]; exact ⟨hfr2, Nat.le_trans hnx g3, .inr ⟨c, f.o, f.ht, f.x, l2, r2, rfl, by rw [hW, plug, e1], e2, rfl⟩⟩)
end
end Go.Proofs.YthblmlkkmebciaaDoor
set_option linter.all false
set_option maxRecDepth 100000
set_option maxHeartbeats 4000000
namespace Go.Proofs.YthblmlkkmebciaaDoor
open Go Go.RowKit Go.Proofs
/-- what stands in and below a frame's place, with `it` in its hole -/
def itf (f : Frm RunV) (it : List (Nat × RunV)) : List (Nat × RunV) := match f.left with
  | true => it ++ (f.o, f.x) :: f.sib.items
  | false => f.sib.items ++ (f.o, f.x) :: it
/-- a way up whose sums are those of `it` in the hole -/
def CX (h : AHeap) : List (Frm RunV) → List (Nat × RunV) → AVal → Prop
  | [], _, _ => True
  | f :: c, it, p => (∃ m, MassOf ((itf f it).map (·.2)) m ∧ h.get f.o = some (nrow (upOf c) (lptr f p) (rptr' f p) f.ht (itf f it).length f.x m)) ∧ At TS h (.ptr f.o 0) f.sib ∧ CX h c (itf f it) (.ptr f.o 0)
theorem CX.congr {h h' : AHeap} : ∀ {c : List (Frm RunV)} {it : List (Nat × RunV)} {p : AVal}, (∀ o ∈ cids c, h'.get o = h.get o) → CX h c it p → CX h' c it p
  | [], _, _, _, _ => trivial
  | f :: c, it, p, hg, ha => by
    obtain ⟨⟨m, hm, h1⟩, h2, h3⟩ := ha
    exact ⟨⟨m, hm, by rw [hg f.o (cids_cons.2 (.inl rfl))]; exact h1⟩, At.congr (fun q hq => hg q (cids_cons.2 (.inr (.inl hq)))) h2, CX.congr (fun q hq => hg q (cids_cons.2 (.inr (.inr hq)))) h3⟩
theorem CX.ca {h : AHeap} : ∀ {c : List (Frm RunV)} {it : List (Nat × RunV)} {p : AVal}, CX h c it p → CA TS h c p
  | [], _, _, _ => trivial
  | f :: c, it, p, ⟨⟨m, hm, h1⟩, h2, h3⟩ => ⟨⟨_, _, ⟨(itf f it).map (fun x => x.2), m, hm, rfl⟩, by rw [h1]; rfl⟩, h2, CX.ca h3⟩
theorem itf_items (f : Frm RunV) (t : Rt RunV) : itf f t.items = (plug1 f t).items := by
  unfold itf plug1
  cases f.left <;> rfl
theorem CX.join {h : AHeap} : ∀ {c : List (Frm RunV)} {t : Rt RunV}, At TS h (upOf c) t → CX h c t.items t.ptr → At TS h .nilp (plug c t)
  | [], t, ha, _ => ha
  | f :: c, t, ha, ⟨⟨m, hm, h1⟩, h2, h3⟩ => by
    rw [itf_items] at hm h1 h3
    unfold plug
    refine CX.join (c := c) (t := plug1 f t) ?_ ?_
    · unfold plug1 at hm h1 ⊢
      cases hf : f.left with
      | true =>
        have e1 : lptr f t.ptr = t.ptr := by simp only [lptr, hf]
        have e2 : rptr' f t.ptr = f.sib.ptr := by simp only [rptr', hf]
        rw [hf] at hm h1
        simp only at hm h1 ⊢
        rw [e1, e2] at h1
        refine at_node.2 ⟨⟨m, by rw [← rs_node f.o f.ht]; exact hm, ?_⟩, ha, h2⟩
        rw [h1, Rt.items, List.length_append, List.length_cons]
        congr 2; omega
      | false =>
        have e1 : lptr f t.ptr = f.sib.ptr := by simp only [lptr, hf]
        have e2 : rptr' f t.ptr = t.ptr := by simp only [rptr', hf]
        rw [hf] at hm h1
        simp only at hm h1 ⊢
        rw [e1, e2] at h1
        refine at_node.2 ⟨⟨m, by rw [← rs_node f.o f.ht]; exact hm, ?_⟩, h2, ha⟩
        rw [h1, Rt.items, List.length_append, List.length_cons]
        congr 2; omega
    · have hp : (plug1 f t).ptr = .ptr f.o 0 := by unfold plug1; cases f.left <;> rfl
      rw [hp]; exact h3
theorem CX.split {h : AHeap} : ∀ {c : List (Frm RunV)} {t : Rt RunV}, At TS h .nilp (plug c t) → At TS h (upOf c) t ∧ CX h c t.items t.ptr
  | [], t, ha => ⟨ha, trivial⟩
  | f :: c, t, ha => by
    obtain ⟨h1, h2⟩ := CX.split (c := c) (t := plug1 f t) ha
    have hp : (plug1 f t).ptr = .ptr f.o 0 := by unfold plug1; cases f.left <;> rfl
    rw [hp] at h2
    rw [← itf_items] at h2
    unfold plug1 at h1
    cases hf : f.left with
    | true =>
      have e1 : lptr f t.ptr = t.ptr := by simp only [lptr, hf]
      have e2 : rptr' f t.ptr = f.sib.ptr := by simp only [rptr', hf]
      rw [hf] at h1
      obtain ⟨⟨m, hm, a1⟩, a2, a3⟩ := at_node.1 h1
      refine ⟨a2, ⟨m, ?_, ?_⟩, a3, h2⟩
      · rw [itf_items]; unfold plug1; rw [hf]; simp only []
        show MassOf (Rt.node f.o f.ht f.x t f.sib).rs m
        rw [rs_node]; exact hm
      · rw [e1, e2, a1, itf_items]
        unfold plug1
        rw [hf]
        simp only [Rt.items, List.length_append, List.length_cons]
        congr 2; omega
    | false =>
      have e1 : lptr f t.ptr = f.sib.ptr := by simp only [lptr, hf]
      have e2 : rptr' f t.ptr = t.ptr := by simp only [rptr', hf]
      rw [hf] at h1
      obtain ⟨⟨m, hm, a1⟩, a2, a3⟩ := at_node.1 h1
      refine ⟨a3, ⟨m, ?_, ?_⟩, a2, h2⟩
      · rw [itf_items]; unfold plug1; rw [hf]; simp only []
        show MassOf (Rt.node f.o f.ht f.x f.sib t).rs m
        rw [rs_node]; exact hm
      · rw [e1, e2, a1, itf_items]
        unfold plug1
        rw [hf]
        simp only [Rt.items, List.length_append, List.length_cons]
        congr 2; omega
end Go.Proofs.YthblmlkkmebciaaDoor
