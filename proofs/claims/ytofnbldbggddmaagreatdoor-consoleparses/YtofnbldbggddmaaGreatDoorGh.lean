/-
  A part of the proof of ConsoleParses, over the seat YtofnbldbggddmaaGreatDoor: for every input the law returns true, and the input reads as it did.
-/
import Derived.Test.YtofnbldbggddmaaGreatDoorGe
import Derived.Shelf.Strings.Builder1
import Derived.Test.YtofnbldbggddmaaGreatDoorChecked
set_option linter.all false
set_option linter.all false
namespace Go.Proofs
open Go Go.Shelf Go.RowKit
variable {P : Program} {ρ : Ren}

theorem wpList_append_runI (w : World) {ops : Array Oper} {rest : List Oper} {o : Oper} {a : Act} {Q : Exit → Act → World → Prop} (hgd : o.guard = none) (s x : Operand) (t t' : TypeId)
    (ho : o.op = .call { callee := .builtin .append, args := #[s, x], argTypes := #[t, t'] }) (v u : Value) (hs : a.eval s = v) (hx : a.eval x = u) {v' : Value} {w' : World}
    (hr : (Builtin.append_ #[t, t'] o.type #[v, u]).run P w = .ok v' w') (h : wpList P ops Q rest (a.put o.dst v') w') : wpList P ops Q (o :: rest) a w :=
  wpList_plain hgd fun _ hK => by
    unfold Oper.wp execOp
    simp only [ho, resolve, invoke, builtin, Sem.run_bind, Sem.run_pure, Result.andThen_ok, List.map_toArray, List.map_cons, List.map_nil, hs, hx, hr]
    exact hK _ _ h

set_option maxHeartbeats 2000000 in
set_option maxRecDepth 100000 in
/-- WriteString, to the letter -/
theorem bld_write (L : Lays.n166 P ρ) (X : Builder.Extra P ρ) (b : Nat) (p v : Value) (s : ByteArray) (w : World) (hbk : w.heap[b]? = some (.cells #[p, v] (ρ.t 72) (0, 0))) (hp : p = .pointer none ∨ p = .pointer (some ⟨b, 0, none⟩))
    (Post : World → Value → World → Prop)
    (hap : ∀ w1, (w1 = w ∨ w1 = w.setCell ⟨b, 0, none⟩ (.pointer (some ⟨b, 0, none⟩))) → w1.heap[b]? = some (.cells #[.pointer (some ⟨b, 0, none⟩), v] (ρ.t 72) (0, 0)) →
      ∃ v' w2, (Builtin.append_ #[ρ.t 37, ρ.t 9] (ρ.t 37) #[v, .string s]).run P w1 = .ok v' w2 ∧ w2.heap[b]? = some (.cells #[.pointer (some ⟨b, 0, none⟩), v] (ρ.t 72) (0, 0)) ∧ (∃ a n c, v' = .slice a n c) ∧ Post w1 v' w2) :
    Calls P (ρ.f 166) #[.pointer (some ⟨b, 0, none⟩), .string s] w fun e w' => e = .returned (.tuple #[.int .i64 s.size, .nilIface]) ∧ ∃ w1 v' w2, (w1 = w ∨ w1 = w.setCell ⟨b, 0, none⟩ (.pointer (some ⟨b, 0, none⟩))) ∧ w1.heap[b]? = some (.cells #[.pointer (some ⟨b, 0, none⟩), v] (ρ.t 72) (0, 0)) ∧ Post w1 v' w2 ∧ w' = w2.setCell ⟨b, 1, none⟩ v' := by
  have hcc : Calls P (ρ.f 240) #[.pointer (some ⟨b, 0, none⟩)] w fun e w1 => e = .returned (.tuple #[]) ∧ (w1 = w ∨ w1 = w.setCell ⟨b, 0, none⟩ (.pointer (some ⟨b, 0, none⟩))) ∧ w1.heap[b]? = some (.cells #[.pointer (some ⟨b, 0, none⟩), v] (ρ.t 72) (0, 0)) := by
    rcases hp with rfl | rfl
    · refine (Any.Builder_copyCheck_fresh { L with } X.toX72 b w (by rw [Lib.cell_of_heap hbk]; rfl) (by simp [World.shape?, hbk]) (by simp [World.frozen?, hbk])).mono ?_
      rintro e w' ⟨rfl, rfl⟩
      refine ⟨rfl, .inr rfl, ?_⟩
      rw [heap_setCell_same w b 0 _ _ _ hbk]; rfl
    · refine (Any.Builder_copyCheck_used { L with } X.toX72 b w (by rw [Lib.cell_of_heap hbk]; rfl)).mono ?_
      rintro e w' ⟨rfl, rfl⟩
      exact ⟨rfl, .inl rfl, hbk⟩
  have mixed := L.mixed
  have t72 := L.t72; have a72 := L.a72; have z72 := L.z72; have v72 := L.v72; have u72 := run_underlying L.t72
  have t70 := L.t70; have a70 := L.a70; have z70 := L.z70; have v70 := L.v70; have u70 := run_underlying L.t70
  have t37 := L.t37; have a37 := L.a37; have z37 := L.z37; have v37 := L.v37; have u37 := run_underlying L.t37
  have t3 := L.t3; have a3 := L.a3; have z3 := L.z3; have v3 := L.v3; have u3 := run_underlying L.t3
  have t9 := L.t9; have a9 := L.a9; have z9 := L.z9; have v9 := L.v9; have u9 := run_underlying L.t9
  have t4 := L.t4; have a4 := L.a4; have z4 := L.z4; have v4 := L.v4; have u4 := run_underlying L.t4
  have t164 := L.t164; have a164 := L.a164; have z164 := L.z164; have v164 := L.v164; have u164 := run_underlying L.t164
  have t5 := X.t5; have a5 := X.a5; have z5 := X.z5; have v5 := X.v5; have u5 := run_underlying X.t5
  have e240 : ∀ args w, (callFunc (ρ.f 240) args).run P w = .ok (.enter (ρ.f 240) args) w := enters_of L.f240 (by kernel_rfl) rfl
  go_enter L.f166, Body.n166_ntmps ρ
  go_wp2_with (go_at_fn (ρ.f 240); refine hcc.mono ?_)
  rintro e w1 ⟨rfl, hw1, hb1⟩
  obtain ⟨v', w2, hrun, hb2, ⟨ao, n', cap, rfl⟩, hpost⟩ := hap w1 hw1 hb1
  have c1 : w1.cell? ⟨b, 1, none⟩ = some v := by rw [Lib.cell_of_heap hb1]; rfl
  have d1 : w2.cell? ⟨b, 1, none⟩ = some v := by rw [Lib.cell_of_heap hb2]; rfl
  have f1 : w2.frozen? ⟨b, 1, none⟩ = false := Lib.frozen_of_heap hb2 1
  go_wp2_with (at_builtin; refine wpList_append_runI _ rfl _ _ (ρ.t 37) (ρ.t 9) rfl v (.string s) rfl rfl hrun ?_)
  go_ret2
  exact ⟨rfl, w1, _, w2, hw1, hb1, hpost, rfl⟩
end Go.Proofs
namespace Go.Proofs.YtofnbldbggddmaaGreatDoor
open Go Go.Shelf Go.RowKit Go.Proofs
section
variable {F : Fix} {ι : Inj} {h : AHeap} {w : World}
/-- an object lies elsewhere now, or is told otherwise -/
theorem Rel.moveG (r : Rel F ι h w) (fr : Fresh ι h.next (h.next + 1)) {o : Nat} {x y : AObj} {e e' : Ent} (ho : h.get o = some x) (he : ι o = some e)
    {w' : World} (hk : Keep (fun b => b = e.blk) w w') (hb : e'.blk = e.blk) (hx : ObjRel ι F.ρ w' e' y) :
    Rel F (upd ι h.next e') ((h.del o).push y) w' ∧ Step ι h w (upd ι h.next e') ((h.del o).push y) w' := by
  have hnone : ι h.next = none := fr _ (Nat.le_refl _) (Nat.lt_succ_self _)
  have hs := upd_sub (o := h.next) e' hnone
  obtain ⟨e0, h1, h2, h3⟩ := r.obj o _ ho
  rw [he] at h1; cases h1
  have hkeep : Keep (Own ι h) w w' := hk.mono fun j _ hj => ⟨o, _, e, ho, he, hj.symm⟩
  have hobj : ∀ p z, ((h.del o).push y).get p = some z → (p = h.next ∧ z = y) ∨ (p ≠ h.next ∧ p ≠ o ∧ h.get p = some z) := by
    intro p z hp
    rw [AHeap.get_push, AHeap.get_del] at hp
    split at hp
    · rename_i hpn; left; simp at hp; exact ⟨hpn, hp.symm⟩
    · rename_i hpn
      split at hp
      · cases hp
      · rename_i hpo; exact .inr ⟨hpn, hpo, hp⟩
  refine ⟨⟨hkeep.below r.below (Nat.le_refl _) r.own_ge, ?_, ?_, ?_⟩, ⟨hs, ?_, by simp, hkeep, ?_⟩⟩
  · intro p z hp
    rcases hobj p z hp with ⟨rfl, rfl⟩ | ⟨hne, hno, hp'⟩
    · exact ⟨_, upd_self _ _ _, by rw [hb]; exact h2, hx.mono hs rfl⟩
    · obtain ⟨f, f1, f2, f3⟩ := r.obj p z hp'
      refine ⟨f, by simp [upd, hne, f1], f2, f3.mono hs (hk.block _ f3.lt fun hb' => hno (r.inj p o _ _ f e hp' ho f1 he hb'))⟩
  · intro p p' z z' f f' a1 a2 a3 a4 a5
    rcases hobj p z a1 with ⟨rfl, rfl⟩ | ⟨hne, hno, a1'⟩ <;> rcases hobj p' z' a2 with ⟨h6, h7⟩ | ⟨hne', hno', a2'⟩
    · exact h6.symm
    · exfalso
      rw [upd_self] at a3; cases a3
      simp [upd, hne'] at a4
      exact hno' (r.inj p' o _ _ f' e a2' ho a4 he (by rw [← a5, hb]))
    · exfalso
      subst h6
      rw [upd_self] at a4; cases a4
      simp [upd, hne] at a3
      exact hno (r.inj p o _ _ f e a1' ho a3 he (by rw [a5, hb]))
    · simp [upd, hne] at a3
      simp [upd, hne'] at a4
      exact r.inj p p' z z' f f' a1' a2' a3 a4 a5
  · intro p z hp
    rcases hobj p z hp with ⟨rfl, rfl⟩ | ⟨_, _, hp'⟩
    · simp
    · have := r.lt p z hp'; simp; omega
  · intro p
    by_cases hp : p = h.next
    · subst hp; right; right; simp
    · right; left; simp [upd, hp]
  · rintro b ⟨p, z, f, a1, a2, rfl⟩
    left
    rcases hobj p z a1 with ⟨rfl, rfl⟩ | ⟨hne, _, a1'⟩
    · rw [upd_self] at a2; cases a2; exact ⟨o, _, e, ho, he, hb.symm⟩
    · exact ⟨p, z, f, a1', by simpa [upd, hne] using a2, rfl⟩

theorem Keep.setCell (w : World) (g i : Nat) (v : Value) : Keep (fun b => b = g) w (w.setCell ⟨g, i, none⟩ v) :=
  ⟨rfl, rfl, rfl, by simp [World.setCell], fun k _ hk => heap_setCell_other w _ k v hk⟩

def bytesA (s : List UInt8) : List AVal := s.map fun b => .int .u8 b.toNat

/-- WriteString -/
def bldWrite (T72 T5 : Nat) : Prim := fun args h =>
  match args with
  | [.ptr o 0, .str s] => match h.get o with
    | some (.bld T none) => if T ≠ T72 ∨ 2 ^ 40 < s.length then .err 420 else
      if s = [] then .ok (.tuple [.int .i64 (s.length : Nat), .nili], (h.set o (.bld T none)).set o (.bld T none))
      else .ok (.tuple [.int .i64 (s.length : Nat), .nili], ((h.set o (.bld T none)).push (.buf T5 s)).set o (.bld T (some (h.next, s.length))))
    | some (.bld T (some (q, n))) => match h.get q with
      | some (.buf T' bs) => if T ≠ T72 ∨ T' ≠ T5 ∨ bs.length ≠ n ∨ q = o ∨ 2 ^ 40 < n + s.length then .err 421 else
        .ok (.tuple [.int .i64 (s.length : Nat), .nili], (((h.set o (.bld T (some (q, n)))).del q).push (.buf T5 (bs ++ s))).set o (.bld T (some (h.next, n + s.length))))
      | _ => .err 422
    | _ => .err 423
  | _ => .err 424

/-- String -/
def bldString (T72 T5 : Nat) : Prim := fun args h =>
  match args with
  | [.ptr o 0] => match h.get o with
    | some (.bld T none) => if T ≠ T72 then .err 430 else .ok (.str [], h.del o)
    | some (.bld T (some (q, n))) => match h.get q with
      | some (.buf T' bs) => if T ≠ T72 ∨ T' ≠ T5 ∨ bs.length ≠ n ∨ q = o ∨ n = 0 ∨ 2 ^ 40 < n then .err 431 else .ok (.str bs, (h.del o).del q)
      | _ => .err 432
    | _ => .err 433
  | _ => .err 434
theorem str_cells (ok : F.Ok) (r : Rel F ι h w) (s : List UInt8) : ∃ arr : Array Value, (∀ d, (Builtin.firstCells 1 s.length (.string ⟨s.toArray⟩)).run F.c.P { w with drawn := d } = .ok arr { w with drawn := d }) ∧
    arr.size = s.length ∧ (∀ (j : Nat) (b : UInt8), s[j]? = some b → arr[j]? = some (.int .u8 b.toNat)) ∧ ∀ v ∈ arr.toList, oneC v = true := by
  obtain ⟨arr, a1, a2, a3⟩ := readSl_ok ok r (size := 1) (n := s.length) (len := s.length) (x := .str s) (cs := s.map fun b => .int .u8 b.toNat) (xv := .string ⟨s.toArray⟩) (by simp [readSl]) rfl rfl (Nat.le_refl _)
  have hl : arr.size = s.length := by have := a2.length; simp at this; omega
  refine ⟨arr, a1, hl, fun j b hj => ?_, a3⟩
  obtain ⟨v, v1, v2⟩ := a2.get (j := j) (a := .int .u8 b.toNat) (by simp [hj])
  simp only [VRel] at v2; subst v2
  simpa using v1

/-- a string, put behind a buffer that has no room for it -/
theorem app_new_buf (ok : F.Ok) (r : Rel F ι h w) (fr : Fresh ι h.next (h.next + 1)) {T37 T9 T5 : Nat} (hu : F.c.P.underlying T37 = some (.slice T5)) (h9 : notMake F.c.P (some T9) = .ok ()) {i : TypeInfo} (hi : F.c.P.info? T5 = some i) (hsz : i.size = 1) (hby : i.bytes = 1)
    (hz : ∀ w, (zeroValue T5).run F.c.P w = .ok (.int .u8 0) w) {base : Option Addr} {cap : Nat} {bs s : List UInt8} {oa : Array Value} (ho : ∀ d, (Builtin.firstCells 1 bs.length (.slice base bs.length cap)).run F.c.P { w with drawn := d } = .ok oa { w with drawn := d })
    (ho1 : oa.size = bs.length) (ho2 : ∀ (j : Nat) (b : UInt8), bs[j]? = some b → oa[j]? = some (.int .u8 b.toNat)) (ho3 : ∀ v ∈ oa.toList, oneC v = true) (hle : ¬ bs.length + s.length ≤ cap) (hlim : bs.length + s.length ≤ 2 ^ 40) :
    ∃ cap' e w2, (Builtin.append_ #[T37, T9] T37 #[.slice base bs.length cap, .string ⟨s.toArray⟩]).run F.c.P w = .ok (.slice (some ⟨e.blk, 0, none⟩) (bs.length + s.length) cap') w2 ∧ e.K = cap' ∧ bs.length + s.length ≤ cap' ∧ e.blk = w.heap.size ∧
      (∀ k, k < w.heap.size → w2.heap[k]? = w.heap[k]?) ∧ Rel F (upd ι h.next e) (h.push (.buf T5 (bs ++ s))) w2 ∧ Step ι h w (upd ι h.next e) (h.push (.buf T5 (bs ++ s))) w2 := by
  obtain ⟨arr, a1, a2, a3, a4⟩ := str_cells ok r s
  have hroom : ¬ (281474976710656 < Builtin.nextslicecap (bs.length + s.length) cap * i.bytes) := by
    have := nextcap_le (bs.length + s.length) cap (by omega)
    rw [hby]; omega
  obtain ⟨nc, n1, n2⟩ := append_new (P := F.c.P) (w := w) (ts := #[T37, T9]) (ty := T37) (t := T37) (e := T5) rfl hu hi (by exact h9) (base := base) (sLen := bs.length) (sCap := cap) (n := s.length) (x := .string ⟨s.toArray⟩) (cs := arr) (old := oa) (z := .int .u8 0)
    (lenA_ok (ι := ι) (x := .str s) rfl rfl) hle (by omega) hroom (by rw [hsz]; exact a1) (by rw [hsz]; exact ho) hz
  have hzs : (Builtin.zeroCells (Value.int .u8 0).cells (nc - (bs.length + s.length))).size = nc - (bs.length + s.length) := by simp [Builtin.zeroCells, Value.cells]
  have hcs : (oa ++ arr ++ Builtin.zeroCells (Value.int .u8 0).cells (nc - (bs.length + s.length))).size = nc := by
    rw [Array.size_append, Array.size_append, ho1, a2, hzs]; omega
  obtain ⟨d1, d2⟩ := (r.drawn (w.drawn + 1)).push fr (.cells (oa ++ arr ++ Builtin.zeroCells (Value.int .u8 0).cells (nc - (bs.length + s.length))) T5) (.buf T5 (bs ++ s)) ⟨w.heap.size, 0, nc, 1⟩ rfl
    ⟨_, by simp, rfl, hcs, by simpa using n1, by
      intro v hv
      rw [Array.toList_append, Array.toList_append, List.mem_append, List.mem_append] at hv
      rcases hv with (hv | hv) | hv
      · exact ho3 v hv
      · exact a4 v hv
      · exact zeroCells_ok' (z := .int .u8 0) (by simp [Value.cells, oneC]) _ v hv, by
      intro j b hj
      rw [List.getElem?_append] at hj
      split at hj
      · have := ho2 j b hj
        have hlt := (Array.getElem?_eq_some_iff.1 this).1
        rw [Array.append_assoc, Array.getElem?_append_left hlt]; exact this
      · rename_i hlt
        have := a3 _ b hj
        have hlt2 := (Array.getElem?_eq_some_iff.1 this).1
        rw [Array.append_assoc, Array.getElem?_append_right (by omega), ho1, Array.getElem?_append_left hlt2]; exact this⟩
  refine ⟨nc, ⟨w.heap.size, 0, nc, 1⟩, _, n2, rfl, n1, rfl, fun k hk => by simp [Array.getElem?_push, Nat.ne_of_lt hk], d1, (Step.drawn ι h w _).trans d2⟩
/-- .. and where there is room -/
theorem app_in_buf (ok : F.Ok) (r : Rel F ι h w) (fr : Fresh ι h.next (h.next + 1)) {T37 T9 T5 : Nat} (hu : F.c.P.underlying T37 = some (.slice T5)) (h9 : notMake F.c.P (some T9) = .ok ()) {i : TypeInfo} (hi : F.c.P.info? T5 = some i) (hsz : i.size = 1)
    {q : Nat} {e : Ent} {bs s : List UInt8} (hq : h.get q = some (.buf T5 bs)) (he : ι q = some e) (hle : bs.length + s.length ≤ e.K) :
    ∃ e' w2, (Builtin.append_ #[T37, T9] T37 #[.slice (some ⟨e.blk, 0, none⟩) bs.length e.K, .string ⟨s.toArray⟩]).run F.c.P w = .ok (.slice (some ⟨e'.blk, 0, none⟩) (bs.length + s.length) e.K) w2 ∧ e'.K = e.K ∧ e'.blk = e.blk ∧
      (∀ k, k ≠ e.blk → w2.heap[k]? = w.heap[k]?) ∧ Rel F (upd ι h.next e') ((h.del q).push (.buf T5 (bs ++ s))) w2 ∧ Step ι h w (upd ι h.next e') ((h.del q).push (.buf T5 (bs ++ s))) w2 := by
  obtain ⟨arr, a1, a2, a3, a4⟩ := str_cells ok r s
  obtain ⟨e0, g1, _, c, g2, g3, g4, g5, g6, g7⟩ := r.obj _ _ hq
  rw [he] at g1; cases g1
  have hst := run_storeCells' (P := F.c.P) e.blk bs.length T5 (0, 0) arr.toList 0 c w g2 (.inl (Nat.le_refl _)) (by simp; omega) a4
  have hadd : ((⟨e.blk, 0, none⟩ : Addr).add (bs.length * i.size)) = ⟨e.blk, bs.length, none⟩ := by rw [add_none, hsz]; simp
  have happ := append_in (P := F.c.P) (w := w) (ts := #[T37, T9]) (ty := T37) (t := T37) (e := T5) rfl hu hi (by exact h9) (a := ⟨e.blk, 0, none⟩) (sLen := bs.length) (sCap := e.K) (n := s.length) (x := .string ⟨s.toArray⟩) (cs := arr)
    (lenA_ok (ι := ι) (x := .str s) rfl rfl) hle (by rw [hsz]; exact a1 w.drawn) (by rw [hadd]; exact hst)
  obtain ⟨row, hrow⟩ : ∃ row, row = (c.toList.take (bs.length + 0) ++ arr.toList ++ c.toList.drop (bs.length + 0 + arr.toList.length)).toArray := ⟨_, rfl⟩
  rw [← hrow] at happ
  have hh := setRow_heap w e.blk c row T5 (0, 0) g2
  have hrs : row.size = e.K := by rw [hrow]; simp; omega
  obtain ⟨d1, d2⟩ := r.moveG fr hq he (Keep.setRow w e.blk row) (e' := e) rfl (y := .buf T5 (bs ++ s)) ⟨row, hh, g3, hrs, by simpa using hle, by
      intro v hv
      rw [hrow] at hv
      simp only [List.mem_append] at hv
      rcases hv with (hv | hv) | hv
      · exact g6 v (List.mem_of_mem_take hv)
      · exact a4 v hv
      · exact g6 v (List.mem_of_mem_drop hv), by
      intro j b hj
      have e1 : row[j]? = (c.toList.take (bs.length + 0) ++ arr.toList ++ c.toList.drop (bs.length + 0 + arr.toList.length))[j]? := by rw [hrow]; simp
      have hlt : (c.toList.take (bs.length + 0)).length = bs.length := by simp; omega
      rw [e1, List.append_assoc]
      rw [List.getElem?_append] at hj
      split at hj
      · rename_i hl
        rw [List.getElem?_append_left (by omega), List.getElem?_take, if_pos (by omega)]
        have := g7 j b hj
        simpa using this
      · rename_i hl
        have := a3 _ b hj
        have hlt2 := (Array.getElem?_eq_some_iff.1 this).1
        rw [List.getElem?_append_right (by omega), hlt, List.getElem?_append_left (by simpa using hlt2)]
        simpa using this⟩
  exact ⟨e, _, happ, rfl, rfl, fun k hk => setRow_other w e.blk k row hk, d1, d2⟩
/-- the last store: the builder has its new buffer -/
theorem bld_fin {H2 : AHeap} {w1 w2 : World} {ι2 : Inj} {h1 : AHeap} {o T N : Nat} {e e' : Ent} {q : Option (Nat × Nat)} {v : Value} {k : Nat} (r2 : Rel F ι2 H2 w2) (s2 : Step ι h1 w1 ι2 H2 w2) (ho : H2.get o = some (.bld T q)) (he : ι2 o = some e) (hb0 : e.base = 0)
    (hb2 : w2.heap[e.blk]? = some (.cells #[.pointer (some ⟨e.blk, 0, none⟩), v] T (0, 0))) (hk : ι2 k = some e') (hN : N ≤ e'.K) :
    Rel F ι2 (H2.set o (.bld T (some (k, N)))) (w2.setCell ⟨e.blk, 1, none⟩ (.slice (some ⟨e'.blk, 0, none⟩) N e'.K)) ∧ Step ι h1 w1 ι2 (H2.set o (.bld T (some (k, N)))) (w2.setCell ⟨e.blk, 1, none⟩ (.slice (some ⟨e'.blk, 0, none⟩) N e'.K)) := by
  obtain ⟨d1, d2⟩ := r2.set (.bld T (some (k, N))) ho he (Keep.setCell w2 e.blk 1 (.slice (some ⟨e'.blk, 0, none⟩) N e'.K))
    ⟨.pointer (some ⟨e.blk, 0, none⟩), .slice (some ⟨e'.blk, 0, none⟩) N e'.K, by rw [heap_setCell_same w2 e.blk 1 _ _ _ hb2]; rfl, hb0, .inr rfl, .inr ⟨k, N, e', e'.K, rfl, hk, rfl, rfl, hN⟩⟩
  exact ⟨d1, s2.trans d2⟩

theorem bldWrite_ok {ρ : Ren} (L : Lays.n166 F.c.P ρ) (X : Builder.Extra F.c.P ρ) (ok : F.Ok) (h9 : notMake F.c.P (some (ρ.t 9)) = .ok ()) : ∀ args h v h', bldWrite (ρ.t 72) (ρ.t 5) args h = .ok (v, h') → h.next ≤ h'.next ∧
    ∀ ι w (av : Array Value), Rel F ι h w → VRels ι F.ρ args av.toList → Fresh ι h.next h'.next → CallTo F.c.P (ρ.f 166) av w (Out F ι h w v h') := by
  intro args h v h' hq
  unfold bldWrite at hq
  obtain ⟨i0, hi, hz0, hz1, hz2⟩ := info_parts X.infoByte
  have hent : ∀ av w, (callFunc (ρ.f 166) av).run F.c.P w = .ok (.enter (ρ.f 166) av) w := enters_of L.f166 (by kernel_rfl) rfl
  split at hq
  rotate_left; · cases hq
  rename_i o s
  split at hq
  · -- a new one
    rename_i T hgo
    split at hq
    · cases hq
    rename_i hc
    obtain ⟨rfl, hlen⟩ : T = ρ.t 72 ∧ s.length ≤ 2 ^ 40 := ⟨Decidable.byContradiction fun hh => hc (.inl hh), Nat.le_of_not_lt fun hh => hc (.inr hh)⟩
    have key : ∀ ι w (av : Array Value), Rel F ι h w → VRels ι F.ρ [.ptr o 0, .str s] av.toList → ∃ e p, av = #[.pointer (some ⟨e.blk, 0, none⟩), .string ⟨s.toArray⟩] ∧ ι o = some e ∧ e.base = 0 ∧ w.heap[e.blk]? = some (.cells #[p, .slice none 0 0] (ρ.t 72) (0, 0)) ∧ (p = .pointer none ∨ p = .pointer (some ⟨e.blk, 0, none⟩)) ∧
        ∀ w1, (w1 = w ∨ w1 = w.setCell ⟨e.blk, 0, none⟩ (.pointer (some ⟨e.blk, 0, none⟩))) → w1.heap[e.blk]? = some (.cells #[.pointer (some ⟨e.blk, 0, none⟩), .slice none 0 0] (ρ.t 72) (0, 0)) → Rel F ι (h.set o (.bld (ρ.t 72) none)) w1 ∧ Step ι h w ι (h.set o (.bld (ρ.t 72) none)) w1 := by
      intro ι w av r ha
      obtain ⟨v1, _, hav, ⟨e, he, rfl⟩, v2, _, rfl, a2, a3⟩ := ha
      simp only [VRels] at a3; subst a3
      simp only [VRel] at a2; subst a2
      obtain ⟨e', g1, _, p, v, g2, g3, g4, g5⟩ := r.obj _ _ hgo
      rw [he] at g1; cases g1
      obtain ⟨_, rfl⟩ : True ∧ v = .slice none 0 0 := ⟨trivial, by rcases g5 with ⟨_, rfl⟩ | ⟨_, _, _, _, hh, _⟩; rfl; cases hh⟩
      refine ⟨e, p, by apply Array.toList_inj.1; rw [hav, g3], he, g3, g2, g4, fun w1 hw1 hb1 => ?_⟩
      have hkp : Keep (fun b => b = e.blk) w w1 := by
        rcases hw1 with rfl | rfl
        · exact Keep.refl _ _
        · exact Keep.setCell _ _ _ _
      exact r.set (.bld (ρ.t 72) none) hgo he hkp ⟨_, _, hb1, g3, .inr rfl, .inl ⟨rfl, rfl⟩⟩
    split at hq
    · rename_i hs
      subst hs
      cases hq
      refine ⟨Nat.le_refl _, fun ι w av r ha fr => .inr ?_⟩
      obtain ⟨e, p, rfl, he, hb0, hbk, hp, hw⟩ := key ι w av r ha
      refine ⟨hent _ _, ?_⟩
      refine Calls.mono (bld_write L X e.blk p (.slice none 0 0) ⟨#[]⟩ w hbk hp (fun w1 v' w2 => v' = .slice none 0 0 ∧ w2 = w1) (fun w1 hw1 hb1 => ?_)) ?_
      · obtain ⟨arr, a1, _, _, _⟩ := str_cells ok (hw w1 hw1 hb1).1 []
        exact ⟨.slice none 0 0, w1, append_in_nil (P := F.c.P) (w := w1) (ts := #[ρ.t 37, ρ.t 9]) (ty := ρ.t 37) (t := ρ.t 37) (e := ρ.t 5) rfl L.t37 hi h9 (x := .string ⟨#[]⟩) (cs := arr) (lenA_ok (ι := ι) (x := .str []) rfl rfl) (by rw [hz1]; exact a1 w1.drawn), hb1, ⟨_, _, _, rfl⟩, rfl, rfl⟩
      · rintro e1 w' ⟨rfl, w1, v', w2, hw1, hb1, ⟨rfl, rfl⟩, rfl⟩
        obtain ⟨r1, s1⟩ := hw _ hw1 hb1
        obtain ⟨d1, d2⟩ := r1.set (.bld (ρ.t 72) none) (x := .bld (ρ.t 72) none) (by rw [AHeap.get_set, if_pos rfl]) he (Keep.setCell w2 e.blk 1 (.slice none 0 0))
          ⟨.pointer (some ⟨e.blk, 0, none⟩), .slice none 0 0, by rw [heap_setCell_same w2 e.blk 1 _ _ _ hb1]; rfl, hb0, .inr rfl, .inl ⟨rfl, rfl⟩⟩
        exact ⟨ι, ⟨_, rfl, ⟨_, _, rfl, rfl, _, _, rfl, rfl, rfl⟩⟩, d1, s1.trans d2⟩
    · rename_i hs
      cases hq
      refine ⟨by simp, fun ι w av r ha fr => .inr ?_⟩
      obtain ⟨e, p, rfl, he, hb0, hbk, hp, hw⟩ := key ι w av r ha
      have hsl : 0 < s.length := by cases s with | nil => exact (hs rfl).elim | cons a b => simp
      have fr' : Fresh ι h.next (h.next + 1) := fr
      refine ⟨hent _ _, ?_⟩
      refine Calls.mono (bld_write L X e.blk p (.slice none 0 0) ⟨s.toArray⟩ w hbk hp (fun w1 v' w2 => ∃ e', v' = .slice (some ⟨e'.blk, 0, none⟩) s.length e'.K ∧ s.length ≤ e'.K ∧ w2.heap[e.blk]? = some (.cells #[.pointer (some ⟨e.blk, 0, none⟩), .slice none 0 0] (ρ.t 72) (0, 0)) ∧ Rel F (upd ι h.next e') ((h.set o (.bld (ρ.t 72) none)).push (.buf (ρ.t 5) s)) w2 ∧ Step ι (h.set o (.bld (ρ.t 72) none)) w1 (upd ι h.next e') ((h.set o (.bld (ρ.t 72) none)).push (.buf (ρ.t 5) s)) w2) (fun w1 hw1 hb1 => ?_)) ?_
      · obtain ⟨r1, s1⟩ := hw w1 hw1 hb1
        obtain ⟨cap', e', w2, b1, b2, b3, b4, b5, b6, b7⟩ := app_new_buf ok r1 fr' (T37 := ρ.t 37) (T9 := ρ.t 9) (T5 := ρ.t 5) L.t37 h9 hi hz1 hz2 X.v5 (base := none) (cap := 0) (bs := []) (s := s) (oa := #[]) (fun d => rfl) rfl (by simp) (by simp) (by simp; omega) (by simpa using hlen)
        subst b2
        simp only [List.length_nil, Nat.zero_add, List.nil_append] at b1 b3 b6 b7
        have hb2 : w2.heap[e.blk]? = some (.cells #[.pointer (some ⟨e.blk, 0, none⟩), .slice none 0 0] (ρ.t 72) (0, 0)) := by
          rw [b5 _ (Array.getElem?_eq_some_iff.1 hb1).1]; exact hb1
        exact ⟨_, w2, b1, hb2, ⟨_, _, _, rfl⟩, e', rfl, b3, hb2, b6, b7⟩
      · rintro e1 w' ⟨rfl, w1, v', w2, hw1, hb1, ⟨e', rfl, c1, c2, c3, c4⟩, rfl⟩
        obtain ⟨r1, s1⟩ := hw _ hw1 hb1
        have hon : o ≠ h.next := by have := r.lt _ _ hgo; omega
        obtain ⟨d1, d2⟩ := bld_fin c3 c4 (o := o) (T := ρ.t 72) (q := none) (e := e) (by rw [AHeap.get_push, if_neg (by simpa using hon), AHeap.get_set, if_pos rfl]) (by simp [upd, hon, he]) hb0 c2 (upd_self _ _ _) c1
        exact ⟨_, ⟨_, rfl, ⟨_, _, rfl, by simp [VRel]; rfl, _, _, rfl, rfl, rfl⟩⟩, d1, s1.trans d2⟩
  · -- one with a buffer
    rename_i T q n hgo
    split at hq
    rotate_left; · cases hq
    rename_i T' bs hgq
    split at hq
    · cases hq
    rename_i hc
    obtain ⟨rfl, rfl, rfl, hqo, hlen⟩ : T = ρ.t 72 ∧ T' = ρ.t 5 ∧ bs.length = n ∧ q ≠ o ∧ n + s.length ≤ 2 ^ 40 :=
      ⟨Decidable.byContradiction fun hh => hc (.inl hh), Decidable.byContradiction fun hh => hc (.inr (.inl hh)), Decidable.byContradiction fun hh => hc (.inr (.inr (.inl hh))), fun hh => hc (.inr (.inr (.inr (.inl hh)))), Nat.le_of_not_lt fun hh => hc (.inr (.inr (.inr (.inr hh))))⟩
    cases hq
    refine ⟨by simp, fun ι w av r ha fr => .inr ?_⟩
    have fr' : Fresh ι h.next (h.next + 1) := fr
    obtain ⟨v1, _, hav, ⟨e, he, rfl⟩, v2, _, rfl, a2, a3⟩ := ha
    simp only [VRels] at a3; subst a3
    simp only [VRel] at a2; subst a2
    obtain ⟨e', g1, _, p, v, hbk, hb0, hp, g5⟩ := r.obj _ _ hgo
    rw [he] at g1; cases g1
    obtain ⟨eq, hq1, rfl, hnK⟩ : ∃ eq, ι q = some eq ∧ v = .slice (some ⟨eq.blk, 0, none⟩) bs.length eq.K ∧ bs.length ≤ eq.K := by
      rcases g5 with ⟨hh, _⟩ | ⟨o', n', eq, cap, hh, k1, k2, k3, k4⟩
      · cases hh
      · cases hh; subst k3; exact ⟨eq, k1, k2, k4⟩
    obtain ⟨e2, j1, _, c, j2, j3, j4, j5, j6, j7⟩ := r.obj _ _ hgq
    rw [hq1] at j1; cases j1
    have hne : eq.blk ≠ e.blk := fun hh => hqo (r.inj _ _ _ _ _ _ hgq hgo hq1 he hh)
    have : av = #[.pointer (some ⟨e.blk, 0, none⟩), .string ⟨s.toArray⟩] := by apply Array.toList_inj.1; rw [hav, hb0]
    subst this
    have hw : ∀ w1, (w1 = w ∨ w1 = w.setCell ⟨e.blk, 0, none⟩ (.pointer (some ⟨e.blk, 0, none⟩))) → w1.heap[e.blk]? = some (.cells #[.pointer (some ⟨e.blk, 0, none⟩), .slice (some ⟨eq.blk, 0, none⟩) bs.length eq.K] (ρ.t 72) (0, 0)) →
        Rel F ι (h.set o (.bld (ρ.t 72) (some (q, bs.length)))) w1 ∧ Step ι h w ι (h.set o (.bld (ρ.t 72) (some (q, bs.length)))) w1 := by
      intro w1 hw1 hb1
      have hkp : Keep (fun b => b = e.blk) w w1 := by
        rcases hw1 with rfl | rfl
        · exact Keep.refl _ _
        · exact Keep.setCell _ _ _ _
      exact r.set (.bld (ρ.t 72) (some (q, bs.length))) hgo he hkp ⟨_, _, hb1, hb0, .inr rfl, .inr ⟨q, bs.length, eq, eq.K, rfl, hq1, rfl, rfl, hnK⟩⟩
    refine ⟨hent _ _, ?_⟩
    have hon : o ≠ h.next := by have := r.lt _ _ hgo; omega
    refine Calls.mono (bld_write L X e.blk p (.slice (some ⟨eq.blk, 0, none⟩) bs.length eq.K) ⟨s.toArray⟩ w hbk hp (fun w1 v' w2 => ∃ e', v' = .slice (some ⟨e'.blk, 0, none⟩) (bs.length + s.length) e'.K ∧ bs.length + s.length ≤ e'.K ∧ w2.heap[e.blk]? = some (.cells #[.pointer (some ⟨e.blk, 0, none⟩), .slice (some ⟨eq.blk, 0, none⟩) bs.length eq.K] (ρ.t 72) (0, 0)) ∧
        Rel F (upd ι h.next e') (((h.set o (.bld (ρ.t 72) (some (q, bs.length)))).del q).push (.buf (ρ.t 5) (bs ++ s))) w2 ∧ Step ι (h.set o (.bld (ρ.t 72) (some (q, bs.length)))) w1 (upd ι h.next e') (((h.set o (.bld (ρ.t 72) (some (q, bs.length)))).del q).push (.buf (ρ.t 5) (bs ++ s))) w2) (fun w1 hw1 hb1 => ?_)) ?_
    · obtain ⟨r1, s1⟩ := hw w1 hw1 hb1
      have hgq1 : (h.set o (.bld (ρ.t 72) (some (q, bs.length)))).get q = some (.buf (ρ.t 5) bs) := by rw [AHeap.get_set, if_neg hqo]; exact hgq
      obtain ⟨_, k1, _, c1, k2, k3, k4, k5, k6, k7⟩ := r1.obj _ _ hgq1
      rw [hq1] at k1; cases k1
      by_cases hle : bs.length + s.length ≤ eq.K
      · obtain ⟨e', w2, b1, b2, b3, b5, b6, b7⟩ := app_in_buf ok r1 fr' (T37 := ρ.t 37) (T9 := ρ.t 9) (T5 := ρ.t 5) L.t37 h9 hi hz1 hgq1 hq1 hle
        have hb2 := hb1
        rw [← b5 _ (Ne.symm hne)] at hb2
        exact ⟨_, w2, b1, hb2, ⟨_, _, _, rfl⟩, e', by rw [b2], by rw [b2]; exact hle, hb2, b6, b7⟩
      · have hoc : ∃ oa : Array Value, (∀ d, (Builtin.firstCells 1 bs.length (.slice (some ⟨eq.blk, 0, none⟩) bs.length eq.K)).run F.c.P { w1 with drawn := d } = .ok oa { w1 with drawn := d }) ∧ oa.size = bs.length ∧ (∀ (j : Nat) (b : UInt8), bs[j]? = some b → oa[j]? = some (.int .u8 b.toNat)) ∧ ∀ v ∈ oa.toList, oneC v = true := by
          have hcell : ∀ d, (loadCells ⟨eq.blk, 0, none⟩ (c1.toList.take bs.length).length).run F.c.P { w1 with drawn := d } = .ok (c1.toList.take bs.length).toArray { w1 with drawn := d } := fun d =>
            run_loadCells_list (P := F.c.P) (w := { w1 with drawn := d }) ⟨eq.blk, 0, none⟩ (c1.toList.take bs.length) (fun j v hj => by
              rw [add_none]
              rw [List.getElem?_take] at hj
              split at hj
              · simp [World.cell?, k2]; simpa using hj
              · cases hj)
          have htl : (c1.toList.take bs.length).length = bs.length := by simp; omega
          rw [htl] at hcell
          refine ⟨(c1.toList.take bs.length).toArray, fun d => by simp only [Builtin.firstCells, Nat.mul_one]; exact hcell d, by simp; omega, fun j b hj => ?_, fun v hv => k6 v (List.mem_of_mem_take (by simpa using hv))⟩
          have := k7 j b hj
          have hlt := (List.getElem?_eq_some_iff.1 hj).1
          simp [List.getElem?_take, hlt]; simpa using this
        obtain ⟨oa, o1, o2, o3, o4⟩ := hoc
        obtain ⟨cap', e', w2, b1, b2, b3, b4, b5, b6, b7⟩ := app_new_buf ok (r1.del q) fr' (T37 := ρ.t 37) (T9 := ρ.t 9) (T5 := ρ.t 5) L.t37 h9 hi hz1 hz2 X.v5 (base := some ⟨eq.blk, 0, none⟩) (cap := eq.K) (bs := bs) (s := s) (oa := oa) o1 o2 o3 o4 hle hlen
        subst b2
        have hb2 : w2.heap[e.blk]? = some (.cells #[.pointer (some ⟨e.blk, 0, none⟩), .slice (some ⟨eq.blk, 0, none⟩) bs.length eq.K] (ρ.t 72) (0, 0)) := by
          rw [b5 _ (Array.getElem?_eq_some_iff.1 hb1).1]; exact hb1
        have hdel : Step ι (h.set o (.bld (ρ.t 72) (some (q, bs.length)))) w1 ι ((h.set o (.bld (ρ.t 72) (some (q, bs.length)))).del q) w1 := ⟨Sub.refl _, fun _ => .inr (.inl rfl), Nat.le_refl _, Keep.refl _ _, fun b hb => .inl hb.del⟩
        exact ⟨_, w2, b1, hb2, ⟨_, _, _, rfl⟩, e', rfl, b3, hb2, b6, hdel.trans b7⟩
    · rintro e1 w' ⟨rfl, w1, v', w2, hw1, hb1, ⟨e', rfl, c1, c2, c3, c4⟩, rfl⟩
      obtain ⟨r1, s1⟩ := hw _ hw1 hb1
      obtain ⟨d1, d2⟩ := bld_fin c3 c4 (o := o) (T := ρ.t 72) (q := some (q, bs.length)) (e := e) (by rw [AHeap.get_push, if_neg (by simpa using hon), AHeap.get_del, if_neg (Ne.symm hqo), AHeap.get_set, if_pos rfl]) (by simp [upd, hon, he]) hb0 c2 (upd_self _ _ _) c1
      exact ⟨_, ⟨_, rfl, ⟨_, _, rfl, by simp [VRel]; rfl, _, _, rfl, rfl, rfl⟩⟩, d1, s1.trans d2⟩
  · cases hq
/-- String, of a buffer that holds something: to the letter -/
theorem bld_string {P : Program} {ρ : Ren} (L : Lays.n169 P ρ) (X : Builder.Extra P ρ) (b g cap : Nat) (p : Value) (cur : Array Value) (l : List UInt8) (w : World) (hbk : w.heap[b]? = some (.cells #[p, .slice (some ⟨g, 0, none⟩) l.length cap] (ρ.t 72) (0, 0)))
    (hg : w.heap[g]? = some (.cells cur (ρ.t 5) (0, 0))) (hcur : cur.size = cap) (hle : l.length ≤ cap) (h0 : l ≠ []) (hlim : l.length ≤ 2 ^ 40) (hc : ∀ (j : Nat) (x : UInt8), l[j]? = some x → cur[j]? = some (.int .u8 x.toNat)) :
    Calls P (ρ.f 169) #[.pointer (some ⟨b, 0, none⟩)] w fun e w' => e = .returned (.string ⟨l.toArray⟩) ∧ w' = w.drew.freeze ⟨g, 0, none⟩ l.length := by
  have hl0 : l.length ≠ 0 := by simpa using h0
  have c1 : w.drew.cell? ⟨b, 1, none⟩ = some (.slice (some ⟨g, 0, none⟩) l.length cap) := by
    have : w.drew.heap[b]? = some (.cells #[p, .slice (some ⟨g, 0, none⟩) l.length cap] (ρ.t 72) (0, 0)) := hbk
    rw [Lib.cell_of_heap this]; rfl
  have hSD : (Builtin.unsafeSliceData_ #[(ρ.t 37)] (ρ.t 127) #[.slice (some ⟨g, 0, none⟩) l.length cap]).run P w.drew = .ok (.pointer (some ⟨g, 0, none⟩)) w.drew :=
    Lib.run_unsafeSliceData_row _ _ _ _ _ _ (by omega)
  have hUS : (Builtin.unsafeString_ #[(ρ.t 127), (ρ.t 3)] (ρ.t 9) #[.pointer (some ⟨g, 0, none⟩), .int .i64 l.length]).run P w.drew = .ok (.string ⟨l.toArray⟩) (w.drew.freeze ⟨g, 0, none⟩ l.length) := by
    refine Lib.run_unsafeString_row w.drew (ρ.t 127) (ρ.t 3) (ρ.t 9) (ρ.t 5) L.t127 X.cellsByte g cur.size (by have hg' : w.drew.heap[g]? = some (.cells cur (ρ.t 5) (0, 0)) := hg; simp [World.shape?, hg']) l h0 (by omega) (by omega) ?_
    intro j x hx
    have hg' : w.drew.heap[g]? = some (.cells cur (ρ.t 5) (0, 0)) := hg
    rw [add_none]
    simp [World.cell?, hg', hc j x hx]
  have mixed := L.mixed
  have t72 := L.t72; have a72 := L.a72; have z72 := L.z72; have v72 := L.v72; have u72 := run_underlying L.t72
  have t70 := L.t70; have a70 := L.a70; have z70 := L.z70; have v70 := L.v70; have u70 := run_underlying L.t70
  have t37 := L.t37; have a37 := L.a37; have z37 := L.z37; have v37 := L.v37; have u37 := run_underlying L.t37
  have t127 := L.t127; have a127 := L.a127; have z127 := L.z127; have v127 := L.v127; have u127 := run_underlying L.t127
  have t3 := L.t3; have a3 := L.a3; have z3 := L.z3; have v3 := L.v3; have u3 := run_underlying L.t3
  have t9 := L.t9; have a9 := L.a9; have z9 := L.z9; have v9 := L.v9; have u9 := run_underlying L.t9
  have t5 := X.t5; have a5 := X.a5; have z5 := X.z5; have v5 := X.v5; have u5 := run_underlying X.t5
  go_enter L.f169, Body.n169_ntmps ρ
  go_wp2
  go_region_o
  all_goals (go_wp2; go_ret; exact ⟨rfl, rfl⟩)

theorem Rel.keepG (r : Rel F ι h w) {w' : World} {B : Nat → Prop} (hk : Keep B w w') (hB : ∀ j, B j → F.N ≤ j) (hN : ∀ b, Own ι h b → ¬ B b) : Rel F ι h w' :=
  ⟨hk.below r.below (Nat.le_refl _) hB, fun o x ho => by
    obtain ⟨e, h1, h2, h3⟩ := r.obj o x ho
    exact ⟨e, h1, h2, h3.mono (Sub.refl _) (hk.block _ h3.lt (hN _ ⟨o, x, e, ho, h1, rfl⟩))⟩, r.inj, r.lt⟩

theorem bldString_ok {ρ : Ren} (L : Lays.n169 F.c.P ρ) (X : Builder.Extra F.c.P ρ) (ok : F.Ok) : ∀ args h v h', bldString (ρ.t 72) (ρ.t 5) args h = .ok (v, h') → h.next ≤ h'.next ∧
    ∀ ι w (av : Array Value), Rel F ι h w → VRels ι F.ρ args av.toList → Fresh ι h.next h'.next → CallTo F.c.P (ρ.f 169) av w (Out F ι h w v h') := by
  intro args h v h' hq
  unfold bldString at hq
  have hent : ∀ av w, (callFunc (ρ.f 169) av).run F.c.P w = .ok (.enter (ρ.f 169) av) w := enters_of L.f169 (by kernel_rfl) rfl
  split at hq
  rotate_left; · cases hq
  rename_i o
  split at hq
  · rename_i T hgo
    split at hq
    · cases hq
    rename_i hT
    obtain rfl : T = ρ.t 72 := Decidable.byContradiction hT
    cases hq
    refine ⟨Nat.le_refl _, fun ι w av r ha fr => .inr ⟨hent _ _, ?_⟩⟩
    obtain ⟨v1, _, hav, ⟨e, he, rfl⟩, a3⟩ := ha
    simp only [VRels] at a3; subst a3
    obtain ⟨e', g1, _, p, v, hbk, hb0, hp, g5⟩ := r.obj _ _ hgo
    rw [he] at g1; cases g1
    obtain rfl : v = .slice none 0 0 := by rcases g5 with ⟨_, rfl⟩ | ⟨_, _, _, _, hh, _⟩; rfl; cases hh
    have : av = #[.pointer (some ⟨e.blk, 0, none⟩)] := by apply Array.toList_inj.1; rw [hav, hb0]
    subst this
    refine Calls.mono (Any.Builder_String_nil L X w.heap.size e.blk p w hbk) ?_
    rintro e1 w' ⟨rfl, hb⟩
    have hk : Keep (fun _ => False) w w' := ⟨hb.os, hb.tape, hb.output, hb.size, fun k hk _ => hb.block k hk⟩
    refine ⟨ι, rfl, (r.del o).keepG hk (fun _ hh => hh.elim) (fun _ _ hh => hh), ⟨Sub.refl _, fun _ => .inr (.inl rfl), Nat.le_refl _, hk.mono fun _ _ hh => hh.elim, fun b hb => .inl hb.del⟩⟩
  · rename_i T q n hgo
    split at hq
    rotate_left; · cases hq
    rename_i T' bs hgq
    split at hq
    · cases hq
    rename_i hc
    obtain ⟨rfl, rfl, rfl, hqo, hn0, hlen⟩ : T = ρ.t 72 ∧ T' = ρ.t 5 ∧ bs.length = n ∧ q ≠ o ∧ n ≠ 0 ∧ n ≤ 2 ^ 40 :=
      ⟨Decidable.byContradiction fun hh => hc (.inl hh), Decidable.byContradiction fun hh => hc (.inr (.inl hh)), Decidable.byContradiction fun hh => hc (.inr (.inr (.inl hh))), fun hh => hc (.inr (.inr (.inr (.inl hh)))), fun hh => hc (.inr (.inr (.inr (.inr (.inl hh))))), Nat.le_of_not_lt fun hh => hc (.inr (.inr (.inr (.inr (.inr hh)))))⟩
    cases hq
    refine ⟨Nat.le_refl _, fun ι w av r ha fr => .inr ⟨hent _ _, ?_⟩⟩
    obtain ⟨v1, _, hav, ⟨e, he, rfl⟩, a3⟩ := ha
    simp only [VRels] at a3; subst a3
    obtain ⟨e', g1, _, p, v, hbk, hb0, hp, g5⟩ := r.obj _ _ hgo
    rw [he] at g1; cases g1
    obtain ⟨eq, hq1, rfl, hnK⟩ : ∃ eq, ι q = some eq ∧ v = .slice (some ⟨eq.blk, 0, none⟩) bs.length eq.K ∧ bs.length ≤ eq.K := by
      rcases g5 with ⟨hh, _⟩ | ⟨o', n', eq, cap, hh, k1, k2, k3, k4⟩
      · cases hh
      · cases hh; subst k3; exact ⟨eq, k1, k2, k4⟩
    obtain ⟨e2, j1, j0, c, j2, j3, j4, j5, j6, j7⟩ := r.obj _ _ hgq
    rw [hq1] at j1; cases j1
    have : av = #[.pointer (some ⟨e.blk, 0, none⟩)] := by apply Array.toList_inj.1; rw [hav, hb0]
    subst this
    refine Calls.mono (bld_string L X e.blk eq.blk eq.K p c bs w hbk j2 j4 hnK (fun hh => hn0 (by rw [hh]; rfl)) hlen j7) ?_
    rintro e1 w' ⟨rfl, rfl⟩
    have hk : Keep (fun b => b = eq.blk) w (w.drew.freeze ⟨eq.blk, 0, none⟩ bs.length) := by
      unfold World.freeze
      rw [if_neg hn0]
      refine ⟨rfl, rfl, rfl, ?_, fun k _ hk => ?_⟩
      · show w.heap.size ≤ (w.heap.modify _ _).size
        rw [Array.size_modify]; exact Nat.le_refl _
      · show (w.heap.modify _ _)[k]? = _
        rw [Array.getElem?_modify, if_neg (Ne.symm hk)]
    have hown : ∀ b, Own ι ((h.del o).del q) b → b ≠ eq.blk := by
      rintro b ⟨k, x, f, k1, k2, rfl⟩ hh
      rw [AHeap.get_del] at k1
      split at k1
      · cases k1
      · rename_i hkq
        rw [AHeap.get_del] at k1
        split at k1
        · cases k1
        · exact hkq (r.inj _ _ _ _ _ _ k1 hgq k2 hq1 hh)
    refine ⟨ι, rfl, ((r.del o).del q).keepG hk (fun j hj => by rw [hj]; exact j0) hown, ⟨Sub.refl _, fun _ => .inr (.inl rfl), Nat.le_refl _, hk.mono fun j _ hj => ⟨q, _, eq, hgq, hq1, hj.symm⟩, fun b hb => .inl hb.del.del⟩⟩
  · cases hq
end
end Go.Proofs.YtofnbldbggddmaaGreatDoor
set_option linter.all false
namespace Go.Proofs
open Go Go.Shelf Go.RowKit
variable {P : Program} {ρ : Ren}
set_option maxHeartbeats 2000000 in
set_option maxRecDepth 100000 in
/-- WriteByte, to the letter -/
theorem bld_byte (L : Lays.n167 P ρ) (X : Builder.Extra P ρ) (b : Nat) (p v : Value) (c : Int) (w : World) (hbk : w.heap[b]? = some (.cells #[p, v] (ρ.t 72) (0, 0))) (hp : p = .pointer none ∨ p = .pointer (some ⟨b, 0, none⟩))
    (Post : World → Value → World → Prop)
    (hap : ∀ w1, (w1 = w ∨ w1 = w.setCell ⟨b, 0, none⟩ (.pointer (some ⟨b, 0, none⟩))) → w1.heap[b]? = some (.cells #[.pointer (some ⟨b, 0, none⟩), v] (ρ.t 72) (0, 0)) →
      ∃ v' w2, (Builtin.append_ #[ρ.t 37, ρ.t 37] (ρ.t 37) #[v, .slice (some ⟨w1.heap.size, 0, none⟩) 1 1]).run P { w1 with heap := w1.heap.push (.cells #[.int .u8 c] (ρ.t 5) (0, 0)) } = .ok v' w2 ∧ w2.heap[b]? = some (.cells #[.pointer (some ⟨b, 0, none⟩), v] (ρ.t 72) (0, 0)) ∧ (∃ a n c, v' = .slice a n c) ∧ Post w1 v' w2) :
    Calls P (ρ.f 167) #[.pointer (some ⟨b, 0, none⟩), .int .u8 c] w fun e w' => e = .returned .nilIface ∧ ∃ w1 v' w2, (w1 = w ∨ w1 = w.setCell ⟨b, 0, none⟩ (.pointer (some ⟨b, 0, none⟩))) ∧ w1.heap[b]? = some (.cells #[.pointer (some ⟨b, 0, none⟩), v] (ρ.t 72) (0, 0)) ∧ Post w1 v' w2 ∧ w' = w2.setCell ⟨b, 1, none⟩ v' := by
  have hcc : Calls P (ρ.f 240) #[.pointer (some ⟨b, 0, none⟩)] w fun e w1 => e = .returned (.tuple #[]) ∧ (w1 = w ∨ w1 = w.setCell ⟨b, 0, none⟩ (.pointer (some ⟨b, 0, none⟩))) ∧ w1.heap[b]? = some (.cells #[.pointer (some ⟨b, 0, none⟩), v] (ρ.t 72) (0, 0)) := by
    rcases hp with rfl | rfl
    · refine (Any.Builder_copyCheck_fresh { L with } X.toX72 b w (by rw [Lib.cell_of_heap hbk]; rfl) (by simp [World.shape?, hbk]) (by simp [World.frozen?, hbk])).mono ?_
      rintro e w' ⟨rfl, rfl⟩
      refine ⟨rfl, .inr rfl, ?_⟩
      rw [heap_setCell_same w b 0 _ _ _ hbk]; rfl
    · refine (Any.Builder_copyCheck_used { L with } X.toX72 b w (by rw [Lib.cell_of_heap hbk]; rfl)).mono ?_
      rintro e w' ⟨rfl, rfl⟩
      exact ⟨rfl, .inl rfl, hbk⟩
  obtain ⟨i0, hi, hz0, hz1, hz2⟩ := info_parts X.infoByte
  have mixed := L.mixed
  have t72 := L.t72; have a72 := L.a72; have z72 := L.z72; have v72 := L.v72; have u72 := run_underlying L.t72
  have t70 := L.t70; have a70 := L.a70; have z70 := L.z70; have v70 := L.v70; have u70 := run_underlying L.t70
  have t5 := L.t5; have a5 := L.a5; have z5 := L.z5; have v5 := L.v5; have u5 := run_underlying L.t5
  have t37 := L.t37; have a37 := L.a37; have z37 := L.z37; have v37 := L.v37; have u37 := run_underlying L.t37
  have t9 := L.t9; have a9 := L.a9; have z9 := L.z9; have v9 := L.v9; have u9 := run_underlying L.t9
  have t4 := L.t4; have a4 := L.a4; have z4 := L.z4; have v4 := L.v4; have u4 := run_underlying L.t4
  have t164 := L.t164; have a164 := L.a164; have z164 := L.z164; have v164 := L.v164; have u164 := run_underlying L.t164
  have e240 : ∀ args w, (callFunc (ρ.f 240) args).run P w = .ok (.enter (ρ.f 240) args) w := enters_of L.f240 (by kernel_rfl) rfl
  go_enter L.f167, Body.n167_ntmps ρ
  go_wp2_with (go_at_fn (ρ.f 240); refine hcc.mono ?_)
  rintro e w1 ⟨rfl, hw1, hb1⟩
  obtain ⟨v', w2, hrun, hb2, ⟨ao, n', cap, rfl⟩, hpost⟩ := hap w1 hw1 hb1
  have c1 : w1.cell? ⟨b, 1, none⟩ = some v := by rw [Lib.cell_of_heap hb1]; rfl
  have d1 : w2.cell? ⟨b, 1, none⟩ = some v := by rw [Lib.cell_of_heap hb2]; rfl
  have f1 : w2.frozen? ⟨b, 1, none⟩ = false := Lib.frozen_of_heap hb2 1
  go_wp2_with (at_builtin; refine wpList_append_runI _ rfl _ _ (ρ.t 37) (ρ.t 37) rfl v (.slice (some ⟨w1.heap.size, 0, none⟩) 1 1) rfl rfl hrun ?_)
  go_ret
  exact ⟨rfl, w1, _, w2, hw1, hb1, hpost, rfl⟩
end Go.Proofs
namespace Go.Proofs.YtofnbldbggddmaaGreatDoor
open Go Go.Shelf Go.RowKit Go.Proofs
section
variable {F : Fix} {ι : Inj} {h : AHeap} {w : World}
/-- a string, put behind a buffer that has no room for it -/
theorem app_new_bufX (ok : F.Ok) (r : Rel F ι h w) (fr : Fresh ι h.next (h.next + 1)) {T37 T9 T5 : Nat} (hu : F.c.P.underlying T37 = some (.slice T5)) (h9 : notMake F.c.P (some T9) = .ok ()) {i : TypeInfo} (hi : F.c.P.info? T5 = some i) (hsz : i.size = 1) (hby : i.bytes = 1)
    (hz : ∀ w, (zeroValue T5).run F.c.P w = .ok (.int .u8 0) w) {base : Option Addr} {cap : Nat} {bs s : List UInt8} {oa : Array Value} (ho : ∀ d, (Builtin.firstCells 1 bs.length (.slice base bs.length cap)).run F.c.P { w with drawn := d } = .ok oa { w with drawn := d })
    (ho1 : oa.size = bs.length) (ho2 : ∀ (j : Nat) (b : UInt8), bs[j]? = some b → oa[j]? = some (.int .u8 b.toNat)) (ho3 : ∀ v ∈ oa.toList, oneC v = true) {xv : Value} (hxl : ∀ w, (Builtin.lenOf xv).run F.c.P w = .ok s.length w) (hxs : ∃ arr : Array Value, (∀ d, (Builtin.firstCells 1 s.length xv).run F.c.P { w with drawn := d } = .ok arr { w with drawn := d }) ∧ arr.size = s.length ∧ (∀ (j : Nat) (b : UInt8), s[j]? = some b → arr[j]? = some (.int .u8 b.toNat)) ∧ ∀ v ∈ arr.toList, oneC v = true) (hle : ¬ bs.length + s.length ≤ cap) (hlim : bs.length + s.length ≤ 2 ^ 40) :
    ∃ cap' e w2, (Builtin.append_ #[T37, T9] T37 #[.slice base bs.length cap, xv]).run F.c.P w = .ok (.slice (some ⟨e.blk, 0, none⟩) (bs.length + s.length) cap') w2 ∧ e.K = cap' ∧ bs.length + s.length ≤ cap' ∧ e.blk = w.heap.size ∧
      (∀ k, k < w.heap.size → w2.heap[k]? = w.heap[k]?) ∧ Rel F (upd ι h.next e) (h.push (.buf T5 (bs ++ s))) w2 ∧ Step ι h w (upd ι h.next e) (h.push (.buf T5 (bs ++ s))) w2 := by
  obtain ⟨arr, a1, a2, a3, a4⟩ := hxs
  have hroom : ¬ (281474976710656 < Builtin.nextslicecap (bs.length + s.length) cap * i.bytes) := by
    have := nextcap_le (bs.length + s.length) cap (by omega)
    rw [hby]; omega
  obtain ⟨nc, n1, n2⟩ := append_new (P := F.c.P) (w := w) (ts := #[T37, T9]) (ty := T37) (t := T37) (e := T5) rfl hu hi (by exact h9) (base := base) (sLen := bs.length) (sCap := cap) (n := s.length) (x := xv) (cs := arr) (old := oa) (z := .int .u8 0)
    (hxl _) hle (by omega) hroom (by rw [hsz]; exact a1) (by rw [hsz]; exact ho) hz
  have hzs : (Builtin.zeroCells (Value.int .u8 0).cells (nc - (bs.length + s.length))).size = nc - (bs.length + s.length) := by simp [Builtin.zeroCells, Value.cells]
  have hcs : (oa ++ arr ++ Builtin.zeroCells (Value.int .u8 0).cells (nc - (bs.length + s.length))).size = nc := by
    rw [Array.size_append, Array.size_append, ho1, a2, hzs]; omega
  obtain ⟨d1, d2⟩ := (r.drawn (w.drawn + 1)).push fr (.cells (oa ++ arr ++ Builtin.zeroCells (Value.int .u8 0).cells (nc - (bs.length + s.length))) T5) (.buf T5 (bs ++ s)) ⟨w.heap.size, 0, nc, 1⟩ rfl
    ⟨_, by simp, rfl, hcs, by simpa using n1, by
      intro v hv
      rw [Array.toList_append, Array.toList_append, List.mem_append, List.mem_append] at hv
      rcases hv with (hv | hv) | hv
      · exact ho3 v hv
      · exact a4 v hv
      · exact zeroCells_ok' (z := .int .u8 0) (by simp [Value.cells, oneC]) _ v hv, by
      intro j b hj
      rw [List.getElem?_append] at hj
      split at hj
      · have := ho2 j b hj
        have hlt := (Array.getElem?_eq_some_iff.1 this).1
        rw [Array.append_assoc, Array.getElem?_append_left hlt]; exact this
      · rename_i hlt
        have := a3 _ b hj
        have hlt2 := (Array.getElem?_eq_some_iff.1 this).1
        rw [Array.append_assoc, Array.getElem?_append_right (by omega), ho1, Array.getElem?_append_left hlt2]; exact this⟩
  refine ⟨nc, ⟨w.heap.size, 0, nc, 1⟩, _, n2, rfl, n1, rfl, fun k hk => by simp [Array.getElem?_push, Nat.ne_of_lt hk], d1, (Step.drawn ι h w _).trans d2⟩
/-- .. and where there is room -/
theorem app_in_bufX (ok : F.Ok) (r : Rel F ι h w) (fr : Fresh ι h.next (h.next + 1)) {T37 T9 T5 : Nat} (hu : F.c.P.underlying T37 = some (.slice T5)) (h9 : notMake F.c.P (some T9) = .ok ()) {i : TypeInfo} (hi : F.c.P.info? T5 = some i) (hsz : i.size = 1)
    {q : Nat} {e : Ent} {bs s : List UInt8} (hq : h.get q = some (.buf T5 bs)) (he : ι q = some e) {xv : Value} (hxl : ∀ w, (Builtin.lenOf xv).run F.c.P w = .ok s.length w) (hxs : ∃ arr : Array Value, (∀ d, (Builtin.firstCells 1 s.length xv).run F.c.P { w with drawn := d } = .ok arr { w with drawn := d }) ∧ arr.size = s.length ∧ (∀ (j : Nat) (b : UInt8), s[j]? = some b → arr[j]? = some (.int .u8 b.toNat)) ∧ ∀ v ∈ arr.toList, oneC v = true) (hle : bs.length + s.length ≤ e.K) :
    ∃ e' w2, (Builtin.append_ #[T37, T9] T37 #[.slice (some ⟨e.blk, 0, none⟩) bs.length e.K, xv]).run F.c.P w = .ok (.slice (some ⟨e'.blk, 0, none⟩) (bs.length + s.length) e.K) w2 ∧ e'.K = e.K ∧ e'.blk = e.blk ∧
      (∀ k, k ≠ e.blk → w2.heap[k]? = w.heap[k]?) ∧ Rel F (upd ι h.next e') ((h.del q).push (.buf T5 (bs ++ s))) w2 ∧ Step ι h w (upd ι h.next e') ((h.del q).push (.buf T5 (bs ++ s))) w2 := by
  obtain ⟨arr, a1, a2, a3, a4⟩ := hxs
  obtain ⟨e0, g1, _, c, g2, g3, g4, g5, g6, g7⟩ := r.obj _ _ hq
  rw [he] at g1; cases g1
  have hst := run_storeCells' (P := F.c.P) e.blk bs.length T5 (0, 0) arr.toList 0 c w g2 (.inl (Nat.le_refl _)) (by simp; omega) a4
  have hadd : ((⟨e.blk, 0, none⟩ : Addr).add (bs.length * i.size)) = ⟨e.blk, bs.length, none⟩ := by rw [add_none, hsz]; simp
  have happ := append_in (P := F.c.P) (w := w) (ts := #[T37, T9]) (ty := T37) (t := T37) (e := T5) rfl hu hi (by exact h9) (a := ⟨e.blk, 0, none⟩) (sLen := bs.length) (sCap := e.K) (n := s.length) (x := xv) (cs := arr)
    (hxl _) hle (by rw [hsz]; exact a1 w.drawn) (by rw [hadd]; exact hst)
  obtain ⟨row, hrow⟩ : ∃ row, row = (c.toList.take (bs.length + 0) ++ arr.toList ++ c.toList.drop (bs.length + 0 + arr.toList.length)).toArray := ⟨_, rfl⟩
  rw [← hrow] at happ
  have hh := setRow_heap w e.blk c row T5 (0, 0) g2
  have hrs : row.size = e.K := by rw [hrow]; simp; omega
  obtain ⟨d1, d2⟩ := r.moveG fr hq he (Keep.setRow w e.blk row) (e' := e) rfl (y := .buf T5 (bs ++ s)) ⟨row, hh, g3, hrs, by simpa using hle, by
      intro v hv
      rw [hrow] at hv
      simp only [List.mem_append] at hv
      rcases hv with (hv | hv) | hv
      · exact g6 v (List.mem_of_mem_take hv)
      · exact a4 v hv
      · exact g6 v (List.mem_of_mem_drop hv), by
      intro j b hj
      have e1 : row[j]? = (c.toList.take (bs.length + 0) ++ arr.toList ++ c.toList.drop (bs.length + 0 + arr.toList.length))[j]? := by rw [hrow]; simp
      have hlt : (c.toList.take (bs.length + 0)).length = bs.length := by simp; omega
      rw [e1, List.append_assoc]
      rw [List.getElem?_append] at hj
      split at hj
      · rename_i hl
        rw [List.getElem?_append_left (by omega), List.getElem?_take, if_pos (by omega)]
        have := g7 j b hj
        simpa using this
      · rename_i hl
        have := a3 _ b hj
        have hlt2 := (Array.getElem?_eq_some_iff.1 this).1
        rw [List.getElem?_append_right (by omega), hlt, List.getElem?_append_left (by simpa using hlt2)]
        simpa using this⟩
  exact ⟨e, _, happ, rfl, rfl, fun k hk => setRow_other w e.blk k row hk, d1, d2⟩
theorem bldByte_core {ρ : Ren} (L : Lays.n167 F.c.P ρ) (X : Builder.Extra F.c.P ρ) (ok : F.Ok) {c8 : UInt8} {c : Int} (hc8 : c = (c8.toNat : Nat)) {s : List UInt8} (hs1 : s = [c8]) {o : Nat} {v h'} (hq : bldWrite (ρ.t 72) (ρ.t 5) [.ptr o 0, .str s] h = .ok (v, h')) : h.next ≤ h'.next ∧
    ∀ ι w (av : Array Value), Rel F ι h w → VRels ι F.ρ [.ptr o 0, .int .u8 c] av.toList → Fresh ι h.next h'.next → CallTo F.c.P (ρ.f 167) av w (Out F ι h w .nili h') := by
  unfold bldWrite at hq
  simp only at hq
  obtain ⟨i0, hi, hz0, hz1, hz2⟩ := info_parts X.infoByte
  have h9 : notMake F.c.P (some (ρ.t 37)) = .ok () := by unfold notMake; simp [undR, L.t37, ofOpt]
  have hent : ∀ av w, (callFunc (ρ.f 167) av).run F.c.P w = .ok (.enter (ρ.f 167) av) w := enters_of L.f167 (by kernel_rfl) rfl
  have hsl : s.length = 1 := by rw [hs1]; rfl
  -- the row of one byte
  have grow : ∀ {ι : Inj} {h : AHeap} {w1 : World}, Rel F ι h w1 → Rel F ι h { w1 with heap := w1.heap.push (.cells #[.int .u8 c] (ρ.t 5) (0, 0)) } ∧ Step ι h w1 ι h { w1 with heap := w1.heap.push (.cells #[.int .u8 c] (ρ.t 5) (0, 0)) } := by
    intro ι h w1 r
    have hk : ∀ B, Keep B w1 { w1 with heap := w1.heap.push (.cells #[.int .u8 c] (ρ.t 5) (0, 0)) } := fun B => ⟨rfl, rfl, rfl, by simp, fun k hk _ => by simp [Array.getElem?_push, Nat.ne_of_lt hk]⟩
    exact ⟨r.keepG (hk fun _ => False) (fun j hj => hj.elim) (fun b _ hb => hb), ⟨Sub.refl _, fun _ => .inr (.inl rfl), Nat.le_refl _, hk _, fun b hb => .inl hb⟩⟩
  have hold : ∀ {w1 : World} {k : Nat} {x : Obj}, w1.heap[k]? = some x → ({ w1 with heap := w1.heap.push (.cells #[.int .u8 c] (ρ.t 5) (0, 0)) } : World).heap[k]? = some x := by
    intro w1 k x hk
    have := (Array.getElem?_eq_some_iff.1 hk).1
    simp only [Array.getElem?_push]
    rw [if_neg (by omega)]; exact hk
  have hxl : ∀ (n : Nat) w, (Builtin.lenOf (.slice (some ⟨n, 0, none⟩) 1 1)).run F.c.P w = .ok s.length w := fun n w => by rw [hsl]; rfl
  have hxs : ∀ w1 : World, ∃ arr : Array Value, (∀ d, (Builtin.firstCells 1 s.length (.slice (some ⟨w1.heap.size, 0, none⟩) 1 1)).run F.c.P { ({ w1 with heap := w1.heap.push (.cells #[.int .u8 c] (ρ.t 5) (0, 0)) } : World) with drawn := d } = .ok arr { ({ w1 with heap := w1.heap.push (.cells #[.int .u8 c] (ρ.t 5) (0, 0)) } : World) with drawn := d }) ∧ arr.size = s.length ∧ (∀ (j : Nat) (b : UInt8), s[j]? = some b → arr[j]? = some (.int .u8 b.toNat)) ∧ ∀ v ∈ arr.toList, oneC v = true := by
    intro w1
    refine ⟨#[.int .u8 c], fun d => ?_, by rw [hsl]; rfl, fun j b hj => ?_, fun v hv => by simp at hv; subst hv; rfl⟩
    · have := run_loadCells_list (P := F.c.P) (w := { ({ w1 with heap := w1.heap.push (.cells #[.int .u8 c] (ρ.t 5) (0, 0)) } : World) with drawn := d }) ⟨w1.heap.size, 0, none⟩ [.int .u8 c] (fun j v hj => by
        rw [add_none]
        simp [World.cell?]
        match j, hj with
        | 0, hj => simpa using hj)
      rw [hsl]
      simp only [Builtin.firstCells, Nat.mul_one]
      exact this
    · rw [hs1] at hj
      match j, hj with
      | 0, hj => simp at hj; subst hj; simp [hc8]
  split at hq
  · -- a new one
    rename_i T hgo
    split at hq
    · cases hq
    rename_i hc
    obtain ⟨rfl, hlen⟩ : T = ρ.t 72 ∧ s.length ≤ 2 ^ 40 := ⟨Decidable.byContradiction fun hh => hc (.inl hh), Nat.le_of_not_lt fun hh => hc (.inr hh)⟩
    have key : ∀ ι w (av : Array Value), Rel F ι h w → VRels ι F.ρ [.ptr o 0, .int .u8 c] av.toList → ∃ e p, av = #[.pointer (some ⟨e.blk, 0, none⟩), .int .u8 c] ∧ ι o = some e ∧ e.base = 0 ∧ w.heap[e.blk]? = some (.cells #[p, .slice none 0 0] (ρ.t 72) (0, 0)) ∧ (p = .pointer none ∨ p = .pointer (some ⟨e.blk, 0, none⟩)) ∧
        ∀ w1, (w1 = w ∨ w1 = w.setCell ⟨e.blk, 0, none⟩ (.pointer (some ⟨e.blk, 0, none⟩))) → w1.heap[e.blk]? = some (.cells #[.pointer (some ⟨e.blk, 0, none⟩), .slice none 0 0] (ρ.t 72) (0, 0)) → Rel F ι (h.set o (.bld (ρ.t 72) none)) w1 ∧ Step ι h w ι (h.set o (.bld (ρ.t 72) none)) w1 := by
      intro ι w av r ha
      obtain ⟨v1, _, hav, ⟨e, he, rfl⟩, v2, _, rfl, a2, a3⟩ := ha
      simp only [VRels] at a3; subst a3
      simp only [VRel] at a2; subst a2
      obtain ⟨e', g1, _, p, v, g2, g3, g4, g5⟩ := r.obj _ _ hgo
      rw [he] at g1; cases g1
      obtain ⟨_, rfl⟩ : True ∧ v = .slice none 0 0 := ⟨trivial, by rcases g5 with ⟨_, rfl⟩ | ⟨_, _, _, _, hh, _⟩; rfl; cases hh⟩
      refine ⟨e, p, by apply Array.toList_inj.1; rw [hav, g3], he, g3, g2, g4, fun w1 hw1 hb1 => ?_⟩
      have hkp : Keep (fun b => b = e.blk) w w1 := by
        rcases hw1 with rfl | rfl
        · exact Keep.refl _ _
        · exact Keep.setCell _ _ _ _
      exact r.set (.bld (ρ.t 72) none) hgo he hkp ⟨_, _, hb1, g3, .inr rfl, .inl ⟨rfl, rfl⟩⟩
    split at hq
    · rename_i hs
      rw [hs] at hsl; cases hsl
    · rename_i hs
      cases hq
      refine ⟨by simp, fun ι w av r ha fr => .inr ?_⟩
      obtain ⟨e, p, rfl, he, hb0, hbk, hp, hw⟩ := key ι w av r ha
      have fr' : Fresh ι h.next (h.next + 1) := fr
      refine ⟨hent _ _, ?_⟩
      refine Calls.mono (bld_byte L X e.blk p (.slice none 0 0) c w hbk hp (fun w1 v' w2 => ∃ e', v' = .slice (some ⟨e'.blk, 0, none⟩) s.length e'.K ∧ s.length ≤ e'.K ∧ w2.heap[e.blk]? = some (.cells #[.pointer (some ⟨e.blk, 0, none⟩), .slice none 0 0] (ρ.t 72) (0, 0)) ∧ Rel F (upd ι h.next e') ((h.set o (.bld (ρ.t 72) none)).push (.buf (ρ.t 5) s)) w2 ∧ Step ι (h.set o (.bld (ρ.t 72) none)) w1 (upd ι h.next e') ((h.set o (.bld (ρ.t 72) none)).push (.buf (ρ.t 5) s)) w2) (fun w1 hw1 hb1 => ?_)) ?_
      · obtain ⟨r0, s0⟩ := hw w1 hw1 hb1
        obtain ⟨r1, s1⟩ := grow r0
        obtain ⟨cap', e', w2, b1, b2, b3, b4, b5, b6, b7⟩ := app_new_bufX ok r1 fr' (T37 := ρ.t 37) (T9 := ρ.t 37) (T5 := ρ.t 5) L.t37 h9 hi hz1 hz2 X.v5 (base := none) (cap := 0) (bs := []) (s := s) (oa := #[]) (fun d => rfl) rfl (by simp) (by simp) (hxl _) (hxs w1) (by simp; omega) (by simpa using hlen)
        subst b2
        simp only [List.length_nil, Nat.zero_add, List.nil_append] at b1 b3 b6 b7
        have hb2 : w2.heap[e.blk]? = some (.cells #[.pointer (some ⟨e.blk, 0, none⟩), .slice none 0 0] (ρ.t 72) (0, 0)) := by
          rw [b5 _ (Array.getElem?_eq_some_iff.1 (hold hb1)).1]; exact hold hb1
        exact ⟨_, w2, b1, hb2, ⟨_, _, _, rfl⟩, e', rfl, b3, hb2, b6, s1.trans b7⟩
      · rintro e1 w' ⟨rfl, w1, v', w2, hw1, hb1, ⟨e', rfl, c1, c2, c3, c4⟩, rfl⟩
        obtain ⟨r1, s1⟩ := hw _ hw1 hb1
        have hon : o ≠ h.next := by have := r.lt _ _ hgo; omega
        obtain ⟨d1, d2⟩ := bld_fin c3 c4 (o := o) (T := ρ.t 72) (q := none) (e := e) (by rw [AHeap.get_push, if_neg (by simpa using hon), AHeap.get_set, if_pos rfl]) (by simp [upd, hon, he]) hb0 c2 (upd_self _ _ _) c1
        exact ⟨_, rfl, d1, s1.trans d2⟩
  · -- one with a buffer
    rename_i T q n hgo
    split at hq
    rotate_left; · cases hq
    rename_i T' bs hgq
    split at hq
    · cases hq
    rename_i hc
    obtain ⟨rfl, rfl, rfl, hqo, hlen⟩ : T = ρ.t 72 ∧ T' = ρ.t 5 ∧ bs.length = n ∧ q ≠ o ∧ n + s.length ≤ 2 ^ 40 :=
      ⟨Decidable.byContradiction fun hh => hc (.inl hh), Decidable.byContradiction fun hh => hc (.inr (.inl hh)), Decidable.byContradiction fun hh => hc (.inr (.inr (.inl hh))), fun hh => hc (.inr (.inr (.inr (.inl hh)))), Nat.le_of_not_lt fun hh => hc (.inr (.inr (.inr (.inr hh))))⟩
    cases hq
    refine ⟨by simp, fun ι w av r ha fr => .inr ?_⟩
    have fr' : Fresh ι h.next (h.next + 1) := fr
    obtain ⟨v1, _, hav, ⟨e, he, rfl⟩, v2, _, rfl, a2, a3⟩ := ha
    simp only [VRels] at a3; subst a3
    simp only [VRel] at a2; subst a2
    obtain ⟨e', g1, _, p, v, hbk, hb0, hp, g5⟩ := r.obj _ _ hgo
    rw [he] at g1; cases g1
    obtain ⟨eq, hq1, rfl, hnK⟩ : ∃ eq, ι q = some eq ∧ v = .slice (some ⟨eq.blk, 0, none⟩) bs.length eq.K ∧ bs.length ≤ eq.K := by
      rcases g5 with ⟨hh, _⟩ | ⟨o', n', eq, cap, hh, k1, k2, k3, k4⟩
      · cases hh
      · cases hh; subst k3; exact ⟨eq, k1, k2, k4⟩
    obtain ⟨e2, j1, _, cq, j2, j3, j4, j5, j6, j7⟩ := r.obj _ _ hgq
    rw [hq1] at j1; cases j1
    have hne : eq.blk ≠ e.blk := fun hh => hqo (r.inj _ _ _ _ _ _ hgq hgo hq1 he hh)
    have : av = #[.pointer (some ⟨e.blk, 0, none⟩), .int .u8 c] := by apply Array.toList_inj.1; rw [hav, hb0]
    subst this
    have hw : ∀ w1, (w1 = w ∨ w1 = w.setCell ⟨e.blk, 0, none⟩ (.pointer (some ⟨e.blk, 0, none⟩))) → w1.heap[e.blk]? = some (.cells #[.pointer (some ⟨e.blk, 0, none⟩), .slice (some ⟨eq.blk, 0, none⟩) bs.length eq.K] (ρ.t 72) (0, 0)) →
        Rel F ι (h.set o (.bld (ρ.t 72) (some (q, bs.length)))) w1 ∧ Step ι h w ι (h.set o (.bld (ρ.t 72) (some (q, bs.length)))) w1 := by
      intro w1 hw1 hb1
      have hkp : Keep (fun b => b = e.blk) w w1 := by
        rcases hw1 with rfl | rfl
        · exact Keep.refl _ _
        · exact Keep.setCell _ _ _ _
      exact r.set (.bld (ρ.t 72) (some (q, bs.length))) hgo he hkp ⟨_, _, hb1, hb0, .inr rfl, .inr ⟨q, bs.length, eq, eq.K, rfl, hq1, rfl, rfl, hnK⟩⟩
    refine ⟨hent _ _, ?_⟩
    have hon : o ≠ h.next := by have := r.lt _ _ hgo; omega
    refine Calls.mono (bld_byte L X e.blk p (.slice (some ⟨eq.blk, 0, none⟩) bs.length eq.K) c w hbk hp (fun w1 v' w2 => ∃ e', v' = .slice (some ⟨e'.blk, 0, none⟩) (bs.length + s.length) e'.K ∧ bs.length + s.length ≤ e'.K ∧ w2.heap[e.blk]? = some (.cells #[.pointer (some ⟨e.blk, 0, none⟩), .slice (some ⟨eq.blk, 0, none⟩) bs.length eq.K] (ρ.t 72) (0, 0)) ∧
        Rel F (upd ι h.next e') (((h.set o (.bld (ρ.t 72) (some (q, bs.length)))).del q).push (.buf (ρ.t 5) (bs ++ s))) w2 ∧ Step ι (h.set o (.bld (ρ.t 72) (some (q, bs.length)))) w1 (upd ι h.next e') (((h.set o (.bld (ρ.t 72) (some (q, bs.length)))).del q).push (.buf (ρ.t 5) (bs ++ s))) w2) (fun w1 hw1 hb1 => ?_)) ?_
    · obtain ⟨r0, s0⟩ := hw w1 hw1 hb1
      obtain ⟨r1, s1⟩ := grow r0
      have hgq1 : (h.set o (.bld (ρ.t 72) (some (q, bs.length)))).get q = some (.buf (ρ.t 5) bs) := by rw [AHeap.get_set, if_neg hqo]; exact hgq
      obtain ⟨_, k1, _, c1, k2, k3, k4, k5, k6, k7⟩ := r1.obj _ _ hgq1
      rw [hq1] at k1; cases k1
      by_cases hle : bs.length + s.length ≤ eq.K
      · obtain ⟨e', w2, b1, b2, b3, b5, b6, b7⟩ := app_in_bufX ok r1 fr' (T37 := ρ.t 37) (T9 := ρ.t 37) (T5 := ρ.t 5) L.t37 h9 hi hz1 hgq1 hq1 (hxl _) (hxs w1) hle
        have hb2 := hold hb1
        rw [← b5 _ (Ne.symm hne)] at hb2
        exact ⟨_, w2, b1, hb2, ⟨_, _, _, rfl⟩, e', by rw [b2], by rw [b2]; exact hle, hb2, b6, s1.trans b7⟩
      · have hoc : ∃ oa : Array Value, (∀ d, (Builtin.firstCells 1 bs.length (.slice (some ⟨eq.blk, 0, none⟩) bs.length eq.K)).run F.c.P { ({ w1 with heap := w1.heap.push (.cells #[.int .u8 c] (ρ.t 5) (0, 0)) } : World) with drawn := d } = .ok oa { ({ w1 with heap := w1.heap.push (.cells #[.int .u8 c] (ρ.t 5) (0, 0)) } : World) with drawn := d }) ∧ oa.size = bs.length ∧ (∀ (j : Nat) (b : UInt8), bs[j]? = some b → oa[j]? = some (.int .u8 b.toNat)) ∧ ∀ v ∈ oa.toList, oneC v = true := by
          have hcell : ∀ d, (loadCells ⟨eq.blk, 0, none⟩ (c1.toList.take bs.length).length).run F.c.P { ({ w1 with heap := w1.heap.push (.cells #[.int .u8 c] (ρ.t 5) (0, 0)) } : World) with drawn := d } = .ok (c1.toList.take bs.length).toArray { ({ w1 with heap := w1.heap.push (.cells #[.int .u8 c] (ρ.t 5) (0, 0)) } : World) with drawn := d } := fun d =>
            run_loadCells_list (P := F.c.P) (w := { ({ w1 with heap := w1.heap.push (.cells #[.int .u8 c] (ρ.t 5) (0, 0)) } : World) with drawn := d }) ⟨eq.blk, 0, none⟩ (c1.toList.take bs.length) (fun j v hj => by
              rw [add_none]
              rw [List.getElem?_take] at hj
              split at hj
              · simp only [World.cell?] ; rw [k2]; simpa using hj
              · cases hj)
          have htl : (c1.toList.take bs.length).length = bs.length := by simp; omega
          rw [htl] at hcell
          refine ⟨(c1.toList.take bs.length).toArray, fun d => by simp only [Builtin.firstCells, Nat.mul_one]; exact hcell d, by simp; omega, fun j b hj => ?_, fun v hv => k6 v (List.mem_of_mem_take (by simpa using hv))⟩
          have := k7 j b hj
          have hlt := (List.getElem?_eq_some_iff.1 hj).1
          simp [List.getElem?_take, hlt]; simpa using this
        obtain ⟨oa, o1, o2, o3, o4⟩ := hoc
        obtain ⟨cap', e', w2, b1, b2, b3, b4, b5, b6, b7⟩ := app_new_bufX ok (r1.del q) fr' (T37 := ρ.t 37) (T9 := ρ.t 37) (T5 := ρ.t 5) L.t37 h9 hi hz1 hz2 X.v5 (base := some ⟨eq.blk, 0, none⟩) (cap := eq.K) (bs := bs) (s := s) (oa := oa) o1 o2 o3 o4 (hxl _) (hxs w1) hle hlen
        subst b2
        have hb2 : w2.heap[e.blk]? = some (.cells #[.pointer (some ⟨e.blk, 0, none⟩), .slice (some ⟨eq.blk, 0, none⟩) bs.length eq.K] (ρ.t 72) (0, 0)) := by
          rw [b5 _ (Array.getElem?_eq_some_iff.1 (hold hb1)).1]; exact hold hb1
        have hdel : Step ι (h.set o (.bld (ρ.t 72) (some (q, bs.length)))) w1 ι ((h.set o (.bld (ρ.t 72) (some (q, bs.length)))).del q) w1 := ⟨Sub.refl _, fun _ => .inr (.inl rfl), Nat.le_refl _, Keep.refl _ _, fun b hb => .inl hb.del⟩
        exact ⟨_, w2, b1, hb2, ⟨_, _, _, rfl⟩, e', rfl, b3, hb2, b6, s1.trans (((⟨Sub.refl _, fun _ => .inr (.inl rfl), Nat.le_refl _, Keep.refl _ _, fun b hb => .inl hb.del⟩ : Step ι (h.set o (.bld (ρ.t 72) (some (q, bs.length)))) _ ι ((h.set o (.bld (ρ.t 72) (some (q, bs.length)))).del q) _)).trans b7)⟩
    · rintro e1 w' ⟨rfl, w1, v', w2, hw1, hb1, ⟨e', rfl, c1, c2, c3, c4⟩, rfl⟩
      obtain ⟨r1, s1⟩ := hw _ hw1 hb1
      obtain ⟨d1, d2⟩ := bld_fin c3 c4 (o := o) (T := ρ.t 72) (q := some (q, bs.length)) (e := e) (by rw [AHeap.get_push, if_neg (by simpa using hon), AHeap.get_del, if_neg (Ne.symm hqo), AHeap.get_set, if_pos rfl]) (by simp [upd, hon, he]) hb0 c2 (upd_self _ _ _) c1
      exact ⟨_, rfl, d1, s1.trans d2⟩
  · cases hq
end
/-- WriteByte -/
def bldByte (T72 T5 : Nat) : Prim := fun args h =>
  match args with
  | [.ptr o 0, .int .u8 c] => if c < 0 ∨ 255 < c then .err 440 else match bldWrite T72 T5 [.ptr o 0, .str [c.toNat.toUInt8]] h with
    | .ok (_, h') => .ok (.nili, h')
    | .err e => .err e
  | _ => .err 441
theorem bldByte_ok {F : Fix} {ρ : Ren} (L : Lays.n167 F.c.P ρ) (X : Builder.Extra F.c.P ρ) (ok : F.Ok) : ∀ args h v h', bldByte (ρ.t 72) (ρ.t 5) args h = .ok (v, h') → h.next ≤ h'.next ∧
    ∀ ι w (av : Array Value), Rel F ι h w → VRels ι F.ρ args av.toList → Fresh ι h.next h'.next → CallTo F.c.P (ρ.f 167) av w (Out F ι h w v h') := by
  intro args h v h' hq
  unfold bldByte at hq
  split at hq
  rotate_left; · cases hq
  rename_i o c
  split at hq
  · cases hq
  rename_i hc
  split at hq
  rotate_left; · cases hq
  rename_i u h2 hq2
  cases hq
  refine bldByte_core L X ok (c8 := c.toNat.toUInt8) ?_ rfl hq2
  rw [UInt8.toNat_ofNat']
  omega
end Go.Proofs.YtofnbldbggddmaaGreatDoor
set_option linter.all false
set_option maxRecDepth 100000
namespace Go.Proofs.YtofnbldbggddmaaGreatDoor
open Go Go.RowKit Go.Proofs Go.Shelf
def bRen : Ren := ⟨fun n => if n = 166 then 20 else if n = 167 then 19 else if n = 169 then 21 else if n = 240 then 31 else if n = 276 then 42 else n, fun n => if n = 0 then 0 else if n = 3 then 3 else if n = 4 then 4 else if n = 5 then 5 else if n = 9 then 9 else if n = 20 then 20 else if n = 37 then 36 else if n = 70 then 56 else if n = 72 then 58 else if n = 75 then 60 else if n = 80 then 64 else if n = 127 then 88 else if n = 164 then 102 else n, fun n => n⟩
theorem lays166 : Lays.n166 Tryz.prog bRen where
  mixed := Tryz.checked.mixed
  f166 := by kernel_rfl
  f240 := by kernel_rfl
  f276 := by kernel_rfl
  t0 := by kernel_rfl
  a0 := isAggR_ok (P := Tryz.prog) (by kernel_rfl)
  z0 := run_size (P := Tryz.prog) (by kernel_rfl)
  v0 := fun w => by kernel_rfl
  t3 := by kernel_rfl
  a3 := isAggR_ok (P := Tryz.prog) (by kernel_rfl)
  z3 := run_size (P := Tryz.prog) (by kernel_rfl)
  v3 := fun w => by kernel_rfl
  t4 := by kernel_rfl
  a4 := isAggR_ok (P := Tryz.prog) (by kernel_rfl)
  z4 := run_size (P := Tryz.prog) (by kernel_rfl)
  v4 := fun w => by kernel_rfl
  t9 := by kernel_rfl
  a9 := isAggR_ok (P := Tryz.prog) (by kernel_rfl)
  z9 := run_size (P := Tryz.prog) (by kernel_rfl)
  v9 := fun w => by kernel_rfl
  t20 := by kernel_rfl
  a20 := isAggR_ok (P := Tryz.prog) (by kernel_rfl)
  z20 := run_size (P := Tryz.prog) (by kernel_rfl)
  v20 := fun w => by kernel_rfl
  t37 := by kernel_rfl
  a37 := isAggR_ok (P := Tryz.prog) (by kernel_rfl)
  z37 := run_size (P := Tryz.prog) (by kernel_rfl)
  v37 := fun w => by kernel_rfl
  t70 := by kernel_rfl
  a70 := isAggR_ok (P := Tryz.prog) (by kernel_rfl)
  z70 := run_size (P := Tryz.prog) (by kernel_rfl)
  v70 := fun w => by kernel_rfl
  t72 := by kernel_rfl
  a72 := isAggR_ok (P := Tryz.prog) (by kernel_rfl)
  z72 := run_size (P := Tryz.prog) (by kernel_rfl)
  v72 := fun w => by kernel_rfl
  t75 := by kernel_rfl
  a75 := isAggR_ok (P := Tryz.prog) (by kernel_rfl)
  z75 := run_size (P := Tryz.prog) (by kernel_rfl)
  v75 := fun w => by kernel_rfl
  t164 := by kernel_rfl
  a164 := isAggR_ok (P := Tryz.prog) (by kernel_rfl)
  z164 := run_size (P := Tryz.prog) (by kernel_rfl)
  v164 := fun w => by kernel_rfl
theorem lays167 : Lays.n167 Tryz.prog bRen where
  mixed := Tryz.checked.mixed
  f167 := by kernel_rfl
  f240 := by kernel_rfl
  f276 := by kernel_rfl
  t0 := by kernel_rfl
  a0 := isAggR_ok (P := Tryz.prog) (by kernel_rfl)
  z0 := run_size (P := Tryz.prog) (by kernel_rfl)
  v0 := fun w => by kernel_rfl
  t4 := by kernel_rfl
  a4 := isAggR_ok (P := Tryz.prog) (by kernel_rfl)
  z4 := run_size (P := Tryz.prog) (by kernel_rfl)
  v4 := fun w => by kernel_rfl
  t5 := by kernel_rfl
  a5 := isAggR_ok (P := Tryz.prog) (by kernel_rfl)
  z5 := run_size (P := Tryz.prog) (by kernel_rfl)
  v5 := fun w => by kernel_rfl
  t9 := by kernel_rfl
  a9 := isAggR_ok (P := Tryz.prog) (by kernel_rfl)
  z9 := run_size (P := Tryz.prog) (by kernel_rfl)
  v9 := fun w => by kernel_rfl
  t20 := by kernel_rfl
  a20 := isAggR_ok (P := Tryz.prog) (by kernel_rfl)
  z20 := run_size (P := Tryz.prog) (by kernel_rfl)
  v20 := fun w => by kernel_rfl
  t37 := by kernel_rfl
  a37 := isAggR_ok (P := Tryz.prog) (by kernel_rfl)
  z37 := run_size (P := Tryz.prog) (by kernel_rfl)
  v37 := fun w => by kernel_rfl
  t70 := by kernel_rfl
  a70 := isAggR_ok (P := Tryz.prog) (by kernel_rfl)
  z70 := run_size (P := Tryz.prog) (by kernel_rfl)
  v70 := fun w => by kernel_rfl
  t72 := by kernel_rfl
  a72 := isAggR_ok (P := Tryz.prog) (by kernel_rfl)
  z72 := run_size (P := Tryz.prog) (by kernel_rfl)
  v72 := fun w => by kernel_rfl
  t75 := by kernel_rfl
  a75 := isAggR_ok (P := Tryz.prog) (by kernel_rfl)
  z75 := run_size (P := Tryz.prog) (by kernel_rfl)
  v75 := fun w => by kernel_rfl
  t164 := by kernel_rfl
  a164 := isAggR_ok (P := Tryz.prog) (by kernel_rfl)
  z164 := run_size (P := Tryz.prog) (by kernel_rfl)
  v164 := fun w => by kernel_rfl
theorem lays169 : Lays.n169 Tryz.prog bRen where
  mixed := Tryz.checked.mixed
  f169 := by kernel_rfl
  t0 := by kernel_rfl
  a0 := isAggR_ok (P := Tryz.prog) (by kernel_rfl)
  z0 := run_size (P := Tryz.prog) (by kernel_rfl)
  v0 := fun w => by kernel_rfl
  t3 := by kernel_rfl
  a3 := isAggR_ok (P := Tryz.prog) (by kernel_rfl)
  z3 := run_size (P := Tryz.prog) (by kernel_rfl)
  v3 := fun w => by kernel_rfl
  t9 := by kernel_rfl
  a9 := isAggR_ok (P := Tryz.prog) (by kernel_rfl)
  z9 := run_size (P := Tryz.prog) (by kernel_rfl)
  v9 := fun w => by kernel_rfl
  t37 := by kernel_rfl
  a37 := isAggR_ok (P := Tryz.prog) (by kernel_rfl)
  z37 := run_size (P := Tryz.prog) (by kernel_rfl)
  v37 := fun w => by kernel_rfl
  t70 := by kernel_rfl
  a70 := isAggR_ok (P := Tryz.prog) (by kernel_rfl)
  z70 := run_size (P := Tryz.prog) (by kernel_rfl)
  v70 := fun w => by kernel_rfl
  t72 := by kernel_rfl
  a72 := isAggR_ok (P := Tryz.prog) (by kernel_rfl)
  z72 := run_size (P := Tryz.prog) (by kernel_rfl)
  v72 := fun w => by kernel_rfl
  t127 := by kernel_rfl
  a127 := isAggR_ok (P := Tryz.prog) (by kernel_rfl)
  z127 := run_size (P := Tryz.prog) (by kernel_rfl)
  v127 := fun w => by kernel_rfl
theorem laysX : Builder.Extra Tryz.prog bRen where
  sizeBuilder := by kernel_rfl
  liesBuilder := by kernel_rfl
  t5 := by kernel_rfl
  a5 := isAggR_ok (P := Tryz.prog) (by kernel_rfl)
  z5 := run_size (P := Tryz.prog) (by kernel_rfl)
  v5 := fun w => by kernel_rfl
  infoByte := by kernel_rfl
  cellsByte := by kernel_rfl
  sizeByte := by kernel_rfl
  neB5 := by decide
def bldWriteP : Prim := bldWrite 58 5
theorem bldWriteP_sound (F : Fix) (hP : F.c.P = Tryz.prog) (ok : F.Ok) : ∀ args h v h', bldWriteP args h = .ok (v, h') → h.next ≤ h'.next ∧
    ∀ ι w (av : Array Value), Rel F ι h w → VRels ι F.ρ args av.toList → Fresh ι h.next h'.next → CallTo F.c.P 20 av w (Out F ι h w v h') :=
  bldWrite_ok (ρ := bRen) (by rw [hP]; exact lays166) (by rw [hP]; exact laysX) ok (by rw [hP]; kernel_rfl)
def bldStringP : Prim := bldString 58 5
theorem bldStringP_sound (F : Fix) (hP : F.c.P = Tryz.prog) (ok : F.Ok) : ∀ args h v h', bldStringP args h = .ok (v, h') → h.next ≤ h'.next ∧
    ∀ ι w (av : Array Value), Rel F ι h w → VRels ι F.ρ args av.toList → Fresh ι h.next h'.next → CallTo F.c.P 21 av w (Out F ι h w v h') :=
  bldString_ok (ρ := bRen) (by rw [hP]; exact lays169) (by rw [hP]; exact laysX) ok
def bldByteP : Prim := bldByte 58 5
theorem bldByteP_sound (F : Fix) (hP : F.c.P = Tryz.prog) (ok : F.Ok) : ∀ args h v h', bldByteP args h = .ok (v, h') → h.next ≤ h'.next ∧
    ∀ ι w (av : Array Value), Rel F ι h w → VRels ι F.ρ args av.toList → Fresh ι h.next h'.next → CallTo F.c.P 19 av w (Out F ι h w v h') :=
  bldByte_ok (ρ := bRen) (by rw [hP]; exact lays167) (by rw [hP]; exact laysX) ok
end Go.Proofs.YtofnbldbggddmaaGreatDoor
