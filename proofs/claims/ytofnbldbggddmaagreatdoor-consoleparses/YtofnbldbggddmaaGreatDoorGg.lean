/-
  A part of the proof of ConsoleParses, over the seat YtofnbldbggddmaaGreatDoor: for every input the law returns true, and the input reads as it did.
-/
import Derived.Test.YtofnbldbggddmaaGreatDoorGe
import Derived.Test.YtofnbldbggddmaaGreatDoorGf
import Derived.Shelf.Strconv.AtoiAll
import Derived.Shelf.Strconv.Itoa3
import Derived.Shelf.Strings.OnBuilder
import Derived.Lib.LaidTab
import Derived.Lib.AtoiErrMem
set_option linter.all false
set_option linter.all false
set_option maxRecDepth 100000
set_option maxHeartbeats 4000000
namespace Go.Proofs.YtofnbldbggddmaaGreatDoor
open Go Go.RowKit Go.Proofs Go.Shelf
/-- what strconv's functions ask of the world: two errors, a table -/
def GW (W : World) : Prop := (∃ ev, W.cell? ⟨4, 0, none⟩ = some ev ∧ (ev = .nilIface ∨ ∃ te pe, ev = .iface te pe)) ∧ (∃ ev, W.cell? ⟨5, 0, none⟩ = some ev ∧ (ev = .nilIface ∨ ∃ te pe, ev = .iface te pe)) ∧
  Lib.TabIs Tryz.prog W "internal/strconv.uint64pow10" .u64 Lib.pow10Tab
theorem cell_in {F : Fix} {ι : Inj} {h : AHeap} {w : World} (r : Rel F ι h w) {g : Nat} {v : Value} (hc : F.w0.cell? ⟨g, 0, none⟩ = some v) : w.cell? ⟨g, 0, none⟩ = some v :=
  (r.below.cell (p := ⟨g, 0, none⟩) (Lib.lt_of_cell hc)).trans hc
theorem tab_in {F : Fix} {ι : Inj} {h : AHeap} {w : World} (r : Rel F ι h w) {P : Program} {n : String} {k : IntKind} {zs : List Int} {g : Nat} (hg : P.globalNamed n = some g) (ht : Lib.TabIs P F.w0 n k zs) : Lib.TabIs P w n k zs := by
  unfold Lib.TabIs World.var? at ht ⊢
  rw [hg] at ht ⊢
  simp only [Option.bind_some] at ht ⊢
  by_cases hlt : g < F.N
  · rw [r.below.block g hlt]; exact ht
  · have : F.w0.heap[g]? = none := Array.getElem?_eq_none (Nat.le_of_not_lt hlt)
    rw [this] at ht; cases ht
/-- strconv.Atoi -/
def atoiP : Prim := fun a h => match a with
  | [.str s] => if s.length ≤ 281474976710656 then match Lib.atoiAll s with
      | .ok v => .ok (.tuple [.int .i64 v, .nili], h)
      | .range => .ok (.tuple [.int .i64 (Lib.atoiSat s), .iface 150 .dead], h)
      | _ => .ok (.tuple [.int .i64 0, .iface 150 .dead], h)
    else .err 907
  | _ => .err 908
theorem atoiP_sound (F : Fix) (hP : F.c.P = Tryz.prog) (ok : F.Ok) (hG : GW F.w0) : ∀ args h v h', atoiP args h = .ok (v, h') → h.next ≤ h'.next ∧
    ∀ ι w (av : Array Value), Rel F ι h w → VRels ι F.ρ args av.toList → Fresh ι h.next h'.next → CallTo F.c.P 48 av w (Out F ι h w v h') := by
  intro args h v h' hq
  unfold atoiP at hq
  split at hq
  rotate_left; · cases hq
  rename_i s
  split at hq
  rotate_left; · cases hq
  rename_i hs
  obtain ⟨⟨e1, c1, k1⟩, ⟨e2, c2, k2⟩, _⟩ := hG
  have hsz : (⟨s.toArray⟩ : ByteArray).size = s.length := by simp [ByteArray.size]
  have key : ∀ ι w (av : Array Value), Rel F ι h w → VRels ι F.ρ [.str s] av.toList → av = #[.string ⟨s.toArray⟩] := by
    intro ι w av r ha
    obtain ⟨v1, _, hav, a1, a3⟩ := ha
    simp only [VRels] at a3
    subst a3
    simp only [VRel] at a1
    subst a1
    exact Array.toList_inj.1 hav
  rcases hn : Lib.atoiAll s with n | _ | _
  · rw [hn] at hq
    cases hq
    refine ⟨Nat.le_refl _, fun ι w av r ha fr => .inr ⟨?_, ?_⟩⟩
    · rw [hP]; exact enters_of Tryz.func48 (by kernel_rfl) rfl _ _
    rw [hP, key ι w av r ha]
    refine (Any.strconv_Atoi_ok Tryz.lays172 ⟨s.toArray⟩ (by rw [hsz]; omega) n hn w).mono ?_
    rintro e w' ⟨rfl, hb⟩
    refine out_below r ?_ ⟨_, rfl, ⟨_, _, rfl, rfl, _, _, rfl, rfl, rfl⟩⟩
    rcases hb with rfl | ⟨t, rfl⟩
    · exact Below.refl _ _
    · exact Lib.bytesWorld_below _ _ _
  · rw [hn] at hq
    cases hq
    refine ⟨Nat.le_refl _, fun ι w av r ha fr => .inr ⟨?_, ?_⟩⟩
    · rw [hP]; exact enters_of Tryz.func48 (by kernel_rfl) rfl _ _
    rw [hP, key ι w av r ha]
    refine (Any.strconv_Atoi_syntax Tryz.lays172 ⟨s.toArray⟩ (by rw [hsz]; omega) hn e1 w (cell_in r c1) k1).mono ?_
    rintro e w' ⟨N, rfl, _, _, hb⟩
    exact out_below r hb ⟨_, rfl, ⟨_, _, rfl, rfl, _, _, rfl, ⟨_, rfl, trivial⟩, rfl⟩⟩
  · rw [hn] at hq
    cases hq
    refine ⟨Nat.le_refl _, fun ι w av r ha fr => .inr ⟨?_, ?_⟩⟩
    · rw [hP]; exact enters_of Tryz.func48 (by kernel_rfl) rfl _ _
    rw [hP, key ι w av r ha]
    refine (Any.strconv_Atoi_range Tryz.lays172 ⟨s.toArray⟩ (by rw [hsz]; omega) hn e2 w (cell_in r c2) k2).mono ?_
    rintro e w' ⟨N, rfl, _, _, hb⟩
    exact out_below r hb ⟨_, rfl, ⟨_, _, rfl, rfl, _, _, rfl, ⟨_, rfl, trivial⟩, rfl⟩⟩
/-- strconv.FormatInt to ten -/
def itoaP : Prim := fun a h => match a with
  | [.int .i64 n, .int .i64 10] => if -9223372036854775808 ≤ n ∧ n ≤ 9223372036854775807 then .ok (.str (Lib.itoa n), h) else .err 909
  | _ => .err 910
theorem itoaP_sound (F : Fix) (hP : F.c.P = Tryz.prog) (ok : F.Ok) (hG : GW F.w0) : ∀ args h v h', itoaP args h = .ok (v, h') → h.next ≤ h'.next ∧
    ∀ ι w (av : Array Value), Rel F ι h w → VRels ι F.ρ args av.toList → Fresh ι h.next h'.next → CallTo F.c.P 90 av w (Out F ι h w v h') := by
  intro args h v h' hq
  unfold itoaP at hq
  split at hq
  rotate_left; · cases hq
  rename_i n
  split at hq
  rotate_left; · cases hq
  rename_i hn
  cases hq
  refine ⟨Nat.le_refl _, fun ι w av r ha fr => .inr ⟨?_, ?_⟩⟩
  · rw [hP]; exact enters_of Tryz.func90 (by kernel_rfl) rfl _ _
  obtain ⟨v1, _, hav, a1, v2, _, rfl, a2, a3⟩ := ha
  simp only [VRels] at a3
  subst a3
  simp only [VRel] at a1 a2
  subst a1 a2
  obtain rfl : av = #[.int .i64 n, .int .i64 10] := Array.toList_inj.1 hav
  rw [hP]
  refine (Any.internal_strconv_FormatInt_10 Tryz.lays246 n hn.1 hn.2 w (tab_in r (g := 6) (by kernel_rfl) hG.2.2)).mono ?_
  rintro e w' ⟨rfl, k, os, rfl⟩
  have hb : Below w.heap.size w (Sort.grow (w.drewN k) os) := ⟨rfl, rfl, rfl, by show w.heap.size ≤ (w.heap ++ os).size; rw [Array.size_append]; omega, fun j hj => by show (w.heap ++ os)[j]? = w.heap[j]?; rw [Array.getElem?_append_left hj]⟩
  have hv : VRel ι F.ρ (.str (Lib.itoa n)) (.string ⟨(Lib.itoa n).toArray⟩) := rfl
  exact out_below r hb hv
def strsOf : List AVal → Option (List (List UInt8))
  | [] => some []
  | .str s :: l => match strsOf l with
    | some xs => some (s :: xs)
    | none => none
  | _ :: _ => none
theorem strsOf_get : ∀ {l : List AVal} {xs : List (List UInt8)}, strsOf l = some xs → l.length = xs.length ∧ ∀ (i : Nat) (s : List UInt8), xs[i]? = some s → l[i]? = some (AVal.str s)
  | [], xs, h => by simp [strsOf] at h; subst h; simp
  | a :: l, xs, h => by
    cases a with
    | str s =>
      simp only [strsOf] at h
      split at h
      · rename_i ys hy
        cases h
        obtain ⟨h1, h2⟩ := strsOf_get hy
        refine ⟨by simp [h1], fun i t hi => ?_⟩
        cases i with
        | zero => simpa using hi
        | succ i => simpa using h2 i t (by simpa using hi)
      · cases h
    | _ => simp [strsOf] at h
/-- strings.Join -/
def joinP : Prim := fun a h => match a with
  | [.sl o f n, .str sep] => match h.get o with
    | some (.row 1 _ vs) => if f + n ≤ vs.length ∧ n ≤ 140737488355328 then match strsOf ((vs.drop f).take n) with
        | some xs => if (Lib.join xs sep).length ≤ 140737488355328 then .ok (.str (Lib.join xs sep), h) else .err 911
        | none => .err 912
      else .err 913
    | _ => .err 914
  | _ => .err 915
theorem laysJX : Builder.Extra Tryz.prog Tryz.lays156_ren where
  sizeBuilder := by kernel_rfl
  liesBuilder := by kernel_rfl
  t5 := by kernel_rfl
  a5 := isAggR_ok (P := Tryz.prog) (by kernel_rfl)
  z5 := run_size (P := Tryz.prog) (by kernel_rfl)
  v5 := fun w => by kernel_rfl
  infoByte := by kernel_rfl
  cellsByte := by kernel_rfl
  sizeByte := by kernel_rfl
  neB5 := by decide
theorem joinP_sound (F : Fix) (hP : F.c.P = Tryz.prog) (ok : F.Ok) : ∀ args h v h', joinP args h = .ok (v, h') → h.next ≤ h'.next ∧
    ∀ ι w (av : Array Value), Rel F ι h w → VRels ι F.ρ args av.toList → Fresh ι h.next h'.next → CallTo F.c.P 46 av w (Out F ι h w v h') := by
  intro args h v h' hq
  unfold joinP at hq
  split at hq
  rotate_left; · cases hq
  rename_i o f n sep
  split at hq
  rotate_left; · cases hq
  rename_i fz vs hgo
  split at hq
  rotate_left; · cases hq
  rename_i hfn
  split at hq
  rotate_left; · cases hq
  rename_i xs hxs
  split at hq
  rotate_left; · cases hq
  rename_i hjl
  cases hq
  refine ⟨Nat.le_refl _, fun ι w av r ha fr => .inr ⟨?_, ?_⟩⟩
  · rw [hP]; exact enters_of Tryz.func46 (by kernel_rfl) rfl _ _
  obtain ⟨v1, _, hav, a1, v2, _, rfl, a2, a3⟩ := ha
  simp only [VRels] at a3
  subst a3
  simp only [VRel] at a2
  subst a2
  obtain ⟨e, x, cap, i1, rfl, i2, i3, i4⟩ := a1
  obtain rfl : av = #[.slice (some ⟨e.blk, x, none⟩) n cap, .string ⟨sep.toArray⟩] := Array.toList_inj.1 hav
  obtain ⟨e', j1, _, cA, TA, fA, g1, _, g3, g4, _, _, _, g8⟩ := r.obj _ _ hgo
  rw [i1] at j1; cases j1
  obtain ⟨u1, u2⟩ := strsOf_get hxs
  have hl : xs.length = n := by rw [← u1, List.length_take, List.length_drop]; omega
  have hown : Own ι h e.blk := ⟨o, _, e, hgo, i1, rfl⟩
  obtain ⟨ys, hys⟩ : ∃ ys : List ByteArray, ys = xs.map fun s => (⟨s.toArray⟩ : ByteArray) := ⟨_, rfl⟩
  have hyl : ys.length = n := by rw [hys, List.length_map, hl]
  have hyd : ys.map (·.data.toList) = xs := by
    rw [hys, List.map_map]
    exact (List.map_congr_left (fun s _ => rfl)).trans (List.map_id xs)
  rw [hP]
  have hc := Any.strings_Join Tryz.lays156 laysJX e.blk x cap ys ⟨sep.toArray⟩ w (fun j y hy => by
    rw [hys, List.getElem?_map] at hy
    cases hxj : xs[j]? with
    | none => rw [hxj] at hy; cases hy
    | some s =>
      rw [hxj] at hy
      cases hy
      have hj : j < n := by rw [← hl]; exact (List.getElem?_eq_some_iff.1 hxj).1
      have hx : x = e.base + f := by
        rcases i4 with h | h
        · exact h
        · omega
      have h1 := u2 j s hxj
      rw [List.getElem?_take, if_pos hj, List.getElem?_drop] at h1
      obtain ⟨v, hv, hr⟩ := g8 _ _ h1
      simp only [VRel] at hr
      subst hr
      rw [hx, Lib.cell_of_heap g1, Nat.add_assoc]
      exact hv) (r.own_lt _ hown) (by omega) (by omega) (by rw [hyd]; exact hjl)
  rw [hyl, hyd] at hc
  refine hc.mono ?_
  rintro e1 w' ⟨rfl, hb⟩
  exact out_below r hb rfl
end Go.Proofs.YtofnbldbggddmaaGreatDoor
