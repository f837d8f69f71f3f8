/-
  A part of the proof of ConsoleParses, over the seat YtofnbldbggddmaaGreatDoor: for every input the law returns true, and the input reads as it did.
-/
import Derived.Test.YtofnbldbggddmaaGreatDoorGu
set_option linter.all false
set_option linter.all false
set_option maxRecDepth 100000
set_option maxHeartbeats 4000000
namespace Go.Proofs.YtofnbldbggddmaaGreatDoor
open Go Go.RowKit Go.Proofs
section
variable {ro : Nat → Option (List AVal)} {h : AHeap} {v : AVal} {ws : List Str}
theorem digit_ev {c : UInt8} {Q : AVal → AHeap → Prop} (hq : Q (.int .i64 (hexI c)) h) : Ev (cfgR ro) 70 [.int .u8 (c.toNat : Nat)] h Q := by
  refine Ev.wp rfl rfl Tryz.func70 rfl ?_
  have hlt := c.toNat_lt
  have key : ∀ x : Int, hexI c = x → Q (.int .i64 x) h := fun x e => e ▸ hq
  by_cases a1 : (48 : Int) ≤ (c.toNat : Int)
  · by_cases a2 : (c.toNat : Int) ≤ 57
    · have e1 : IntKind.u8.wrap ((c.toNat : Int) - 48) = (c.toNat : Int) - 48 := by rw [wrap8]; omega
      have e2 : IntKind.i64.wrap ((c.toNat : Int) - 48) = (c.toNat : Int) - 48 := w64 (by omega) (by omega)
      simp -implicitDefEqProofs [Tryz.f70, a1, a2, e1, e2]
      exact key _ (by unfold hexI hexD; rw [if_pos (by omega)]; simp only; omega)
    · by_cases a3 : (97 : Int) ≤ (c.toNat : Int)
      · by_cases a4 : (c.toNat : Int) ≤ 102
        · have e1 : IntKind.u8.wrap ((c.toNat : Int) - 97) = (c.toNat : Int) - 97 := by rw [wrap8]; omega
          have e2 : IntKind.i64.wrap ((c.toNat : Int) - 97) = (c.toNat : Int) - 97 := w64 (by omega) (by omega)
          have e3 : IntKind.i64.wrap ((c.toNat : Int) - 97 + 10) = (c.toNat : Int) - 97 + 10 := w64 (by omega) (by omega)
          simp -implicitDefEqProofs [Tryz.f70, a1, a2, a3, a4, e1, e2, e3]
          exact key _ (by unfold hexI hexD; rw [if_neg (by omega), if_pos (by omega)]; simp only; omega)
        · simp -implicitDefEqProofs [Tryz.f70, a1, a2, a3, a4]
          exact key _ (by unfold hexI hexD; rw [if_neg (by omega), if_neg (by omega)])
      · simp -implicitDefEqProofs [Tryz.f70, a1, a2, a3]
        exact key _ (by unfold hexI hexD; rw [if_neg (by omega), if_neg (by omega)])
  · have a3 : ¬ (97 : Int) ≤ (c.toNat : Int) := by omega
    simp -implicitDefEqProofs [Tryz.f70, a1, a3]
    exact key _ (by unfold hexI hexD; rw [if_neg (by omega), if_neg (by omega)])
theorem hex51_ev {s : Str} (hs : s.length < 2 ^ 30) {Q : AVal → AHeap → Prop} (hq1 : ∀ h' t, Old h h' → hexF s = some t → Q (.tuple [.str t, .bool true]) h') (hq2 : ∀ h', Old h h' → hexF s = none → Q (.tuple [.str [], .bool false]) h') :
    Ev (cfgR ro) 51 [.str s] h Q := by
  refine Ev.wp rfl rfl Tryz.func51 rfl ?_
  simp -implicitDefEqProofs [Tryz.f51]
  refine orD (fun c2 => ?_) (fun c2 => ?_)
  · simp -implicitDefEqProofs [c2]
    refine orD (fun c => ?_) (fun c => ?_)
    · simp -implicitDefEqProofs [c2, c]
      exact hq2 _ (Old.refl h) (by unfold hexF; rw [if_pos (by simpa using c)])
    · have c : ¬ s = [] := by simpa using c
      obtain ⟨k, hk⟩ : ∃ k, s.length = 2 * k := ⟨s.length / 2, by rw [Int.tmod_eq_emod_of_nonneg (by omega)] at c2; omega⟩
      simp -implicitDefEqProofs [c2, c]
      obtain ⟨I, hI⟩ : ∃ I : Nat → List AVal → AHeap → Prop, I = fun m env h' => Old h h' ∧ ∃ (j i : Nat) (t : Str) (w : AVal), j + m = k ∧ i = 2 * j ∧ hexP (s.take i) = some t ∧ BM h h' w t ∧
        env = (.str s :: .dead :: .dead :: .dead :: w :: .int .i64 (i : Nat) :: .dead :: .dead :: .dead :: .dead :: .dead :: .dead :: .dead :: .dead :: .dead :: .dead :: .dead :: .dead :: .dead :: .dead :: .dead :: .dead :: .dead :: .dead :: .dead :: .dead :: .dead :: .dead :: .dead :: .dead :: .dead :: .dead :: .dead :: .dead :: .dead :: .dead :: .dead :: .dead :: .dead :: .dead :: .dead :: .dead :: .dead :: .dead :: .dead :: .dead :: .dead :: .dead :: []) := ⟨_, rfl⟩
      refine loop_of I ?_ k (by rw [hI]; exact ⟨Old.refl h, 0, 0, [], .nils, by omega, rfl, rfl, BM.nil, rfl⟩)
      intro m env h' hi
      rw [hI] at hi
      obtain ⟨oo, j, i, t, w, him, hij, ht, bm, rfl⟩ := hi
      have htl := hexP_len ht
      have hti : t.length = j := by rw [List.length_take] at htl; omega
      by_cases hlt : j < k
      · have hlt2 : i < s.length := by omega
        have hlt3 : i + 1 < s.length := by omega
        obtain ⟨a, ha⟩ : ∃ a, s[i]? = some a := ⟨_, List.getElem?_eq_getElem hlt2⟩
        obtain ⟨b, hb⟩ : ∃ b, s[i + 1]? = some b := ⟨_, List.getElem?_eq_getElem hlt3⟩
        have hga : s[i]'hlt2 = a := by obtain ⟨_, e⟩ := List.getElem?_eq_some_iff.1 ha; exact e
        have hgb : s[i + 1]'hlt3 = b := by obtain ⟨_, e⟩ := List.getElem?_eq_some_iff.1 hb; exact e
        have hx : idxNat (.int .i64 (i : Int)) s.length = .ok i := ix_nat hlt2
        have hx2 : idxNat (.int .i64 ((i : Int) + 1)) s.length = .ok (i + 1) := ix_nat (i := i + 1) hlt3
        have w1 : IntKind.i64.wrap ((i : Int) + 1) = (i : Int) + 1 := w64 (by omega) (by omega)
        have w2 : IntKind.i64.wrap ((i : Int) + 2) = ((i + 2 : Nat) : Int) := by rw [w64 (by omega) (by omega)]; omega
        have hsplit : s = s.take i ++ a :: b :: s.drop (i + 2) := by
          have := List.take_append_drop i s
          rw [List.drop_eq_getElem_cons hlt2, hga, List.drop_eq_getElem_cons hlt3, hgb] at this
          exact this.symm
        have fin : hexD a = none ∨ hexD b = none → hexF s = none := fun hn => by
          unfold hexF
          rw [if_neg c, hsplit, hexP_app ht]
          rcases hn with hn | hn
          · rw [hn]
          · rw [hn]; cases hexD a <;> rfl
        simp -implicitDefEqProofs [hlt2, hx, hga]
        refine digit_ev ?_
        simp -implicitDefEqProofs [hlt2, hx, hga, w1, hx2, hlt3, hgb]
        refine digit_ev ?_
        cases hda : hexD a with
        | none =>
          have ea : hexI a = -1 := by unfold hexI; rw [hda]
          simp -implicitDefEqProofs [ea]
          exact hq2 _ oo (fin (.inl hda))
        | some x =>
          have ea : hexI a = (x : Int) := by unfold hexI; rw [hda]
          have nx : ¬ ((x : Int) < 0) := by omega
          cases hdb : hexD b with
          | none =>
            have eb : hexI b = -1 := by unfold hexI; rw [hdb]
            simp -implicitDefEqProofs [ea, eb, nx]
            exact hq2 _ oo (fin (.inr hdb))
          | some y =>
            have eb : hexI b = (y : Int) := by unfold hexI; rw [hdb]
            have ny : ¬ ((y : Int) < 0) := by omega
            have l1 := hexD_lt hda
            have l2 := hexD_lt hdb
            obtain ⟨z, hz⟩ : ∃ z, z = UInt8.ofNat (16 * x + y) := ⟨_, rfl⟩
            have e1 : IntKind.i64.wrap (16 * (x : Int)) = 16 * (x : Int) := w64 (by omega) (by omega)
            have e2 : IntKind.i64.wrap (16 * (x : Int) + (y : Int)) = 16 * (x : Int) + (y : Int) := w64 (by omega) (by omega)
            have ez : IntKind.u8.wrap (16 * (x : Int) + (y : Int)) = (z.toNat : Int) := by rw [wrap8, hz, toNat_ofNat (by omega)]; omega
            have op : Old h' (h'.push (.row 1 false [.int .u8 (z.toNat : Nat)])) := (Old.refl h').push _
            obtain ⟨w4, h4, k1, k2, k3⟩ := Mine.append1 (bytes := 1) (e := [bcell z]) (bm.keep op) (by decide) rfl (by rw [bes_len]; omega) (oo.trans op)
            have k1' : appCore 1 1 (h'.push (.row 1 false [.int .u8 (z.toNat : Nat)])) w 1 [.int .u8 (z.toNat : Nat)] = .ok (w4, h4) := k1
            have k2' : BM h h4 w4 (t ++ [z]) := by unfold BM; rw [bes_append]; exact k2
            simp -implicitDefEqProofs [ea, eb, nx, ny, e1, e2, ez, buildSliceR, reps, k1', w2]
            have ht2 : hexP (s.take (i + 2)) = some (t ++ [z]) := by
              have e : s.take (i + 2) = s.take i ++ [a, b] := by
                rw [List.take_succ_eq_append_getElem hlt3, List.take_succ_eq_append_getElem hlt2, hga, hgb]; simp
              rw [e, hexP_app ht, hda, hdb, hz]; rfl
            exact .mk (m := m - 1) (by omega) (by rw [hI]; exact ⟨k3, j + 1, i + 2, t ++ [z], w4, by omega, by omega, ht2, k2', rfl⟩)
      · have hlt2 : ¬ i < s.length := by omega
        have hcv : convR (cfgR ro) h' 36 9 w = .ok (.str t) := bm.toBS.conv un36 un9 un5
        simp -implicitDefEqProofs [-convR, hlt2, hcv]
        rw [List.take_of_length_le (by omega)] at ht
        exact hq1 h' t oo (by unfold hexF; rw [if_neg c, ht])
  · simp -implicitDefEqProofs [c2]
    refine hq2 _ (Old.refl h) ?_
    unfold hexF
    split
    · rfl
    · cases hp : hexP s with
      | none => rfl
      | some t =>
        have := hexP_len hp
        rw [Int.tmod_eq_emod_of_nonneg (by omega)] at c2
        omega
theorem wordsF_cut2 {s : Str} {f i : Nat} {W : List Str} (hW : wordsF s = W ++ wordsF (s.drop f)) (hfi : f ≤ i) (hno : ∀ b ∈ (s.take i).drop f, b ≠ 32) (hx : s[i]? = some 32) : wordsF s = (W ++ [(s.take i).drop f]) ++ wordsF (s.drop (i + 1)) := by
  obtain ⟨hl, e⟩ := List.getElem?_eq_some_iff.1 hx
  have h1 : s.drop f = (s.take i).drop f ++ 32 :: s.drop (i + 1) := by
    have := List.take_append_drop i s
    rw [List.drop_eq_getElem_cons hl, e] at this
    conv => lhs; rw [← this]
    rw [List.drop_append_of_le_length (by rw [List.length_take]; omega)]
  rw [hW, h1, wordsF_cut _ _ hno]; simp
theorem rwords_ev {s : Str} (hs : s.length < 2 ^ 30) {Q : AVal → AHeap → Prop} (hq : ∀ v h', Old h h' → Mine h h' 1 ((wordsF s).map fun w => [.str w]) v → Q v h') : Ev (cfgR ro) 26 [.str s] h Q := by
  refine Ev.wp rfl rfl Tryz.func26 rfl ?_
  simp -implicitDefEqProofs [Tryz.f26]
  have hle := words_le (s := s)
  obtain ⟨I, hI⟩ : ∃ I : Nat → List AVal → AHeap → Prop, I = fun m env h' => Old h h' ∧ ∃ (f i : Nat) (W : List Str) (w : AVal), i + m = s.length ∧ f ≤ i ∧ wordsF s = W ++ wordsF (s.drop f) ∧ (∀ b ∈ (s.take i).drop f, b ≠ 32) ∧ Mine h h' 1 (W.map fun w => [AVal.str w]) w ∧
    env = (.str s :: .dead :: .dead :: w :: .int .i64 (f : Nat) :: .int .i64 (i : Nat) :: .dead :: .dead :: .dead :: .dead :: .dead :: .dead :: .dead :: .dead :: .dead :: .dead :: .dead :: .dead :: .dead :: .dead :: .dead :: .dead :: .dead :: .dead :: .dead :: .dead :: .dead :: .dead :: .dead :: .dead :: .dead :: []) := ⟨_, rfl⟩
  refine loop_of I ?_ s.length (by rw [hI]; exact ⟨Old.refl h, 0, 0, [], .nils, by omega, by omega, rfl, (by simp), Mine.nil _ _ _, rfl⟩)
  intro m env h' hi
  rw [hI] at hi
  obtain ⟨oo, f, i, W, w, him, hfi, hW, hno, mm, rfl⟩ := hi
  have hWl : W.length < 2 ^ 31 := by have := congrArg List.length hW; rw [List.length_append] at this; omega
  by_cases hlt : i < s.length
  · obtain ⟨b, hb⟩ : ∃ b, s[i]? = some b := ⟨_, List.getElem?_eq_getElem hlt⟩
    have hgb : s[i]'hlt = b := by obtain ⟨_, e⟩ := List.getElem?_eq_some_iff.1 hb; exact e
    have hx : idxNat (.int .i64 (i : Int)) s.length = .ok i := ix_nat hlt
    have w1 : IntKind.i64.wrap ((i : Int) + 1) = ((i + 1 : Nat) : Int) := by rw [w64 (by omega) (by omega)]; omega
    simp -implicitDefEqProofs [hlt, hx, hgb]
    refine orD (fun c => ?_) (fun c => ?_)
    · have hb32 : b = 32 := UInt8.toNat_inj.1 (by show b.toNat = 32; omega)
      rw [hb32] at hb
      have b1 : bounds2 s.length s.length (some (.int .i64 (f : Nat))) (some (.int .i64 (i : Nat))) = .ok (f, i) := bd_both (by omega) hfi _ _
      obtain ⟨x, hxx⟩ : ∃ x, x = (s.take i).drop f := ⟨_, rfl⟩
      have op : Old h' (h'.push (.row 1 false [.str x])) := (Old.refl h').push _
      obtain ⟨w4, h4, k1, k2, k3⟩ := Mine.append1 (bytes := 16) (e := [AVal.str x]) (mm.keep op) (by decide) rfl (by simp; omega) (oo.trans op)
      have hW2 := wordsF_cut2 hW hfi hno hb
      rw [← hxx] at hW2
      simp -implicitDefEqProofs [hlt, hx, hgb, c, b1, ← hxx, buildSliceR, reps, k1, w1]
      exact .mk (m := m - 1) (by omega) (by rw [hI]; exact ⟨k3, i + 1, i + 1, W ++ [x], w4, by omega, by omega, hW2, (by rw [List.drop_of_length_le (by rw [List.length_take]; omega)]; simp), by rw [List.map_append]; exact k2, rfl⟩)
    · have hno2 : ∀ y ∈ (s.take (i + 1)).drop f, y ≠ 32 := by
        intro y hy
        rw [List.take_succ_eq_append_getElem hlt, hgb, List.drop_append_of_le_length (by rw [List.length_take]; omega)] at hy
        rcases List.mem_append.1 hy with hy | hy
        · exact hno y hy
        · rw [List.mem_singleton.1 hy]
          intro e
          exact c (by rw [e]; rfl)
      simp -implicitDefEqProofs [hlt, hx, hgb, c, w1]
      exact .mk (m := m - 1) (by omega) (by rw [hI]; exact ⟨oo, f, i + 1, W, w, by omega, by omega, hW, hno2, mm, rfl⟩)
  · have hti : s.take i = s := List.take_of_length_le (by omega)
    rw [hti] at hno
    have b1 : bounds2 s.length s.length (some (.int .i64 (f : Nat))) none = .ok (f, s.length) := bd_from (by omega) _
    have hW2 : wordsF s = W ++ [s.drop f] := by rw [hW, wordsF_no _ hno]
    obtain ⟨x, hxx⟩ : ∃ x, x = s.drop f := ⟨_, rfl⟩
    have op : Old h' (h'.push (.row 1 false [.str x])) := (Old.refl h').push _
    obtain ⟨w4, h4, k1, k2, k3⟩ := Mine.append1 (bytes := 16) (e := [AVal.str x]) (mm.keep op) (by decide) rfl (by simp; omega) (oo.trans op)
    have htk : (s.take s.length).drop f = x := by rw [List.take_length, hxx]
    simp -implicitDefEqProofs [hlt, b1, htk, ← hxx, buildSliceR, reps, k1]
    exact hq w4 h4 k3 (by rw [hW2, ← hxx, List.map_append]; exact k2)
end
end Go.Proofs.YtofnbldbggddmaaGreatDoor
set_option linter.all false
set_option maxRecDepth 100000
set_option maxHeartbeats 4000000
namespace Go.Proofs.YtofnbldbggddmaaGreatDoor
open Go Go.RowKit Go.Proofs
section
variable {ro : Nat → Option (List AVal)} {h : AHeap} {v : AVal} {ws : List Str}
theorem numI_neg {s : Str} (h : numF s = none) : numI s < 0 := by rw [numI_none h]; decide
theorem numI_nn {s : Str} {v : Nat} (h : numF s = some v) : ¬ numI s < 0 := by rw [numI_some h]; omega
theorem nums1 (a : Str) : numsF [a] 1 = (match numF a with
    | some x => some [x]
    | none => none) := by
  show numsM [a] = _
  simp only [numsM]
  cases numF a <;> rfl
theorem nums2 (a b : Str) : numsF [a, b] 2 = (match numF a, numF b with
    | some x, some y => some [x, y]
    | _, _ => none) := by
  show numsM [a, b] = _
  simp only [numsM]
  cases numF a <;> cases numF b <;> rfl
theorem redit_ev {line : Str} (W : WS ro h v ws) (hl : line = Lib.join ws [32]) (hll : line.length ≤ 500) {Q : AVal → AHeap → Prop} (hq1 : ∀ e, editF (ws.drop 3) = some e → Q (.tuple [edA e, .bool true]) h) (hq2 : ∀ (k a b c : Int) (t : Str), editF (ws.drop 3) = none → Q (.tuple [.agg [.int .i64 k, .int .i64 a, .int .i64 b, .int .i64 c, .str t], .bool false]) h) :
    Ev (cfgR ro) 37 [v, .str line] h Q := by
  refine Ev.wp rfl rfl Tryz.func37 rfl ?_
  have hL := W.len
  simp -implicitDefEqProofs [Tryz.f37, hL]
  refine orD (fun c0 => ?_) (fun c0 => ?_)
  · simp -implicitDefEqProofs [c0]
    exact hq2 0 0 0 0 [] (by rw [List.drop_of_length_le (by omega)]; rfl)
  · obtain ⟨w0, w1, w2, w, r, rfl⟩ : ∃ w0 w1 w2 w r, ws = w0 :: w1 :: w2 :: w :: r := by
      match ws, c0 with
      | [], c0 => simp at c0
      | [_], c0 => simp at c0
      | [_, _], c0 => simp at c0
      | [_, _, _], c0 => simp at c0
      | w0 :: w1 :: w2 :: w :: r, _ => exact ⟨w0, w1, w2, w, r, rfl⟩
    have e3 : indexAddrR Tryz.prog 67 v (.int .i64 3) = .ok (elp v 1 3) := W.ix (i := 3) (w := w) rfl
    have l3 := W.ld (i := 3) (w := w) rfl
    have hq1 : ∀ e, editF (w :: r) = some e → Q (.tuple [edA e, .bool true]) h := hq1
    have hq2 : ∀ (k a b c : Int) (t : Str), editF (w :: r) = none → Q (.tuple [.agg [.int .i64 k, .int .i64 a, .int .i64 b, .int .i64 c, .str t], .bool false]) h := hq2
    have j0 : idxNat (.int .i64 0) 4 = .ok 0 := ix_nat (i := 0) (by decide)
    have j1 : idxNat (.int .i64 1) 4 = .ok 1 := ix_nat (i := 1) (by decide)
    have j2 : idxNat (.int .i64 2) 4 = .ok 2 := ix_nat (i := 2) (by decide)
    simp -implicitDefEqProofs [e3, l3]
    refine orD (fun c1 => ?_) (fun c1 => ?_)
    · simp -implicitDefEqProofs [c1, hL]
      refine orD (fun c2 => ?_) (fun c2 => ?_)
      · simp -implicitDefEqProofs [c1, c2]
        refine hq2 0 0 0 0 [] ?_
        show (if w = sIns then _ else _) = none
        rw [if_pos c1]
        rcases r with _ | ⟨a, _ | ⟨b, t⟩⟩
        · rfl
        · rfl
        · simp at c2; omega
      · obtain ⟨a, b, t, rfl⟩ : ∃ a b t, r = a :: b :: t := by
          rcases r with _ | ⟨a, _ | ⟨b, t⟩⟩
          · simp at c2
          · simp at c2
          · exact ⟨_, _, _, rfl⟩
        have hed : editF (w :: a :: b :: t) = (match numF a, unqS (Lib.join (b :: t) [32]) with
            | some n, some x => some ⟨1, n, 0, 0, x⟩
            | _, _ => none) := by
          show (if w = sIns then _ else _) = _
          rw [if_pos c1]
          rfl
        have nl : ¬ ((t.length : Int) + 1 + 1 + 1 + 1 + 1 + 1 < 6) := by omega
        have ei0 : indexAddrR Tryz.prog 67 v (.int .i64 0) = .ok (elp v 1 0) := W.ix (i := 0) (w := w0) rfl
        have li0 := W.ld (i := 0) (w := w0) rfl
        have wl0 := W.w w0 (by simp)
        have ei1 : indexAddrR Tryz.prog 67 v (.int .i64 1) = .ok (elp v 1 1) := W.ix (i := 1) (w := w1) rfl
        have li1 := W.ld (i := 1) (w := w1) rfl
        have wl1 := W.w w1 (by simp)
        have ei2 : indexAddrR Tryz.prog 67 v (.int .i64 2) = .ok (elp v 1 2) := W.ix (i := 2) (w := w2) rfl
        have li2 := W.ld (i := 2) (w := w2) rfl
        have wl2 := W.w w2 (by simp)
        have ei3 : indexAddrR Tryz.prog 67 v (.int .i64 3) = .ok (elp v 1 3) := W.ix (i := 3) (w := w) rfl
        have li3 := W.ld (i := 3) (w := w) rfl
        have wl3 := W.w w (by simp)
        have ei4 : indexAddrR Tryz.prog 67 v (.int .i64 4) = .ok (elp v 1 4) := W.ix (i := 4) (w := a) rfl
        have li4 := W.ld (i := 4) (w := a) rfl
        have wl4 := W.w a (by simp)
        simp -implicitDefEqProofs [c1, c2, nl, ei4, li4]
        refine rnum_ev ?_
        cases hn : numF a with
        | none =>
          have en := numI_none hn
          simp -implicitDefEqProofs [en]
          exact hq2 0 0 0 0 [] (by rw [hed, hn])
        | some n =>
          have en := numI_some hn
          have nn : ¬ ((n : Int) < 0) := by omega
          simp -implicitDefEqProofs [en, nn]
          obtain ⟨S, hS⟩ : ∃ S : Nat → Nat, S = fun i => ((([w0, w1, w2, w, a] : List Str).take i).map fun x => x.length + 1).sum := ⟨_, rfl⟩
          obtain ⟨I, hI⟩ : ∃ I : Nat → List AVal → AHeap → Prop, I = fun m env h' => h' = h ∧ ∃ (i s : Nat), i + m = 5 ∧ s = S i ∧
            env = (v :: .str line :: .dead :: .dead :: .cell [.int .i64 0, .int .i64 0, .int .i64 0, .int .i64 0, .str []] :: .dead :: .int .i64 (s : Nat) :: .int .i64 (i : Nat) :: .dead :: .dead :: .dead :: .dead :: .dead :: .dead :: .dead :: .dead :: .dead :: .dead :: .dead :: .dead :: .dead :: .dead :: .dead :: .dead :: .dead :: .dead :: .dead :: .dead :: .dead :: .dead :: .dead :: .dead :: .dead :: .dead :: .dead :: .dead :: .dead :: .dead :: .dead :: .dead :: .dead :: .dead :: .dead :: .dead :: .dead :: .dead :: .dead :: .dead :: .dead :: .dead :: .dead :: .dead :: .dead :: .dead :: .dead :: .dead :: .dead :: .dead :: .dead :: .dead :: .dead :: .dead :: .dead :: .dead :: .dead :: .dead :: .dead :: .dead :: .dead :: .dead :: .dead :: .dead :: .dead :: .dead :: .dead :: .dead :: .dead :: .dead :: .dead :: .dead :: .dead :: .dead :: .dead :: .dead :: .dead :: .dead :: .dead :: .dead :: .dead :: []) := ⟨_, rfl⟩
          refine loop_of I ?_ 5 (by rw [hI]; exact ⟨rfl, 0, 0, by omega, by rw [hS]; rfl, rfl⟩)
          intro m env h' hi
          rw [hI] at hi
          obtain ⟨rfl, i, s, him, hs, rfl⟩ := hi
          have hi7 : i = 0 ∨ i = 1 ∨ i = 2 ∨ i = 3 ∨ i = 4 ∨ i = 5 := by omega
          rcases hi7 with rfl | rfl | rfl | rfl | rfl | rfl
          · have wr1 : IntKind.i64.wrap 1 = 1 := by decide
            have hs2 : s ≤ 2 ^ 34 := by rw [hs, hS]; simp <;> omega
            have wr2 : IntKind.i64.wrap ((s : Int) + (w0.length : Int)) = (s : Int) + (w0.length : Int) := w64 (by omega) (by omega)
            have wr3 : IntKind.i64.wrap ((s : Int) + (w0.length : Int) + 1) = (s : Int) + (w0.length : Int) + 1 := w64 (by omega) (by omega)
            have hs3 : s + w0.length + 1 = S 1 := by rw [hs, hS]; simp <;> try omega
            simp -implicitDefEqProofs [ei0, li0, wr1, wr2, wr3]
            exact .mk (m := m - 1) (by omega) (by rw [hI]; exact ⟨rfl, 1, s + w0.length + 1, by omega, hs3, rfl⟩)
          · have wr1 : IntKind.i64.wrap 2 = 2 := by decide
            have hs2 : s ≤ 2 ^ 34 := by rw [hs, hS]; simp <;> omega
            have wr2 : IntKind.i64.wrap ((s : Int) + (w1.length : Int)) = (s : Int) + (w1.length : Int) := w64 (by omega) (by omega)
            have wr3 : IntKind.i64.wrap ((s : Int) + (w1.length : Int) + 1) = (s : Int) + (w1.length : Int) + 1 := w64 (by omega) (by omega)
            have hs3 : s + w1.length + 1 = S 2 := by rw [hs, hS]; simp <;> try omega
            simp -implicitDefEqProofs [ei1, li1, wr1, wr2, wr3]
            exact .mk (m := m - 1) (by omega) (by rw [hI]; exact ⟨rfl, 2, s + w1.length + 1, by omega, hs3, rfl⟩)
          · have wr1 : IntKind.i64.wrap 3 = 3 := by decide
            have hs2 : s ≤ 2 ^ 34 := by rw [hs, hS]; simp <;> omega
            have wr2 : IntKind.i64.wrap ((s : Int) + (w2.length : Int)) = (s : Int) + (w2.length : Int) := w64 (by omega) (by omega)
            have wr3 : IntKind.i64.wrap ((s : Int) + (w2.length : Int) + 1) = (s : Int) + (w2.length : Int) + 1 := w64 (by omega) (by omega)
            have hs3 : s + w2.length + 1 = S 3 := by rw [hs, hS]; simp <;> try omega
            simp -implicitDefEqProofs [ei2, li2, wr1, wr2, wr3]
            exact .mk (m := m - 1) (by omega) (by rw [hI]; exact ⟨rfl, 3, s + w2.length + 1, by omega, hs3, rfl⟩)
          · have wr1 : IntKind.i64.wrap 4 = 4 := by decide
            have hs2 : s ≤ 2 ^ 34 := by rw [hs, hS]; simp <;> omega
            have wr2 : IntKind.i64.wrap ((s : Int) + (w.length : Int)) = (s : Int) + (w.length : Int) := w64 (by omega) (by omega)
            have wr3 : IntKind.i64.wrap ((s : Int) + (w.length : Int) + 1) = (s : Int) + (w.length : Int) + 1 := w64 (by omega) (by omega)
            have hs3 : s + w.length + 1 = S 4 := by rw [hs, hS]; simp <;> try omega
            simp -implicitDefEqProofs [ei3, li3, wr1, wr2, wr3]
            exact .mk (m := m - 1) (by omega) (by rw [hI]; exact ⟨rfl, 4, s + w.length + 1, by omega, hs3, rfl⟩)
          · have wr1 : IntKind.i64.wrap 5 = 5 := by decide
            have hs2 : s ≤ 2 ^ 34 := by rw [hs, hS]; simp <;> omega
            have wr2 : IntKind.i64.wrap ((s : Int) + (a.length : Int)) = (s : Int) + (a.length : Int) := w64 (by omega) (by omega)
            have wr3 : IntKind.i64.wrap ((s : Int) + (a.length : Int) + 1) = (s : Int) + (a.length : Int) + 1 := w64 (by omega) (by omega)
            have hs3 : s + a.length + 1 = S 5 := by rw [hs, hS]; simp <;> try omega
            simp -implicitDefEqProofs [ei4, li4, wr1, wr2, wr3]
            exact .mk (m := m - 1) (by omega) (by rw [hI]; exact ⟨rfl, 5, s + a.length + 1, by omega, hs3, rfl⟩)
          · have hcut : line = (w0 ++ 32 :: (w1 ++ 32 :: (w2 ++ 32 :: (w ++ 32 :: (a ++ [32]))))) ++ Lib.join (b :: t) [32] := by
              rw [hl, join_two, join_two, join_two, join_two, join_two]; simp
            have hsl : s = (w0 ++ 32 :: (w1 ++ 32 :: (w2 ++ 32 :: (w ++ 32 :: (a ++ [32]))))).length := by rw [hs, hS]; simp; omega
            have hle : s ≤ line.length := by
              have := congrArg List.length hcut
              rw [List.length_append, ← hsl] at this
              omega
            have hdr : line.drop s = Lib.join (b :: t) [32] := by
              rw [hcut, hsl]; exact List.drop_left' rfl
            have hjl : (Lib.join (b :: t) [32]).length < 2 ^ 30 := by rw [← hdr, List.length_drop]; omega
            have b1 : bounds2 line.length line.length (some (.int .i64 (s : Nat))) none = .ok (s, line.length) := bd_from hle _
            have htk : (line.take line.length).drop s = Lib.join (b :: t) [32] := by rw [List.take_length, hdr]
            simp -implicitDefEqProofs [b1, htk, hdr]
            refine runq_ev hjl (fun x hx => ?_) (fun y hx => ?_)
            · simp -implicitDefEqProofs [ei4, li4]
              refine rnum_ev ?_
              simp -implicitDefEqProofs [en]
              exact hq1 ⟨1, n, 0, 0, x⟩ (by rw [hed, hn, hx])
            · simp -implicitDefEqProofs [ei4, li4]
              refine rnum_ev ?_
              simp -implicitDefEqProofs [en]
              exact hq2 1 n 0 0 y (by rw [hed, hn, hx])
    · simp -implicitDefEqProofs [c1]
      refine orD (fun c2 => ?_) (fun c2 => ?_)
      · have hed : editF (w :: r) = (match numsF r 2 with
            | some [a, b] => some ⟨2, a, b, 0, []⟩
            | _ => none) := by
          show (if w = sIns then _ else if w = sDel then _ else _) = _
          rw [if_neg c1, if_pos c2]
          rfl
        simp -implicitDefEqProofs [c1, c2]
        refine rnums42_ev W (fun x y hlen hns => ?_) (fun a b c d hns => ?_)
        · have hns : numsF r 2 = some [x, y] := hns
          simp -implicitDefEqProofs [arr4, j0, j1, j2]
          exact hq1 ⟨2, x, y, 0, []⟩ (by rw [hed, hns])
        · simp -implicitDefEqProofs [arr4, j0, j1, j2]
          refine hq2 2 a b 0 [] ?_
          rw [hed]
          by_cases hr2 : r.length = 2
          · have hns : numsF r 2 = none := hns (by simp [hr2])
            rw [hns]
          · have : numsF r 2 = none := by unfold numsF; rw [if_neg hr2]
            rw [this]
      · simp -implicitDefEqProofs [c1, c2]
        refine orD (fun c3 => ?_) (fun c3 => ?_)
        · have hed : editF (w :: r) = (match numsF r 3 with
              | some [a, b, c] => some ⟨3, a, b, c, []⟩
              | _ => none) := by
            show (if w = sIns then _ else if w = sDel then _ else if w = sMov then _ else _) = _
            rw [if_neg c1, if_neg c2, if_pos c3]
            rfl
          simp -implicitDefEqProofs [c1, c2, c3]
          refine rnums43_ev W (fun x y z hlen hns => ?_) (fun a b c d hns => ?_)
          · have hns : numsF r 3 = some [x, y, z] := hns
            simp -implicitDefEqProofs [arr4, j0, j1, j2]
            exact hq1 ⟨3, x, y, z, []⟩ (by rw [hed, hns])
          · simp -implicitDefEqProofs [arr4, j0, j1, j2]
            refine hq2 3 a b c [] ?_
            rw [hed]
            by_cases hr2 : r.length = 3
            · have hns : numsF r 3 = none := hns (by simp [hr2])
              rw [hns]
            · have : numsF r 3 = none := by unfold numsF; rw [if_neg hr2]
              rw [this]
        · simp -implicitDefEqProofs [c1, c2, c3]
          refine hq2 0 0 0 0 [] ?_
          show (if w = sIns then _ else if w = sDel then _ else if w = sMov then _ else _) = _
          rw [if_neg c1, if_neg c2, if_neg c3]
end
end Go.Proofs.YtofnbldbggddmaaGreatDoor
set_option linter.all false
set_option maxRecDepth 100000
set_option maxHeartbeats 4000000
namespace Go.Proofs.YtofnbldbggddmaaGreatDoor
open Go Go.RowKit Go.Proofs
def cC (kind n a u k : Int) (e : EdV) (m : HmV) : AVal := .agg [.int .i64 kind, .int .i64 n, .int .i64 a, .int .i64 u, .int .i64 k, .int .i64 (e.kind : Nat), .int .i64 (e.at_ : Nat), .int .i64 (e.to : Nat), .int .i64 (e.dest : Nat), .str e.text, .int .i64 (m.kind : Nat), .int .i64 (m.at_ : Nat), .int .u32 (m.bits : Nat), .str m.more]
section
variable {ro : Nat → Option (List AVal)} {h : AHeap} {v : AVal} {ws : List Str}
theorem rharm_ev {kind a u k : Int} (W : WS ro h v ws) (hl3 : 3 ≤ ws.length) {Q : AVal → AHeap → Prop} (hq1 : ∀ h' m, Old h h' → harmF (ws.drop 3) = some m → Q (.tuple [cC kind 0 a u k EdV.zero m, .bool true]) h') (hq2 : ∀ h' m, Old h h' → harmF (ws.drop 3) = none → Q (.tuple [cC kind 0 a u k EdV.zero m, .bool false]) h') :
    Ev (cfgR ro) 38 [cC kind 0 a u k EdV.zero HmV.zero, v] h Q := by
  refine Ev.wp rfl rfl Tryz.func38 rfl ?_
  have hL := W.len
  obtain ⟨w0, w1, w2, r, rfl⟩ : ∃ w0 w1 w2 r, ws = w0 :: w1 :: w2 :: r := by
    match ws, hl3 with
    | [], c0 => simp at c0
    | [_], c0 => simp at c0
    | [_, _], c0 => simp at c0
    | w0 :: w1 :: w2 :: r, _ => exact ⟨w0, w1, w2, r, rfl⟩
  have hq1 : ∀ h' m, Old h h' → harmF r = some m → Q (.tuple [cC kind 0 a u k EdV.zero m, .bool true]) h' := hq1
  have hq2 : ∀ h' m, Old h h' → harmF r = none → Q (.tuple [cC kind 0 a u k EdV.zero m, .bool false]) h' := hq2
  rcases r with _ | ⟨w, _ | ⟨x, _ | ⟨y, _ | ⟨z, t⟩⟩⟩⟩
  · simp -implicitDefEqProofs [Tryz.f38, hL, cC, EdV.zero, HmV.zero]
    exact hq1 h HmV.zero (Old.refl h) rfl
  · have e3 : indexAddrR Tryz.prog 67 v (.int .i64 3) = .ok (elp v 1 3) := W.ix (i := 3) (w := w) rfl
    have l3 := W.ld (i := 3) (w := w) rfl
    simp -implicitDefEqProofs [Tryz.f38, hL, cC, EdV.zero, HmV.zero, e3, l3]
    refine orD (fun c1 => ?_) (fun c1 => ?_)
    · simp -implicitDefEqProofs [c1, e3, l3, hL]
      exact hq2 h HmV.zero (Old.refl h) rfl
    · simp -implicitDefEqProofs [c1, e3, l3, hL]
      refine orD (fun c2 => ?_) (fun c2 => ?_)
      · simp -implicitDefEqProofs [c1, c2, e3, l3, hL]
        exact hq2 h HmV.zero (Old.refl h) rfl
      · simp -implicitDefEqProofs [c1, c2, e3, l3, hL]
        refine orD (fun c3 => ?_) (fun c3 => ?_)
        · simp -implicitDefEqProofs [c1, c2, c3, e3, l3, hL]
          exact hq2 h HmV.zero (Old.refl h) rfl
        · simp -implicitDefEqProofs [c1, c2, c3, e3, l3, hL]
          exact hq2 h HmV.zero (Old.refl h) rfl
  · have e3 : indexAddrR Tryz.prog 67 v (.int .i64 3) = .ok (elp v 1 3) := W.ix (i := 3) (w := w) rfl
    have l3 := W.ld (i := 3) (w := w) rfl
    have e4 : indexAddrR Tryz.prog 67 v (.int .i64 4) = .ok (elp v 1 4) := W.ix (i := 4) (w := x) rfl
    have l4 := W.ld (i := 4) (w := x) rfl
    have hx : x.length < 2 ^ 30 := W.w x (by simp)
    simp -implicitDefEqProofs [Tryz.f38, hL, cC, EdV.zero, HmV.zero, e4, l4]
    refine rnum_ev ?_
    simp -implicitDefEqProofs [e3, l3]
    refine orD (fun c1 => ?_) (fun c1 => ?_)
    · simp -implicitDefEqProofs [c1, e3, l3, hL]
      refine hq2 h HmV.zero (Old.refl h) ?_
      subst c1; rfl
    · simp -implicitDefEqProofs [c1, e3, l3, hL]
      refine orD (fun c2 => ?_) (fun c2 => ?_)
      · have hh : harmF [w, x] = (match numF x with
            | some n => some ⟨2, n, 0, []⟩
            | none => none) := by
          show (if w = sCut then _ else _) = _
          rw [if_pos c2]
          rfl
        cases hn : numF x with
        | none =>
          have en := numI_none hn
          simp -implicitDefEqProofs [c1, c2, e3, l3, hL, en]
          exact hq2 h HmV.zero (Old.refl h) (by rw [hh, hn])
        | some n =>
          have en := numI_some hn
          simp -implicitDefEqProofs [c1, c2, e3, l3, hL, en]
          exact hq1 h ⟨2, n, 0, []⟩ (Old.refl h) (by rw [hh, hn])
      · simp -implicitDefEqProofs [c1, c2, e3, l3, hL]
        refine orD (fun c3 => ?_) (fun c3 => ?_)
        · have hh : harmF [w, x] = (match hexF x with
              | some x => some ⟨3, 0, 0, x⟩
              | none => none) := by
            show (if w = sCut then _ else if w = sTail then _ else _) = _
            rw [if_neg c2, if_pos c3]
            rfl
          simp -implicitDefEqProofs [c1, c2, c3, e3, l3, hL, e4, l4]
          refine hex51_ev hx (fun h2 t o2 ht => ?_) (fun h2 o2 ht => ?_)
          · simp -implicitDefEqProofs
            exact hq1 h2 ⟨3, 0, 0, t⟩ o2 (by rw [hh, ht])
          · simp -implicitDefEqProofs
            exact hq2 h2 ⟨3, 0, 0, []⟩ o2 (by rw [hh, ht])
        · simp -implicitDefEqProofs [c1, c2, c3, e3, l3, hL]
          refine hq2 h HmV.zero (Old.refl h) ?_
          show (if w = sCut then _ else if w = sTail then _ else _) = _
          rw [if_neg c2, if_neg c3]
  · have e3 : indexAddrR Tryz.prog 67 v (.int .i64 3) = .ok (elp v 1 3) := W.ix (i := 3) (w := w) rfl
    have l3 := W.ld (i := 3) (w := w) rfl
    have e4 : indexAddrR Tryz.prog 67 v (.int .i64 4) = .ok (elp v 1 4) := W.ix (i := 4) (w := x) rfl
    have l4 := W.ld (i := 4) (w := x) rfl
    have e5 : indexAddrR Tryz.prog 67 v (.int .i64 5) = .ok (elp v 1 5) := W.ix (i := 5) (w := y) rfl
    have l5 := W.ld (i := 5) (w := y) rfl
    have hy : y.length < 2 ^ 30 := W.w y (by simp)
    have last : ¬ (w = sFlip ∧ y.length = 8) → harmF [w, x, y] = none := fun q => by
      show (if w = sFlip ∧ y.length = 8 then _ else _) = _
      rw [if_neg q]
    have lastn : numF x = none → harmF [w, x, y] = none := fun q => by
      show (if w = sFlip ∧ y.length = 8 then _ else _) = _
      split
      · rw [q]
      · rfl
    simp -implicitDefEqProofs [Tryz.f38, hL, cC, EdV.zero, HmV.zero, e4, l4]
    refine rnum_ev ?_
    simp -implicitDefEqProofs [e3, l3]
    refine orD (fun c1 => ?_) (fun c1 => ?_)
    · cases hn : numF x with
      | none =>
        have en := numI_none hn
        simp -implicitDefEqProofs [c1, e3, l3, hL, en]
        exact hq2 h HmV.zero (Old.refl h) (lastn hn)
      | some n =>
        have en := numI_some hn
        simp -implicitDefEqProofs [c1, e3, l3, hL, en, e5, l5]
        refine orD (fun c2 => ?_) (fun c2 => ?_)
        · have hh : harmF [w, x, y] = (match hexF y with
              | some t => some ⟨1, n, bitsF t, []⟩
              | none => none) := by
            show (if w = sFlip ∧ y.length = 8 then _ else _) = _
            rw [if_pos ⟨c1, by omega⟩, hn]
            cases hexF y <;> rfl
          simp -implicitDefEqProofs [c1, c2, e3, l3, hL, en, e5, l5]
          have hex2 : ∀ Q : AVal → AHeap → Prop, (∀ (h2 : AHeap) (t : Str) (ok : Bool), Old h h2 → t.length ≤ 4 → (hexF y = if ok then some t else none) → Q (.tuple [.str t, .bool ok]) h2) → Ev (cfgR ro) 51 [.str y] h Q := fun Q hq => by
            refine hex51_ev hy (fun h2 t o2 ht => ?_) (fun h2 o2 ht => hq h2 [] false o2 (by decide) ht)
            refine hq h2 t true o2 ?_ ht
            have ht' := ht
            unfold hexF at ht'
            split at ht'
            · cases ht'
            · have := hexP_len ht'; omega
          refine hex2 _ (fun h2 t ok o2 htl ht => ?_)
          simp -implicitDefEqProofs
          obtain ⟨I, hI⟩ : ∃ I : Nat → List AVal → AHeap → Prop, I = fun m env h' => h' = h2 ∧ ∃ (i : Nat), i + m = t.length ∧
            env = (.dead :: .dead :: .cell [.int .i64 kind, .int .i64 0, .int .i64 a, .int .i64 u, .int .i64 k, .int .i64 0, .int .i64 0, .int .i64 0, .int .i64 0, .str [], .int .i64 1, .int .i64 (n : Nat), .int .u32 (bitsF (t.take i) : Nat), .str []] :: .dead :: .cell [.int .i64 0, .int .i64 0, .int .i64 0, .int .i64 0, .int .i64 0, .int .i64 0, .int .i64 0, .int .i64 0, .int .i64 0, .str [], .int .i64 0, .int .i64 0, .int .u32 0, .str []] :: .dead :: .dead :: .str t :: .bool ok :: .int .i64 (i : Nat) :: .dead :: .dead :: .dead :: .dead :: .dead :: .dead :: .dead :: .dead :: .dead :: .dead :: .dead :: .dead :: .dead :: .dead :: .dead :: .dead :: .dead :: .dead :: .dead :: .dead :: .dead :: .dead :: .dead :: .dead :: .dead :: .dead :: .dead :: .dead :: .dead :: .dead :: .dead :: .dead :: .dead :: .dead :: .dead :: .dead :: .dead :: .dead :: .dead :: .dead :: .dead :: .dead :: .dead :: .dead :: .dead :: .dead :: .dead :: .dead :: .dead :: .dead :: .dead :: .dead :: .dead :: .dead :: .dead :: .dead :: .dead :: .dead :: .dead :: .dead :: .dead :: .dead :: .dead :: .dead :: .dead :: .dead :: .dead :: .dead :: .dead :: .dead :: .dead :: .dead :: .dead :: .dead :: .dead :: .dead :: .dead :: .dead :: .dead :: .dead :: .dead :: .dead :: .dead :: .dead :: .dead :: .dead :: .dead :: .dead :: .dead :: .dead :: .dead :: .dead :: .dead :: .dead :: .dead :: .dead :: .dead :: .dead :: .dead :: []) := ⟨_, rfl⟩
          refine loop_of I ?_ t.length (by rw [hI]; exact ⟨rfl, 0, by omega, rfl⟩)
          intro m env h' hi2
          rw [hI] at hi2
          obtain ⟨rfl, i, him, rfl⟩ := hi2
          by_cases hlt : i < t.length
          · have w1 : IntKind.i64.wrap ((i : Int) + 1) = ((i + 1 : Nat) : Int) := by rw [w64 (by omega) (by omega)]; omega
            have hix : idxNat (.int .i64 (i : Int)) t.length = .ok i := ix_nat hlt
            have hsn := bitsF_snoc (t.take i) t[i]
            have ht1 : t.take (i + 1) = t.take i ++ [t[i]] := List.take_succ_eq_append_getElem hlt
            have hbl := bitsF_lt i (t.take i) (by rw [List.length_take]; omega)
            have hb24 : bitsF (t.take i) < 2 ^ 24 := Nat.lt_of_lt_of_le hbl (by
              have : i ≤ 3 := by omega
              exact Nat.le_trans (Nat.pow_le_pow_right (by decide) this) (by decide))
            obtain ⟨z, hz⟩ : ∃ z, z = bitsF (t.take i) := ⟨_, rfl⟩
            rw [← hz] at hsn hb24 ⊢
            obtain ⟨cc, hcc⟩ : ∃ cc, t[i]'hlt = cc := ⟨_, rfl⟩
            rw [hcc] at hsn ht1
            have hc8 := cc.toNat_lt
            have ec : IntKind.u32.wrap (cc.toNat : Int) = (cc.toNat : Int) := by rw [wrap32]; omega
            have em : IntKind.u32.wrap ((z : Int) * 256) = ((z * 256 : Nat) : Int) := by rw [wrap32]; omega
            obtain ⟨z3, hz3⟩ : ∃ z3, z3 = z * 256 := ⟨_, rfl⟩
            rw [← hz3] at em hsn
            have ea : IntKind.u32.wrap ((z3 : Int) + (cc.toNat : Int)) = ((z3 + cc.toNat : Nat) : Int) := by rw [wrap32]; omega
            simp -implicitDefEqProofs [hlt, hix, hcc, ec, em, ea, w1, same_self]
            exact .mk (m := m - 1) (by omega) (by rw [hI]; exact ⟨rfl, i + 1, by omega, by rw [ht1, hsn]; rfl⟩)
          · have hti : t.take i = t := List.take_of_length_le (by omega)
            rw [hti]
            cases ok with
            | false =>
              simp -implicitDefEqProofs [hlt]
              exact hq2 h' ⟨1, n, bitsF t, []⟩ o2 (by rw [hh, ht]; rfl)
            | true =>
              simp -implicitDefEqProofs [hlt]
              exact hq1 h' ⟨1, n, bitsF t, []⟩ o2 (by rw [hh, ht]; rfl)
        · simp -implicitDefEqProofs [c1, c2, e3, l3, hL, en, e5, l5]
          exact hq2 h HmV.zero (Old.refl h) (last (fun q => by omega))
    · simp -implicitDefEqProofs [c1, e3, l3, hL]
      refine orD (fun c2 => ?_) (fun c2 => ?_)
      · simp -implicitDefEqProofs [c1, c2, e3, l3, hL]
        exact hq2 h HmV.zero (Old.refl h) (last (fun q => c1 q.1))
      · simp -implicitDefEqProofs [c1, c2, e3, l3, hL]
        refine orD (fun c3 => ?_) (fun c3 => ?_)
        · simp -implicitDefEqProofs [c1, c2, c3, e3, l3, hL]
          exact hq2 h HmV.zero (Old.refl h) (last (fun q => c1 q.1))
        · simp -implicitDefEqProofs [c1, c2, c3, e3, l3, hL]
          exact hq2 h HmV.zero (Old.refl h) (last (fun q => c1 q.1))
  · have e3 : indexAddrR Tryz.prog 67 v (.int .i64 3) = .ok (elp v 1 3) := W.ix (i := 3) (w := w) rfl
    have l3 := W.ld (i := 3) (w := w) rfl
    have e4 : indexAddrR Tryz.prog 67 v (.int .i64 4) = .ok (elp v 1 4) := W.ix (i := 4) (w := x) rfl
    have l4 := W.ld (i := 4) (w := x) rfl
    have n6 : ¬ ((t.length : Int) + 1 + 1 + 1 + 1 + 1 + 1 + 1 = 6) := by omega
    have n5 : ¬ ((t.length : Int) + 1 + 1 + 1 + 1 + 1 + 1 + 1 = 5) := by omega
    have n3 : ¬ ((t.length : Int) + 1 + 1 + 1 + 1 + 1 + 1 + 1 = 3) := by omega
    have n4 : (4 : Int) < (t.length : Int) + 1 + 1 + 1 + 1 + 1 + 1 + 1 := by omega
    simp -implicitDefEqProofs [Tryz.f38, hL, cC, EdV.zero, HmV.zero, e4, l4, n3, n4]
    refine rnum_ev ?_
    simp -implicitDefEqProofs [e3, l3]
    refine orD (fun c1 => ?_) (fun c1 => ?_)
    · simp -implicitDefEqProofs [c1, e3, l3, hL, n6, n5]
      exact hq2 h HmV.zero (Old.refl h) rfl
    · simp -implicitDefEqProofs [c1, e3, l3, hL, n6, n5]
      refine orD (fun c2 => ?_) (fun c2 => ?_)
      · simp -implicitDefEqProofs [c1, c2, e3, l3, hL, n6, n5]
        exact hq2 h HmV.zero (Old.refl h) rfl
      · simp -implicitDefEqProofs [c1, c2, e3, l3, hL, n6, n5]
        refine orD (fun c3 => ?_) (fun c3 => ?_)
        · simp -implicitDefEqProofs [c1, c2, c3, e3, l3, hL, n6, n5]
          exact hq2 h HmV.zero (Old.refl h) rfl
        · simp -implicitDefEqProofs [c1, c2, c3, e3, l3, hL, n6, n5]
          exact hq2 h HmV.zero (Old.refl h) rfl
end
end Go.Proofs.YtofnbldbggddmaaGreatDoor
set_option linter.all false
set_option maxRecDepth 100000
set_option maxHeartbeats 4000000
namespace Go.Proofs.YtofnbldbggddmaaGreatDoor
open Go Go.RowKit Go.Proofs
def cX (a0 a1 a2 a3 a4 a5 a6 a7 a8 : Int) (s : Str) (b0 b1 b2 : Int) (t : Str) : AVal := .agg [.int .i64 a0, .int .i64 a1, .int .i64 a2, .int .i64 a3, .int .i64 a4, .int .i64 a5, .int .i64 a6, .int .i64 a7, .int .i64 a8, .str s, .int .i64 b0, .int .i64 b1, .int .u32 b2, .str t]
section
variable {ro : Nat → Option (List AVal)} {h : AHeap} {v : AVal} {ws : List Str}
theorem rtwo1_ev {line : Str} (W : WS ro h v ws) (hl : line = Lib.join ws [32]) (hll : line.length ≤ 500) {Q : AVal → AHeap → Prop} (hq1 : ∀ h' st, Old h h' → stepF 1 (ws.drop 1) = some st → Q (.tuple [cC 1 0 (st.at_ : Nat) (st.user : Nat) (st.k : Nat) (st.ed.getD EdV.zero) st.hm, .bool true]) h')
    (hq2 : ∀ h' a0 a1 a2 a3 a4 a5 a6 a7 a8 s b0 b1 b2 t, Old h h' → stepF 1 (ws.drop 1) = none → Q (.tuple [cX a0 a1 a2 a3 a4 a5 a6 a7 a8 s b0 b1 b2 t, .bool false]) h') :
    Ev (cfgR ro) 27 [cC 1 0 0 0 0 EdV.zero HmV.zero, v, .str line] h Q := by
  refine Ev.wp rfl rfl Tryz.func27 rfl ?_
  have hL := W.len
  by_cases hl3 : ws.length < 3
  · have hl3' : (ws.length : Int) < 3 := by omega
    simp -implicitDefEqProofs [Tryz.f27, hL, cC, EdV.zero, HmV.zero, hl3']
    exact hq2 h 1 0 0 0 0 0 0 0 0 [] 0 0 0 [] (Old.refl h) (by unfold stepF; rw [if_neg (by decide), if_pos (by rw [List.length_drop]; omega)])
  · obtain ⟨w0, a, b, r, rfl⟩ : ∃ w0 a b r, ws = w0 :: a :: b :: r := by
      match ws, hl3 with
      | [], c0 => simp at c0
      | [_], c0 => simp at c0
      | [_, _], c0 => simp at c0
      | w0 :: w1 :: w2 :: r, _ => exact ⟨w0, w1, w2, r, rfl⟩
    have hst : stepF 1 (a :: b :: r) = (match numsF [a, b] 2 with
        | some [x, y] => (match editF r with | some e => some ⟨1, x, y, 0, some e, HmV.zero⟩ | none => none)
        | _ => none) := by
      unfold stepF
      rw [if_neg (by decide), if_neg (by simp)]
      rfl
    have hq1 : ∀ h' st, Old h h' → stepF 1 (a :: b :: r) = some st → Q (.tuple [cC 1 0 (st.at_ : Nat) (st.user : Nat) (st.k : Nat) (st.ed.getD EdV.zero) st.hm, .bool true]) h' := hq1
    have hq2 : ∀ h' a0 a1 a2 a3 a4 a5 a6 a7 a8 s b0 b1 b2 t, Old h h' → stepF 1 (a :: b :: r) = none → Q (.tuple [cX a0 a1 a2 a3 a4 a5 a6 a7 a8 s b0 b1 b2 t, .bool false]) h' := hq2
    rw [nums2] at hst
    have nl : ¬ ((r.length : Int) + 1 + 1 + 1 < 3) := by omega
    have e1 : indexAddrR Tryz.prog 67 v (.int .i64 1) = .ok (elp v 1 1) := W.ix (i := 1) (w := a) rfl
    have l1 := W.ld (i := 1) (w := a) rfl
    have e2 : indexAddrR Tryz.prog 67 v (.int .i64 2) = .ok (elp v 1 2) := W.ix (i := 2) (w := b) rfl
    have l2 := W.ld (i := 2) (w := b) rfl
    simp -implicitDefEqProofs [Tryz.f27, hL, nl, cC, EdV.zero, HmV.zero, e1, l1]
    refine rnum_ev ?_
    cases ha : numF a with
    | none =>
      have ea := numI_none ha
      simp -implicitDefEqProofs [ea]
      exact hq2 h 1 0 0 0 0 0 0 0 0 [] 0 0 0 [] (Old.refl h) (by rw [hst, ha])
    | some x =>
      have ea := numI_some ha
      have nx : ¬ ((x : Int) < 0) := by omega
      simp -implicitDefEqProofs [ea, nx, e2, l2]
      refine rnum_ev ?_
      cases hb : numF b with
      | none =>
        have eb := numI_none hb
        simp -implicitDefEqProofs [eb]
        exact hq2 h 1 0 0 0 0 0 0 0 0 [] 0 0 0 [] (Old.refl h) (by rw [hst, ha, hb])
      | some y =>
        have eb := numI_some hb
        have ny : ¬ ((y : Int) < 0) := by omega
        rw [ha, hb] at hst
        simp -implicitDefEqProofs [eb, ny, e1, l1]
        refine rnum_ev ?_
        rw [ea]
        simp -implicitDefEqProofs [e2, l2]
        refine rnum_ev ?_
        rw [eb]
        simp -implicitDefEqProofs
        refine redit_ev W hl hll (fun e he => ?_) (fun k0 a0 b0 c0 t0 he => ?_)
        · have he : editF r = some e := he
          simp -implicitDefEqProofs [edA]
          exact hq1 h ⟨1, x, y, 0, some e, HmV.zero⟩ (Old.refl h) (by rw [hst, he])
        · have he : editF r = none := he
          simp -implicitDefEqProofs
          exact hq2 h 1 0 x y 0 k0 a0 b0 c0 t0 0 0 0 [] (Old.refl h) (by rw [hst, he])
theorem rtwo2_ev {line : Str} (W : WS ro h v ws) (hl : line = Lib.join ws [32]) (hll : line.length ≤ 500) {Q : AVal → AHeap → Prop} (hq1 : ∀ h' st, Old h h' → stepF 2 (ws.drop 1) = some st → Q (.tuple [cC 2 0 (st.at_ : Nat) (st.user : Nat) (st.k : Nat) (st.ed.getD EdV.zero) st.hm, .bool true]) h')
    (hq2 : ∀ h' a0 a1 a2 a3 a4 a5 a6 a7 a8 s b0 b1 b2 t, Old h h' → stepF 2 (ws.drop 1) = none → Q (.tuple [cX a0 a1 a2 a3 a4 a5 a6 a7 a8 s b0 b1 b2 t, .bool false]) h') :
    Ev (cfgR ro) 27 [cC 2 0 0 0 0 EdV.zero HmV.zero, v, .str line] h Q := by
  refine Ev.wp rfl rfl Tryz.func27 rfl ?_
  have hL := W.len
  by_cases hl3 : ws.length < 3
  · have hl3' : (ws.length : Int) < 3 := by omega
    simp -implicitDefEqProofs [Tryz.f27, hL, cC, EdV.zero, HmV.zero, hl3']
    exact hq2 h 2 0 0 0 0 0 0 0 0 [] 0 0 0 [] (Old.refl h) (by unfold stepF; rw [if_neg (by decide), if_pos (by rw [List.length_drop]; omega)])
  · obtain ⟨w0, a, b, r, rfl⟩ : ∃ w0 a b r, ws = w0 :: a :: b :: r := by
      match ws, hl3 with
      | [], c0 => simp at c0
      | [_], c0 => simp at c0
      | [_, _], c0 => simp at c0
      | w0 :: w1 :: w2 :: r, _ => exact ⟨w0, w1, w2, r, rfl⟩
    have hst : stepF 2 (a :: b :: r) = (match numsF [a, b] 2 with
        | some [x, y] => (if r = [] then some ⟨2, x, y, 0, none, HmV.zero⟩ else none)
        | _ => none) := by
      unfold stepF
      rw [if_neg (by decide), if_neg (by simp)]
      rfl
    have hq1 : ∀ h' st, Old h h' → stepF 2 (a :: b :: r) = some st → Q (.tuple [cC 2 0 (st.at_ : Nat) (st.user : Nat) (st.k : Nat) (st.ed.getD EdV.zero) st.hm, .bool true]) h' := hq1
    have hq2 : ∀ h' a0 a1 a2 a3 a4 a5 a6 a7 a8 s b0 b1 b2 t, Old h h' → stepF 2 (a :: b :: r) = none → Q (.tuple [cX a0 a1 a2 a3 a4 a5 a6 a7 a8 s b0 b1 b2 t, .bool false]) h' := hq2
    rw [nums2] at hst
    have nl : ¬ ((r.length : Int) + 1 + 1 + 1 < 3) := by omega
    have e1 : indexAddrR Tryz.prog 67 v (.int .i64 1) = .ok (elp v 1 1) := W.ix (i := 1) (w := a) rfl
    have l1 := W.ld (i := 1) (w := a) rfl
    have e2 : indexAddrR Tryz.prog 67 v (.int .i64 2) = .ok (elp v 1 2) := W.ix (i := 2) (w := b) rfl
    have l2 := W.ld (i := 2) (w := b) rfl
    simp -implicitDefEqProofs [Tryz.f27, hL, nl, cC, EdV.zero, HmV.zero, e1, l1]
    refine rnum_ev ?_
    cases ha : numF a with
    | none =>
      have ea := numI_none ha
      simp -implicitDefEqProofs [ea]
      exact hq2 h 2 0 0 0 0 0 0 0 0 [] 0 0 0 [] (Old.refl h) (by rw [hst, ha])
    | some x =>
      have ea := numI_some ha
      have nx : ¬ ((x : Int) < 0) := by omega
      simp -implicitDefEqProofs [ea, nx, e2, l2]
      refine rnum_ev ?_
      cases hb : numF b with
      | none =>
        have eb := numI_none hb
        simp -implicitDefEqProofs [eb]
        exact hq2 h 2 0 0 0 0 0 0 0 0 [] 0 0 0 [] (Old.refl h) (by rw [hst, ha, hb])
      | some y =>
        have eb := numI_some hb
        have ny : ¬ ((y : Int) < 0) := by omega
        rw [ha, hb] at hst
        simp -implicitDefEqProofs [eb, ny, e1, l1]
        refine rnum_ev ?_
        rw [ea]
        simp -implicitDefEqProofs [e2, l2]
        refine rnum_ev ?_
        rw [eb]
        simp -implicitDefEqProofs [hL]
        by_cases hr : r = []
        · simp -implicitDefEqProofs [hr]
          exact hq1 h ⟨2, x, y, 0, none, HmV.zero⟩ (Old.refl h) (by rw [hst]; simp [hr])
        · have hrl : r.length ≠ 0 := fun e => hr (List.length_eq_zero_iff.1 e)
          rw [show decide ((r.length : Int) + 1 + 1 + 1 = 3) = false from decide_eq_false (by omega)]
          exact hq2 h 2 0 x y 0 0 0 0 0 [] 0 0 0 [] (Old.refl h) (by rw [hst]; simp [hr])
theorem rtwo3_ev {line : Str} (W : WS ro h v ws) (hl : line = Lib.join ws [32]) (hll : line.length ≤ 500) {Q : AVal → AHeap → Prop} (hq1 : ∀ h' st, Old h h' → stepF 3 (ws.drop 1) = some st → Q (.tuple [cC 3 0 (st.at_ : Nat) (st.user : Nat) (st.k : Nat) (st.ed.getD EdV.zero) st.hm, .bool true]) h')
    (hq2 : ∀ h' a0 a1 a2 a3 a4 a5 a6 a7 a8 s b0 b1 b2 t, Old h h' → stepF 3 (ws.drop 1) = none → Q (.tuple [cX a0 a1 a2 a3 a4 a5 a6 a7 a8 s b0 b1 b2 t, .bool false]) h') :
    Ev (cfgR ro) 27 [cC 3 0 0 0 0 EdV.zero HmV.zero, v, .str line] h Q := by
  refine Ev.wp rfl rfl Tryz.func27 rfl ?_
  have hL := W.len
  by_cases hl3 : ws.length < 3
  · have hl3' : (ws.length : Int) < 3 := by omega
    simp -implicitDefEqProofs [Tryz.f27, hL, cC, EdV.zero, HmV.zero, hl3']
    exact hq2 h 3 0 0 0 0 0 0 0 0 [] 0 0 0 [] (Old.refl h) (by unfold stepF; rw [if_neg (by decide), if_pos (by rw [List.length_drop]; omega)])
  · obtain ⟨w0, a, b, r, rfl⟩ : ∃ w0 a b r, ws = w0 :: a :: b :: r := by
      match ws, hl3 with
      | [], c0 => simp at c0
      | [_], c0 => simp at c0
      | [_, _], c0 => simp at c0
      | w0 :: w1 :: w2 :: r, _ => exact ⟨w0, w1, w2, r, rfl⟩
    have hst : stepF 3 (a :: b :: r) = (match numsF [a, b] 2 with
        | some [x, y] => (if r = [] then some ⟨3, x, y, 0, none, HmV.zero⟩ else none)
        | _ => none) := by
      unfold stepF
      rw [if_neg (by decide), if_neg (by simp)]
      rfl
    have hq1 : ∀ h' st, Old h h' → stepF 3 (a :: b :: r) = some st → Q (.tuple [cC 3 0 (st.at_ : Nat) (st.user : Nat) (st.k : Nat) (st.ed.getD EdV.zero) st.hm, .bool true]) h' := hq1
    have hq2 : ∀ h' a0 a1 a2 a3 a4 a5 a6 a7 a8 s b0 b1 b2 t, Old h h' → stepF 3 (a :: b :: r) = none → Q (.tuple [cX a0 a1 a2 a3 a4 a5 a6 a7 a8 s b0 b1 b2 t, .bool false]) h' := hq2
    rw [nums2] at hst
    have nl : ¬ ((r.length : Int) + 1 + 1 + 1 < 3) := by omega
    have e1 : indexAddrR Tryz.prog 67 v (.int .i64 1) = .ok (elp v 1 1) := W.ix (i := 1) (w := a) rfl
    have l1 := W.ld (i := 1) (w := a) rfl
    have e2 : indexAddrR Tryz.prog 67 v (.int .i64 2) = .ok (elp v 1 2) := W.ix (i := 2) (w := b) rfl
    have l2 := W.ld (i := 2) (w := b) rfl
    simp -implicitDefEqProofs [Tryz.f27, hL, nl, cC, EdV.zero, HmV.zero, e1, l1]
    refine rnum_ev ?_
    cases ha : numF a with
    | none =>
      have ea := numI_none ha
      simp -implicitDefEqProofs [ea]
      exact hq2 h 3 0 0 0 0 0 0 0 0 [] 0 0 0 [] (Old.refl h) (by rw [hst, ha])
    | some x =>
      have ea := numI_some ha
      have nx : ¬ ((x : Int) < 0) := by omega
      simp -implicitDefEqProofs [ea, nx, e2, l2]
      refine rnum_ev ?_
      cases hb : numF b with
      | none =>
        have eb := numI_none hb
        simp -implicitDefEqProofs [eb]
        exact hq2 h 3 0 0 0 0 0 0 0 0 [] 0 0 0 [] (Old.refl h) (by rw [hst, ha, hb])
      | some y =>
        have eb := numI_some hb
        have ny : ¬ ((y : Int) < 0) := by omega
        rw [ha, hb] at hst
        simp -implicitDefEqProofs [eb, ny, e1, l1]
        refine rnum_ev ?_
        rw [ea]
        simp -implicitDefEqProofs [e2, l2]
        refine rnum_ev ?_
        rw [eb]
        simp -implicitDefEqProofs [hL]
        by_cases hr : r = []
        · simp -implicitDefEqProofs [hr]
          exact hq1 h ⟨3, x, y, 0, none, HmV.zero⟩ (Old.refl h) (by rw [hst]; simp [hr])
        · have hrl : r.length ≠ 0 := fun e => hr (List.length_eq_zero_iff.1 e)
          rw [show decide ((r.length : Int) + 1 + 1 + 1 = 3) = false from decide_eq_false (by omega)]
          exact hq2 h 3 0 x y 0 0 0 0 0 [] 0 0 0 [] (Old.refl h) (by rw [hst]; simp [hr])
theorem rtwo4_ev {line : Str} (W : WS ro h v ws) (hl : line = Lib.join ws [32]) (hll : line.length ≤ 500) {Q : AVal → AHeap → Prop} (hq1 : ∀ h' st, Old h h' → stepF 4 (ws.drop 1) = some st → Q (.tuple [cC 4 0 (st.at_ : Nat) (st.user : Nat) (st.k : Nat) (st.ed.getD EdV.zero) st.hm, .bool true]) h')
    (hq2 : ∀ h' a0 a1 a2 a3 a4 a5 a6 a7 a8 s b0 b1 b2 t, Old h h' → stepF 4 (ws.drop 1) = none → Q (.tuple [cX a0 a1 a2 a3 a4 a5 a6 a7 a8 s b0 b1 b2 t, .bool false]) h') :
    Ev (cfgR ro) 27 [cC 4 0 0 0 0 EdV.zero HmV.zero, v, .str line] h Q := by
  refine Ev.wp rfl rfl Tryz.func27 rfl ?_
  have hL := W.len
  by_cases hl3 : ws.length < 3
  · have hl3' : (ws.length : Int) < 3 := by omega
    simp -implicitDefEqProofs [Tryz.f27, hL, cC, EdV.zero, HmV.zero, hl3']
    exact hq2 h 4 0 0 0 0 0 0 0 0 [] 0 0 0 [] (Old.refl h) (by unfold stepF; rw [if_neg (by decide), if_pos (by rw [List.length_drop]; omega)])
  · obtain ⟨w0, a, b, r, rfl⟩ : ∃ w0 a b r, ws = w0 :: a :: b :: r := by
      match ws, hl3 with
      | [], c0 => simp at c0
      | [_], c0 => simp at c0
      | [_, _], c0 => simp at c0
      | w0 :: w1 :: w2 :: r, _ => exact ⟨w0, w1, w2, r, rfl⟩
    have hst : stepF 4 (a :: b :: r) = (match numsF [a, b] 2 with
        | some [x, y] => (match harmF r with | some m => some ⟨4, x, 0, y, none, m⟩ | none => none)
        | _ => none) := by
      unfold stepF
      rw [if_neg (by decide), if_neg (by simp)]
      rfl
    have hq1 : ∀ h' st, Old h h' → stepF 4 (a :: b :: r) = some st → Q (.tuple [cC 4 0 (st.at_ : Nat) (st.user : Nat) (st.k : Nat) (st.ed.getD EdV.zero) st.hm, .bool true]) h' := hq1
    have hq2 : ∀ h' a0 a1 a2 a3 a4 a5 a6 a7 a8 s b0 b1 b2 t, Old h h' → stepF 4 (a :: b :: r) = none → Q (.tuple [cX a0 a1 a2 a3 a4 a5 a6 a7 a8 s b0 b1 b2 t, .bool false]) h' := hq2
    rw [nums2] at hst
    have nl : ¬ ((r.length : Int) + 1 + 1 + 1 < 3) := by omega
    have e1 : indexAddrR Tryz.prog 67 v (.int .i64 1) = .ok (elp v 1 1) := W.ix (i := 1) (w := a) rfl
    have l1 := W.ld (i := 1) (w := a) rfl
    have e2 : indexAddrR Tryz.prog 67 v (.int .i64 2) = .ok (elp v 1 2) := W.ix (i := 2) (w := b) rfl
    have l2 := W.ld (i := 2) (w := b) rfl
    simp -implicitDefEqProofs [Tryz.f27, hL, nl, cC, EdV.zero, HmV.zero, e1, l1]
    refine rnum_ev ?_
    cases ha : numF a with
    | none =>
      have ea := numI_none ha
      simp -implicitDefEqProofs [ea]
      exact hq2 h 4 0 0 0 0 0 0 0 0 [] 0 0 0 [] (Old.refl h) (by rw [hst, ha])
    | some x =>
      have ea := numI_some ha
      have nx : ¬ ((x : Int) < 0) := by omega
      simp -implicitDefEqProofs [ea, nx, e2, l2]
      refine rnum_ev ?_
      cases hb : numF b with
      | none =>
        have eb := numI_none hb
        simp -implicitDefEqProofs [eb]
        exact hq2 h 4 0 0 0 0 0 0 0 0 [] 0 0 0 [] (Old.refl h) (by rw [hst, ha, hb])
      | some y =>
        have eb := numI_some hb
        have ny : ¬ ((y : Int) < 0) := by omega
        rw [ha, hb] at hst
        simp -implicitDefEqProofs [eb, ny, e1, l1]
        refine rnum_ev ?_
        rw [ea]
        simp -implicitDefEqProofs [e2, l2]
        refine rnum_ev ?_
        rw [eb]
        simp -implicitDefEqProofs
        refine rharm_ev (kind := 4) (a := (x : Int)) (u := 0) (k := (y : Int)) W (by simp) (fun h2 m o2 he => ?_) (fun h2 m o2 he => ?_)
        · have he : harmF r = some m := he
          simp -implicitDefEqProofs [cC, EdV.zero]
          exact hq1 h2 ⟨4, x, 0, y, none, m⟩ o2 (by rw [hst, he])
        · have he : harmF r = none := he
          simp -implicitDefEqProofs [cC, EdV.zero]
          exact hq2 h2 4 0 x 0 y 0 0 0 0 [] m.kind m.at_ m.bits m.more o2 (by rw [hst, he])
theorem rtwo5_ev {line : Str} (W : WS ro h v ws) (hl : line = Lib.join ws [32]) (hll : line.length ≤ 500) {Q : AVal → AHeap → Prop} (hq1 : ∀ h' st, Old h h' → stepF 5 (ws.drop 1) = some st → Q (.tuple [cC 5 0 (st.at_ : Nat) (st.user : Nat) (st.k : Nat) (st.ed.getD EdV.zero) st.hm, .bool true]) h')
    (hq2 : ∀ h' a0 a1 a2 a3 a4 a5 a6 a7 a8 s b0 b1 b2 t, Old h h' → stepF 5 (ws.drop 1) = none → Q (.tuple [cX a0 a1 a2 a3 a4 a5 a6 a7 a8 s b0 b1 b2 t, .bool false]) h') :
    Ev (cfgR ro) 27 [cC 5 0 0 0 0 EdV.zero HmV.zero, v, .str line] h Q := by
  refine Ev.wp rfl rfl Tryz.func27 rfl ?_
  have hL := W.len
  by_cases hl3 : ws.length < 3
  · have hl3' : (ws.length : Int) < 3 := by omega
    simp -implicitDefEqProofs [Tryz.f27, hL, cC, EdV.zero, HmV.zero, hl3']
    exact hq2 h 5 0 0 0 0 0 0 0 0 [] 0 0 0 [] (Old.refl h) (by unfold stepF; rw [if_neg (by decide), if_pos (by rw [List.length_drop]; omega)])
  · obtain ⟨w0, a, b, r, rfl⟩ : ∃ w0 a b r, ws = w0 :: a :: b :: r := by
      match ws, hl3 with
      | [], c0 => simp at c0
      | [_], c0 => simp at c0
      | [_, _], c0 => simp at c0
      | w0 :: w1 :: w2 :: r, _ => exact ⟨w0, w1, w2, r, rfl⟩
    have hst : stepF 5 (a :: b :: r) = (match numsF [a, b] 2 with
        | some [x, y] => (if r = [] then some ⟨5, x, 0, y, none, HmV.zero⟩ else none)
        | _ => none) := by
      unfold stepF
      rw [if_neg (by decide), if_neg (by simp)]
      rfl
    have hq1 : ∀ h' st, Old h h' → stepF 5 (a :: b :: r) = some st → Q (.tuple [cC 5 0 (st.at_ : Nat) (st.user : Nat) (st.k : Nat) (st.ed.getD EdV.zero) st.hm, .bool true]) h' := hq1
    have hq2 : ∀ h' a0 a1 a2 a3 a4 a5 a6 a7 a8 s b0 b1 b2 t, Old h h' → stepF 5 (a :: b :: r) = none → Q (.tuple [cX a0 a1 a2 a3 a4 a5 a6 a7 a8 s b0 b1 b2 t, .bool false]) h' := hq2
    rw [nums2] at hst
    have nl : ¬ ((r.length : Int) + 1 + 1 + 1 < 3) := by omega
    have e1 : indexAddrR Tryz.prog 67 v (.int .i64 1) = .ok (elp v 1 1) := W.ix (i := 1) (w := a) rfl
    have l1 := W.ld (i := 1) (w := a) rfl
    have e2 : indexAddrR Tryz.prog 67 v (.int .i64 2) = .ok (elp v 1 2) := W.ix (i := 2) (w := b) rfl
    have l2 := W.ld (i := 2) (w := b) rfl
    simp -implicitDefEqProofs [Tryz.f27, hL, nl, cC, EdV.zero, HmV.zero, e1, l1]
    refine rnum_ev ?_
    cases ha : numF a with
    | none =>
      have ea := numI_none ha
      simp -implicitDefEqProofs [ea]
      exact hq2 h 5 0 0 0 0 0 0 0 0 [] 0 0 0 [] (Old.refl h) (by rw [hst, ha])
    | some x =>
      have ea := numI_some ha
      have nx : ¬ ((x : Int) < 0) := by omega
      simp -implicitDefEqProofs [ea, nx, e2, l2]
      refine rnum_ev ?_
      cases hb : numF b with
      | none =>
        have eb := numI_none hb
        simp -implicitDefEqProofs [eb]
        exact hq2 h 5 0 0 0 0 0 0 0 0 [] 0 0 0 [] (Old.refl h) (by rw [hst, ha, hb])
      | some y =>
        have eb := numI_some hb
        have ny : ¬ ((y : Int) < 0) := by omega
        rw [ha, hb] at hst
        simp -implicitDefEqProofs [eb, ny, e1, l1]
        refine rnum_ev ?_
        rw [ea]
        simp -implicitDefEqProofs [e2, l2]
        refine rnum_ev ?_
        rw [eb]
        simp -implicitDefEqProofs [hL]
        by_cases hr : r = []
        · simp -implicitDefEqProofs [hr]
          exact hq1 h ⟨5, x, 0, y, none, HmV.zero⟩ (Old.refl h) (by rw [hst]; simp [hr])
        · have hrl : r.length ≠ 0 := fun e => hr (List.length_eq_zero_iff.1 e)
          rw [show decide ((r.length : Int) + 1 + 1 + 1 = 3) = false from decide_eq_false (by omega)]
          exact hq2 h 5 0 x 0 y 0 0 0 0 [] 0 0 0 [] (Old.refl h) (by rw [hst]; simp [hr])
end
end Go.Proofs.YtofnbldbggddmaaGreatDoor
set_option linter.all false
set_option maxRecDepth 100000
set_option maxHeartbeats 4000000
namespace Go.Proofs.YtofnbldbggddmaaGreatDoor
open Go Go.RowKit Go.Proofs
def wordR : List (Str × Nat) := [([100, 111], 1), ([117, 110, 100, 111], 2), ([114, 101, 100, 111], 3), ([99, 111, 109, 101], 4), ([97, 115, 107], 5), ([115, 116, 111, 114, 101], 6), ([110, 111, 100, 101, 115], 10), ([114, 101, 97, 100], 11), ([104, 97, 118, 101], 12), ([115, 101, 116, 116, 108, 101], 13)]
def kindP (w : Str) (i : Nat) : Nat := (wordR.take i).foldl (fun k p => if p.1 = w then p.2 else k) 0
theorem kindP_all (w : Str) : kindP w 10 = kindF w := by
  unfold kindP
  simp only [wordR, List.take_succ_cons, List.take_zero, List.foldl_cons, List.foldl_nil]
  by_cases h0 : w = [100, 111]
  · subst h0; decide
  by_cases h1 : w = [117, 110, 100, 111]
  · subst h1; decide
  by_cases h2 : w = [114, 101, 100, 111]
  · subst h2; decide
  by_cases h3 : w = [99, 111, 109, 101]
  · subst h3; decide
  by_cases h4 : w = [97, 115, 107]
  · subst h4; decide
  by_cases h5 : w = [115, 116, 111, 114, 101]
  · subst h5; decide
  by_cases h6 : w = [110, 111, 100, 101, 115]
  · subst h6; decide
  by_cases h7 : w = [114, 101, 97, 100]
  · subst h7; decide
  by_cases h8 : w = [104, 97, 118, 101]
  · subst h8; decide
  by_cases h9 : w = [115, 101, 116, 116, 108, 101]
  · subst h9; decide
  have g : ∀ x : Str, w ≠ x → x ≠ w := fun x h e => h e.symm
  rw [if_neg (g _ h9), if_neg (g _ h8), if_neg (g _ h7), if_neg (g _ h6), if_neg (g _ h5), if_neg (g _ h4), if_neg (g _ h3), if_neg (g _ h2), if_neg (g _ h1), if_neg (g _ h0)]
  unfold kindF
  rw [if_neg h0, if_neg h1, if_neg h2, if_neg h3, if_neg h4, if_neg h5, if_neg h6, if_neg h7, if_neg h8, if_neg h9]
theorem kindF_rng (w : Str) : kindF w ≤ 6 ∨ (10 ≤ kindF w ∧ kindF w ≤ 13) := by
  unfold kindF
  repeat' split
  all_goals omega
theorem step6 (r : List Str) : stepF 6 r = (match numsF r 1 with
    | some [x] => some ⟨6, x, 0, 0, none, HmV.zero⟩
    | _ => none) := by
  unfold stepF
  rw [if_pos rfl]
  rcases r with _ | ⟨a, _ | ⟨b, t⟩⟩
  · rfl
  · rw [if_neg (by simp)]
    show (match numsF [a] 1 with
      | some [x] => if ([] : List Str) = [] then some _ else none
      | _ => none) = _
    rw [nums1]
    cases numF a <;> rfl
  · have : numsF (a :: b :: t) 1 = none := by unfold numsF; rw [if_neg (by simp)]
    rw [this, if_neg (by simp)]
    show (match numsF [a] 1 with
      | some [x] => if (b :: t) = [] then some _ else none
      | _ => none) = _
    rw [nums1]
    cases numF a <;> rfl
def rC (c : CmV) : AVal := cC (c.kind : Nat) (c.n : Nat) (c.st.at_ : Nat) (c.st.user : Nat) (c.st.k : Nat) (c.st.ed.getD EdV.zero) c.st.hm
section
variable {ro : Nat → Option (List AVal)} {h : AHeap} {v : AVal} {ws : List Str}
theorem rtwoK_ev {kind : Nat} (hk : 1 ≤ kind ∧ kind ≤ 5) {line : Str} (W : WS ro h v ws) (hl : line = Lib.join ws [32]) (hll : line.length ≤ 500) {Q : AVal → AHeap → Prop} (hq1 : ∀ h' st, Old h h' → stepF kind (ws.drop 1) = some st → Q (.tuple [cC (kind : Nat) 0 (st.at_ : Nat) (st.user : Nat) (st.k : Nat) (st.ed.getD EdV.zero) st.hm, .bool true]) h')
    (hq2 : ∀ h' a0 a1 a2 a3 a4 a5 a6 a7 a8 s b0 b1 b2 t, Old h h' → stepF kind (ws.drop 1) = none → Q (.tuple [cX a0 a1 a2 a3 a4 a5 a6 a7 a8 s b0 b1 b2 t, .bool false]) h') :
    Ev (cfgR ro) 27 [cC (kind : Nat) 0 0 0 0 EdV.zero HmV.zero, v, .str line] h Q := by
  have : kind = 1 ∨ kind = 2 ∨ kind = 3 ∨ kind = 4 ∨ kind = 5 := by omega
  rcases this with rfl | rfl | rfl | rfl | rfl
  · exact rtwo1_ev W hl hll hq1 hq2
  · exact rtwo2_ev W hl hll hq1 hq2
  · exact rtwo3_ev W hl hll hq1 hq2
  · exact rtwo4_ev W hl hll hq1 hq2
  · exact rtwo5_ev W hl hll hq1 hq2
theorem rparse_ev {s : Str} (hs : s.length ≤ 500) {Q : AVal → AHeap → Prop} (hq1 : ∀ h' c, Old h h' → cmdF (wordsF s) = .inl c → Q (.tuple [rC c, .int .i64 0]) h') (hq2 : ∀ h' (e : Nat), Old h h' → cmdF (wordsF s) = .inr e → Q (.tuple [rC CmV.zero, .int .i64 (e : Nat)]) h') :
    Ev (cfgR ro) 15 [.str s] h Q := by
  refine Ev.wp rfl rfl Tryz.func15 rfl ?_
  simp -implicitDefEqProofs [Tryz.f15]
  have hjw := join_words s
  refine rwords_ev (by omega) (fun v h1 o1 m1 => ?_)
  have W : WS ro h1 v (wordsF s) := Mine.WS m1 (by have := words_le (s := s); omega) (fun w hm => by have := mem_words hm; omega)
  obtain ⟨w, r, hwr⟩ : ∃ w r, wordsF s = w :: r := by
    cases e : wordsF s with
    | nil => exact (wordsF_ne s e).elim
    | cons w r => exact ⟨w, r, rfl⟩
  rw [hwr] at W hjw hq1 hq2
  clear m1
  have e1 : indexAddrR Tryz.prog 67 v (.int .i64 0) = .ok (elp v 1 0) := W.ix (i := 0) (w := w) rfl
  have l1 := W.ld (i := 0) (w := w) rfl
  have hL := W.len
  simp -implicitDefEqProofs
  obtain ⟨I, hI⟩ : ∃ I : Nat → List AVal → AHeap → Prop, I = fun m env h' => h' = h1 ∧ ∃ (i k : Nat), i + m = 10 ∧ k = kindP w i ∧
    env = (.str s :: .dead :: .cell [.int .i64 0, .int .i64 0, .int .i64 0, .int .i64 0, .int .i64 0, .int .i64 0, .int .i64 0, .int .i64 0, .int .i64 0, .str [], .int .i64 0, .int .i64 0, .int .u32 0, .str []] :: .dead :: v :: .cell [.str [100, 111], .str [117, 110, 100, 111], .str [114, 101, 100, 111], .str [99, 111, 109, 101], .str [97, 115, 107], .str [115, 116, 111, 114, 101], .str [110, 111, 100, 101, 115], .str [114, 101, 97, 100], .str [104, 97, 118, 101], .str [115, 101, 116, 116, 108, 101]] :: .cell [.int .i64 1, .int .i64 2, .int .i64 3, .int .i64 4, .int .i64 5, .int .i64 6, .int .i64 10, .int .i64 11, .int .i64 12, .int .i64 13] :: .cell [.int .i64 (k : Nat), .int .i64 0, .int .i64 0, .int .i64 0, .int .i64 0, .int .i64 0, .int .i64 0, .int .i64 0, .int .i64 0, .str [], .int .i64 0, .int .i64 0, .int .u32 0, .str []] :: .int .i64 (i : Nat) :: .dead :: .dead :: .dead :: .dead :: .dead :: .dead :: .dead :: .dead :: .dead :: .dead :: .dead :: .dead :: .dead :: .dead :: .dead :: .dead :: .dead :: .dead :: .dead :: .dead :: .dead :: .dead :: .dead :: .dead :: .dead :: .dead :: .dead :: .dead :: .dead :: .dead :: .dead :: .dead :: .dead :: .dead :: .dead :: .dead :: .dead :: .dead :: .dead :: .dead :: .dead :: .dead :: .dead :: .dead :: .dead :: .dead :: .dead :: .dead :: .dead :: .dead :: .dead :: .dead :: .dead :: .dead :: .dead :: .dead :: .dead :: .dead :: .dead :: .dead :: .dead :: .dead :: []) := ⟨_, rfl⟩
  refine loop_of I ?_ 10 (by rw [hI]; exact ⟨rfl, 0, 0, by omega, rfl, rfl⟩)
  intro m env h' hi
  rw [hI] at hi
  obtain ⟨rfl, i, k, him, hk, rfl⟩ := hi
  have hi7 : i = 0 ∨ i = 1 ∨ i = 2 ∨ i = 3 ∨ i = 4 ∨ i = 5 ∨ i = 6 ∨ i = 7 ∨ i = 8 ∨ i = 9 ∨ i = 10 := by omega
  rcases hi7 with rfl | rfl | rfl | rfl | rfl | rfl | rfl | rfl | rfl | rfl | rfl
  · have hx : idxNat (.int .i64 0) 10 = .ok 0 := ix_nat (i := 0) (by decide)
    have w1 : IntKind.i64.wrap 1 = 1 := by decide
    have hP : kindP w 1 = if ([100, 111] : Str) = w then 1 else kindP w 0 := rfl
    simp -implicitDefEqProofs [hx, e1, l1, w1, same_self]
    refine orD (fun c => ?_) (fun c => ?_)
    · subst c
      simp -implicitDefEqProofs [hx, w1]
      exact .mk (m := m - 1) (by omega) (by rw [hI]; exact ⟨rfl, 1, 1, by omega, by rw [hP, if_pos rfl], rfl⟩)
    · simp -implicitDefEqProofs [c, hx, w1]
      exact .mk (m := m - 1) (by omega) (by rw [hI]; exact ⟨rfl, 1, k, by omega, by rw [hP, if_neg c, hk], rfl⟩)
  · have hx : idxNat (.int .i64 1) 10 = .ok 1 := ix_nat (i := 1) (by decide)
    have w1 : IntKind.i64.wrap 2 = 2 := by decide
    have hP : kindP w 2 = if ([117, 110, 100, 111] : Str) = w then 2 else kindP w 1 := rfl
    simp -implicitDefEqProofs [hx, e1, l1, w1, same_self]
    refine orD (fun c => ?_) (fun c => ?_)
    · subst c
      simp -implicitDefEqProofs [hx, w1]
      exact .mk (m := m - 1) (by omega) (by rw [hI]; exact ⟨rfl, 2, 2, by omega, by rw [hP, if_pos rfl], rfl⟩)
    · simp -implicitDefEqProofs [c, hx, w1]
      exact .mk (m := m - 1) (by omega) (by rw [hI]; exact ⟨rfl, 2, k, by omega, by rw [hP, if_neg c, hk], rfl⟩)
  · have hx : idxNat (.int .i64 2) 10 = .ok 2 := ix_nat (i := 2) (by decide)
    have w1 : IntKind.i64.wrap 3 = 3 := by decide
    have hP : kindP w 3 = if ([114, 101, 100, 111] : Str) = w then 3 else kindP w 2 := rfl
    simp -implicitDefEqProofs [hx, e1, l1, w1, same_self]
    refine orD (fun c => ?_) (fun c => ?_)
    · subst c
      simp -implicitDefEqProofs [hx, w1]
      exact .mk (m := m - 1) (by omega) (by rw [hI]; exact ⟨rfl, 3, 3, by omega, by rw [hP, if_pos rfl], rfl⟩)
    · simp -implicitDefEqProofs [c, hx, w1]
      exact .mk (m := m - 1) (by omega) (by rw [hI]; exact ⟨rfl, 3, k, by omega, by rw [hP, if_neg c, hk], rfl⟩)
  · have hx : idxNat (.int .i64 3) 10 = .ok 3 := ix_nat (i := 3) (by decide)
    have w1 : IntKind.i64.wrap 4 = 4 := by decide
    have hP : kindP w 4 = if ([99, 111, 109, 101] : Str) = w then 4 else kindP w 3 := rfl
    simp -implicitDefEqProofs [hx, e1, l1, w1, same_self]
    refine orD (fun c => ?_) (fun c => ?_)
    · subst c
      simp -implicitDefEqProofs [hx, w1]
      exact .mk (m := m - 1) (by omega) (by rw [hI]; exact ⟨rfl, 4, 4, by omega, by rw [hP, if_pos rfl], rfl⟩)
    · simp -implicitDefEqProofs [c, hx, w1]
      exact .mk (m := m - 1) (by omega) (by rw [hI]; exact ⟨rfl, 4, k, by omega, by rw [hP, if_neg c, hk], rfl⟩)
  · have hx : idxNat (.int .i64 4) 10 = .ok 4 := ix_nat (i := 4) (by decide)
    have w1 : IntKind.i64.wrap 5 = 5 := by decide
    have hP : kindP w 5 = if ([97, 115, 107] : Str) = w then 5 else kindP w 4 := rfl
    simp -implicitDefEqProofs [hx, e1, l1, w1, same_self]
    refine orD (fun c => ?_) (fun c => ?_)
    · subst c
      simp -implicitDefEqProofs [hx, w1]
      exact .mk (m := m - 1) (by omega) (by rw [hI]; exact ⟨rfl, 5, 5, by omega, by rw [hP, if_pos rfl], rfl⟩)
    · simp -implicitDefEqProofs [c, hx, w1]
      exact .mk (m := m - 1) (by omega) (by rw [hI]; exact ⟨rfl, 5, k, by omega, by rw [hP, if_neg c, hk], rfl⟩)
  · have hx : idxNat (.int .i64 5) 10 = .ok 5 := ix_nat (i := 5) (by decide)
    have w1 : IntKind.i64.wrap 6 = 6 := by decide
    have hP : kindP w 6 = if ([115, 116, 111, 114, 101] : Str) = w then 6 else kindP w 5 := rfl
    simp -implicitDefEqProofs [hx, e1, l1, w1, same_self]
    refine orD (fun c => ?_) (fun c => ?_)
    · subst c
      simp -implicitDefEqProofs [hx, w1]
      exact .mk (m := m - 1) (by omega) (by rw [hI]; exact ⟨rfl, 6, 6, by omega, by rw [hP, if_pos rfl], rfl⟩)
    · simp -implicitDefEqProofs [c, hx, w1]
      exact .mk (m := m - 1) (by omega) (by rw [hI]; exact ⟨rfl, 6, k, by omega, by rw [hP, if_neg c, hk], rfl⟩)
  · have hx : idxNat (.int .i64 6) 10 = .ok 6 := ix_nat (i := 6) (by decide)
    have w1 : IntKind.i64.wrap 7 = 7 := by decide
    have hP : kindP w 7 = if ([110, 111, 100, 101, 115] : Str) = w then 10 else kindP w 6 := rfl
    simp -implicitDefEqProofs [hx, e1, l1, w1, same_self]
    refine orD (fun c => ?_) (fun c => ?_)
    · subst c
      simp -implicitDefEqProofs [hx, w1]
      exact .mk (m := m - 1) (by omega) (by rw [hI]; exact ⟨rfl, 7, 10, by omega, by rw [hP, if_pos rfl], rfl⟩)
    · simp -implicitDefEqProofs [c, hx, w1]
      exact .mk (m := m - 1) (by omega) (by rw [hI]; exact ⟨rfl, 7, k, by omega, by rw [hP, if_neg c, hk], rfl⟩)
  · have hx : idxNat (.int .i64 7) 10 = .ok 7 := ix_nat (i := 7) (by decide)
    have w1 : IntKind.i64.wrap 8 = 8 := by decide
    have hP : kindP w 8 = if ([114, 101, 97, 100] : Str) = w then 11 else kindP w 7 := rfl
    simp -implicitDefEqProofs [hx, e1, l1, w1, same_self]
    refine orD (fun c => ?_) (fun c => ?_)
    · subst c
      simp -implicitDefEqProofs [hx, w1]
      exact .mk (m := m - 1) (by omega) (by rw [hI]; exact ⟨rfl, 8, 11, by omega, by rw [hP, if_pos rfl], rfl⟩)
    · simp -implicitDefEqProofs [c, hx, w1]
      exact .mk (m := m - 1) (by omega) (by rw [hI]; exact ⟨rfl, 8, k, by omega, by rw [hP, if_neg c, hk], rfl⟩)
  · have hx : idxNat (.int .i64 8) 10 = .ok 8 := ix_nat (i := 8) (by decide)
    have w1 : IntKind.i64.wrap 9 = 9 := by decide
    have hP : kindP w 9 = if ([104, 97, 118, 101] : Str) = w then 12 else kindP w 8 := rfl
    simp -implicitDefEqProofs [hx, e1, l1, w1, same_self]
    refine orD (fun c => ?_) (fun c => ?_)
    · subst c
      simp -implicitDefEqProofs [hx, w1]
      exact .mk (m := m - 1) (by omega) (by rw [hI]; exact ⟨rfl, 9, 12, by omega, by rw [hP, if_pos rfl], rfl⟩)
    · simp -implicitDefEqProofs [c, hx, w1]
      exact .mk (m := m - 1) (by omega) (by rw [hI]; exact ⟨rfl, 9, k, by omega, by rw [hP, if_neg c, hk], rfl⟩)
  · have hx : idxNat (.int .i64 9) 10 = .ok 9 := ix_nat (i := 9) (by decide)
    have w1 : IntKind.i64.wrap 10 = 10 := by decide
    have hP : kindP w 10 = if ([115, 101, 116, 116, 108, 101] : Str) = w then 13 else kindP w 9 := rfl
    simp -implicitDefEqProofs [hx, e1, l1, w1, same_self]
    refine orD (fun c => ?_) (fun c => ?_)
    · subst c
      simp -implicitDefEqProofs [hx, w1]
      exact .mk (m := m - 1) (by omega) (by rw [hI]; exact ⟨rfl, 10, 13, by omega, by rw [hP, if_pos rfl], rfl⟩)
    · simp -implicitDefEqProofs [c, hx, w1]
      exact .mk (m := m - 1) (by omega) (by rw [hI]; exact ⟨rfl, 10, k, by omega, by rw [hP, if_neg c, hk], rfl⟩)
  · rw [kindP_all] at hk
    simp -implicitDefEqProofs
    have hkr := kindF_rng w
    rw [← hk] at hkr
    refine orD (fun c0 => ?_) (fun c0 => ?_)
    · have hc : cmdF (w :: r) = .inr 50 := by
        show (if kindF w = 0 then _ else _) = _
        rw [← hk, if_pos c0]
      simp -implicitDefEqProofs [c0]
      exact hq2 h' 50 o1 hc
    · simp -implicitDefEqProofs [c0]
      by_cases k5 : k ≤ 5
      · have k5' : (k : Int) ≤ 5 := by omega
        have hc : cmdF (w :: r) = (match stepF k r with
            | some s => .inl ⟨k, 0, s⟩
            | none => .inr 11) := by
          show (if kindF w = 0 then _ else if kindF w ≤ 6 then _ else _) = _
          rw [← hk, if_neg c0, if_pos (by omega)]
          cases stepF k r <;> rfl
        simp -implicitDefEqProofs [c0, k5']
        refine rtwoK_ev ⟨by omega, k5⟩ W hjw.symm hs (fun h2 st o2 hst => ?_) (fun h2 a0 a1 a2 a3 a4 a5 a6 a7 a8 s b0 b1 b2 t o2 hst => ?_)
        · have hst : stepF k r = some st := hst
          simp -implicitDefEqProofs [cC]
          exact hq1 h2 ⟨k, 0, st⟩ (o1.trans o2) (by rw [hc, hst])
        · have hst : stepF k r = none := hst
          simp -implicitDefEqProofs [cX]
          exact hq2 h2 11 (o1.trans o2) (by rw [hc, hst])
      · have k5' : ¬ (k : Int) ≤ 5 := by omega
        by_cases k13 : k = 13
        · have hc : cmdF (w :: r) = (if r = [] then .inl ⟨13, 0, StV.zero⟩ else .inr 11) := by
            show (if kindF w = 0 then _ else if kindF w ≤ 6 then _ else if kindF w = 13 then _ else _) = _
            rw [← hk, if_neg c0, if_neg (by omega), if_pos k13]
          subst k13
          simp -implicitDefEqProofs [hL]
          refine orD (fun d => ?_) (fun d => ?_)
          · simp -implicitDefEqProofs [d]
            exact hq1 h' ⟨13, 0, StV.zero⟩ o1 (by rw [hc, if_pos (List.length_eq_zero_iff.1 (by omega))])
          · simp -implicitDefEqProofs [d]
            exact hq2 h' 11 o1 (by rw [hc, if_neg (fun e => d (by rw [e]; rfl))])
        · have k13' : ¬ (k : Int) = 13 := by omega
          simp -implicitDefEqProofs [c0, k5', k13, k13']
          have j0 : idxNat (.int .i64 0) 4 = .ok 0 := ix_nat (i := 0) (by decide)
          by_cases k6 : k = 6
          · have hc : cmdF (w :: r) = (match numsF r 1 with
                | some [x] => .inl ⟨6, 0, ⟨6, x, 0, 0, none, HmV.zero⟩⟩
                | _ => .inr 11) := by
              show (if kindF w = 0 then _ else if kindF w ≤ 6 then _ else _) = _
              rw [← hk, if_neg c0, if_pos (by omega), k6, step6]
              generalize numsF r 1 = o
              rcases o with _ | l
              · rfl
              · rcases l with _ | ⟨x, _ | ⟨y, t⟩⟩ <;> rfl
            subst k6
            refine rnums11_ev W (fun x hlen hns => ?_) (fun a b c d hns => ?_)
            · have hns : numsF r 1 = some [x] := hns
              simp -implicitDefEqProofs [arr4, j0]
              exact hq1 h' ⟨6, 0, ⟨6, x, 0, 0, none, HmV.zero⟩⟩ o1 (by rw [hc, hns])
            · have hns : numsF r 1 = none := by
                by_cases e : (w :: r).length = 2
                · exact hns e
                · unfold numsF; rw [if_neg (by simpa using e)]
              simp -implicitDefEqProofs [arr4, j0]
              exact hq2 h' 11 o1 (by rw [hc, hns])
          · have k6' : ¬ (k : Int) = 6 := by omega
            have hc : cmdF (w :: r) = (match numsF r 1 with
                | some [x] => .inl ⟨k, x, StV.zero⟩
                | _ => .inr 11) := by
              show (if kindF w = 0 then _ else if kindF w ≤ 6 then _ else if kindF w = 13 then _ else _) = _
              rw [← hk, if_neg c0, if_neg (by omega), if_neg k13]
              rfl
            refine rnums11_ev W (fun x hlen hns => ?_) (fun a b c d hns => ?_)
            · have hns : numsF r 1 = some [x] := hns
              simp -implicitDefEqProofs [arr4, j0, k6, k6']
              exact hq1 h' ⟨k, x, StV.zero⟩ o1 (by rw [hc, hns])
            · have hns : numsF r 1 = none := by
                by_cases e : (w :: r).length = 2
                · exact hns e
                · unfold numsF; rw [if_neg (by simpa using e)]
              simp -implicitDefEqProofs [arr4, j0, k6, k6']
              exact hq2 h' 11 o1 (by rw [hc, hns])
end
end Go.Proofs.YtofnbldbggddmaaGreatDoor
set_option linter.all false
set_option maxRecDepth 100000
set_option maxHeartbeats 4000000
namespace Go.Proofs.YtofnbldbggddmaaGreatDoor
open Go Go.RowKit Go.Proofs
structure CmOk (c : CmV) : Prop where
  o : c.kind = 1 → c.st.kind = 1 ∧ ∃ e, c.st.ed = some e
  n : c.kind ≠ 1 → c.st.ed = none ∧ (c.kind ≤ 6 → c.st.kind = c.kind) ∧ (6 < c.kind → c.st.kind = 0)
theorem stepF_ok {k : Nat} {l : List Str} {s : StV} (hk : 1 ≤ k ∧ k ≤ 6) (h : stepF k l = some s) : s.kind = k ∧ (k = 1 → ∃ e, s.ed = some e) ∧ (k ≠ 1 → s.ed = none) := by
  unfold stepF at h
  split at h
  · rename_i h6
    subst h6
    split at h
    · cases h
    · split at h
      · split at h
        · cases h; exact ⟨rfl, fun e => (by cases e), fun _ => rfl⟩
        · cases h
      · cases h
  · split at h
    · cases h
    · split at h
      · split at h
        · rename_i h1
          subst h1
          split at h
          · cases h; exact ⟨rfl, fun _ => ⟨_, rfl⟩, fun e => (e rfl).elim⟩
          · cases h
        · rename_i h1
          split at h
          · rename_i h4
            subst h4
            split at h
            · cases h; exact ⟨rfl, fun e => (by cases e), fun _ => rfl⟩
            · cases h
          · split at h
            · cases h; exact ⟨rfl, fun e => (h1 e).elim, fun _ => rfl⟩
            · cases h
      · cases h
theorem cmdF_ok {l : List Str} {c : CmV} (h : cmdF l = .inl c) : CmOk c := by
  unfold cmdF at h
  split at h
  · cases h
  · rename_i w r
    have hr := kindF_rng w
    split at h
    · cases h
    · rename_i h0
      split at h
      · rename_i h6
        split at h
        · rename_i s hs
          cases h
          obtain ⟨a1, a2, a3⟩ := stepF_ok ⟨by omega, h6⟩ hs
          exact ⟨fun e => ⟨by rw [a1]; exact e, a2 e⟩, fun e => ⟨a3 e, fun _ => a1, fun e2 => by have : 6 < kindF w := e2; omega⟩⟩
        · cases h
      · split at h
        · split at h
          · cases h
            exact ⟨fun e => (by cases e), fun _ => ⟨rfl, fun e => absurd e (by decide), fun _ => rfl⟩⟩
          · cases h
        · split at h
          · cases h
            exact ⟨fun e => by have : kindF w = 1 := e; omega, fun _ => ⟨rfl, fun e => by have : kindF w ≤ 6 := e; omega, fun _ => rfl⟩⟩
          · cases h
theorem cmdF_err {l : List Str} {e : Nat} (h : cmdF l = .inr e) : e ≠ 0 := by
  unfold cmdF at h
  repeat' split at h
  all_goals first | (cases h; decide) | cases h
section
variable {ro : Nat → Option (List AVal)} {h : AHeap} {v : AVal} {ws : List Str}
theorem eqEd0 (h : AHeap) (a b c d a' b' c' d' : Int) (s s' : Str) : eqIn (cfgR ro) h 10000 46 (.agg [.int .i64 a, .int .i64 b, .int .i64 c, .int .i64 d, .str s]) (.agg [.int .i64 a', .int .i64 b', .int .i64 c', .int .i64 d', .str s']) =
    (match a == a' with | true => (match b == b' with | true => (match c == c' with | true => (match d == d' with | true => (match s == s' with | true => .ok true | false => .ok false) | false => .ok false) | false => .ok false) | false => .ok false) | false => .ok false) := by kernel_rfl
theorem eqEd (h : AHeap) (a b c d : Int) (s : Str) : eqIn (cfgR ro) h 10000 46 (.agg [.int .i64 a, .int .i64 b, .int .i64 c, .int .i64 d, .str s]) (.agg [.int .i64 a, .int .i64 b, .int .i64 c, .int .i64 d, .str s]) = .ok true := by
  rw [eqEd0]; simp
theorem same_ev {c : CmV} {ev hv : AVal} (S : StOk ro h c.st ev hv) (C : CmOk c) {Q : AVal → AHeap → Prop} (hq : Q (.bool true) h) : Ev (cfgR ro) 16 [cmA c ev hv, rC c] h Q := by
  refine Ev.wp rfl rfl Tryz.func16 rfl ?_
  have hcv : convR (cfgR ro) h 36 9 hv = .ok (.str c.st.hm.more) := S.m.conv un36 un9 un5
  have c1 := S.ce
  have c2 := S.cm
  have hle : lenR (cfgR ro) h 34 ev = .ok (.int .i64 (c.st.ed.toList.length : Nat)) := by have := S.e.lenR (t := 34) un34; simpa using this
  by_cases h1 : c.kind = 1
  · obtain ⟨a1, e, a2⟩ := C.o h1
    rw [a2] at hle
    have hx : indexAddrR Tryz.prog 34 ev (.int .i64 0) = .ok (elp ev 5 0) := S.e.idx (i := 0) un34 sz84 (by rw [a2]; simp)
    have hl : loadR (cfgR ro) h 84 (elp ev 5 0) = .ok (.agg (edc e)) := S.e.load (by rw [a2]; rfl) ag84 sz84
    unfold edc at hl
    have he := eqEd (ro := ro) h (e.kind : Nat) (e.at_ : Nat) (e.to : Nat) (e.dest : Nat) e.text
    simp -implicitDefEqProofs [-convR, Tryz.f16, cmA, rC, cC, c1, c2, hcv, h1, a1, a2, hle, hx, hl, he]
    exact ⟨by decide, hq⟩
  · obtain ⟨a1, a2, a3⟩ := C.n h1
    rw [a1] at hle
    have h1' : ¬ ((c.kind : Int) = 1) := by omega
    by_cases h6 : c.kind ≤ 6
    · have b1 := a2 h6
      have h6' : ¬ ((6 : Int) < (c.kind : Int)) := by omega
      have h6'' : (c.kind : Int) ≤ 6 := by omega
      simp -implicitDefEqProofs [-convR, Tryz.f16, cmA, rC, cC, c1, c2, hcv, h1, h1', a1, b1, hle, h6, h6', h6'']
      exact hq
    · have b1 := a3 (by omega)
      have h6' : (6 : Int) < (c.kind : Int) := by omega
      have h6'' : ¬ ((c.kind : Int) ≤ 6) := by omega
      simp -implicitDefEqProofs [-convR, Tryz.f16, cmA, rC, cC, c1, c2, hcv, h1, h1', a1, b1, hle, h6, h6', h6'']
      exact hq
theorem ConsoleParses_ev (hw : ro 0 = some [.str [], .str [100, 111], .str [117, 110, 100, 111], .str [114, 101, 100, 111], .str [99, 111, 109, 101], .str [97, 115, 107], .str [115, 116, 111, 114, 101]]) (ha : ∃ h', Run (cfgR ro) 6 [] heap0 (.bool true) h') (s : Str) : Ev (cfgR ro) 5 [.str s] heap0 (fun x _ => x = .bool true) := by
  refine Ev.wp rfl rfl Tryz.func5 rfl ?_
  obtain ⟨h1, ha⟩ := ha
  by_cases cs : 500 < s.length
  · have d1 : decide ((500 : Int) < (s.length : Int)) = true := decide_eq_true (by omega)
    simp -implicitDefEqProofs [Tryz.f5, Ev.run ha, cs, d1]
  have d1 : decide ((500 : Int) < (s.length : Int)) = false := decide_eq_false (by omega)
  simp -implicitDefEqProofs [Tryz.f5, Ev.run ha, cs, d1]
  refine parse_ev hw (by omega) (fun h2 c ev hv o2 hc S => ?_) (fun h2 e o2 hc => ?_)
  · have c1 := S.ce
    have c2 := S.cm
    simp -implicitDefEqProofs [cmA, c1, c2]
    refine rparse_ev (by omega) (fun h3 x o3 hx => ?_) (fun h3 e o3 hx => ?_)
    · rw [hc] at hx
      cases hx
      simp -implicitDefEqProofs [rC, cC, c1, c2]
      refine same_ev (S := (⟨S.e.old o3, S.ce, S.m.old o3, S.cm⟩ : StOk ro h3 c.st ev hv)) (cmdF_ok hc) ?_
      simp -implicitDefEqProofs
    · rw [hc] at hx; cases hx
  · simp -implicitDefEqProofs [cmA, CmV.zero, StV.zero, HmV.zero]
    refine rparse_ev (by omega) (fun h3 x o3 hx => ?_) (fun h3 e2 o3 hx => ?_)
    · rw [hc] at hx; cases hx
    · rw [hc] at hx
      cases hx
      have he : e ≠ 0 := cmdF_err hc
      have he' : ¬ ((e : Int) = 0) := by omega
      simp -implicitDefEqProofs [rC, cC, CmV.zero, StV.zero, HmV.zero, EdV.zero, he, he']
end
end Go.Proofs.YtofnbldbggddmaaGreatDoor
