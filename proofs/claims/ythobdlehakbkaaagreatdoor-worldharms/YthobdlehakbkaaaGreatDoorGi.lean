/-
  A part of the proof of WorldHarms, over the seat YthobdlehakbkaaaGreatDoor: for every input the law returns true, and the input reads as it did.
-/
import Derived.Test.YthobdlehakbkaaaGreatDoorGh
set_option linter.all false
set_option linter.all false
set_option maxRecDepth 100000
set_option maxHeartbeats 4000000
namespace Go.Proofs.YthobdlehakbkaaaGreatDoor.InsE
open Go Go.RowKit Go.Proofs Go.Proofs.YthobdlehakbkaaaGreatDoor
section
variable {ro : Nat → Option (List AVal)}
theorem run0 (h : AHeap) (q : Nat) (x : List AVal) (hq : h.get q = some (.row 2 false x)) (hx : x.length = 2) (hlq : q < h.next) :
    Ev (cfgR ro) 137 [.nils, .int .i64 0, .sl q 0 1] h (InsQK 2 h (h.next + 8) 0 0 x) := by
  refine Ev.wp rfl rfl Tryz.func137 rfl ?_
  obtain ⟨c, d, rfl⟩ : ∃ c d, x = [c, d] := by
    match x, hx with
    | [c, d], _ => exact ⟨c, d, rfl⟩
  simp -implicitDefEqProofs [Tryz.f137, bounds2, sliceSl, hq, appCore, boundR, lenA]
  exact ⟨by simp, fun p hp _ => by rw [AHeap.get_push, if_neg (by omega)], .inr ⟨h.next, false, Nat.le_refl _, rfl, by rw [AHeap.get_push, if_pos rfl]⟩⟩
@[simp] theorem get_set_self (h : AHeap) (o : Nat) (x : AObj) : (h.set o x).get o = some x := by rw [AHeap.get_set, if_pos rfl]
theorem get_set_ne {h : AHeap} {o q : Nat} {x : AObj} (d : q ≠ o) : (h.set q x).get o = h.get o := by rw [AHeap.get_set, if_neg d.symm]
theorem run (h : AHeap) (o q cap i : Nat) (vs D x : List AVal) (fz : Bool) (ho : h.get o = some (.row 2 fz (vs ++ D))) (hn : vs.length = 2) (hD : 2 + D.length = cap * 2) (hq : h.get q = some (.row 2 false x)) (hx : x.length = 2) (hne : q ≠ o) (hlo : o < h.next) (hlq : q < h.next) (hi : i ≤ 1) (hc1 : 1 ≤ cap) :
    Ev (cfgR ro) 137 [.slc o 0 1 cap, .int .i64 i, .sl q 0 1] h (InsQK 2 h o 1 cap (insR1 vs i x)) := by
  refine Ev.wp rfl rfl Tryz.func137 rfl ?_
  obtain ⟨c, d, rfl⟩ : ∃ c d, x = [c, d] := by
    match x, hx with
    | [c, d], _ => exact ⟨c, d, rfl⟩
  obtain ⟨a, b, rfl⟩ : ∃ a b, vs = [a, b] := by
    match vs, hn with
    | [a, b], _ => exact ⟨a, b, rfl⟩
  simp only [List.cons_append, List.nil_append] at ho
  have ne1 : o ≠ q := Ne.symm hne
  have same : ∀ v, sameRes (.ok v) v = true := AVal.beq_refl
  have bd : ∀ l m : Nat, l ≤ m → boundR (.int .i64 (l : Int)) m = .ok l := fun l m hlm => bd_nat hlm
  rcases (show i = 1 ∨ i = 0 by omega) with rfl | rfl
  · have b1 := bd 1 cap hc1
    have b2 := bd 1 1 (by omega)
    have b0 : boundR (.int .i64 1) cap = .ok 1 := b1
    have b0' : boundR (.int .i64 1) 1 = .ok 1 := b2
    have hov : ∀ e f D', overR (a :: b :: e :: f :: D') 2 [c, d] = .ok (a :: b :: c :: d :: D') := fun e f D' => by unfold overR; simp
    have htk : takeR (a :: b :: D) 0 2 = .ok [a, b] := by unfold takeR; simp
    simp -implicitDefEqProofs [Tryz.f137, b0, b0', bounds2, sliceSl, hq, ho, appCore]
    by_cases hc : 2 ≤ cap
    · obtain ⟨e, f, D', rfl⟩ : ∃ e f D', D = e :: f :: D' := by
        match D, hD with
        | [], hD => simp at hD; omega
        | [e], hD => simp at hD; omega
        | e :: f :: D', _ => exact ⟨e, f, D', rfl⟩
      simp -implicitDefEqProofs [hc, hov]
      exact ⟨by simp, fun p _ hp => by rw [AHeap.get_set, if_neg hp], .inl ⟨fz, D', rfl, hc, by rw [AHeap.get_set, if_pos rfl]; simp [insR1]⟩⟩
    · simp -implicitDefEqProofs [hc, htk]
      exact ⟨by simp, fun p hp _ => by rw [AHeap.get_push, if_neg (by omega)], .inr ⟨h.next, false, Nat.le_refl _, rfl, by rw [AHeap.get_push, if_pos rfl]; simp [insR1]⟩⟩
  · have b1 : boundR (.int .i64 0) cap = .ok 0 := bd 0 cap (by omega)
    have b2 : boundR (.int .i64 0) 1 = .ok 0 := bd 0 1 (by omega)
    have b3 : boundR (.int .i64 0) 2 = .ok 0 := bd 0 2 (by omega)
    have b4 : boundR (.int .i64 1) 2 = .ok 1 := bd 1 2 (by omega)
    have w1 : IntKind.i64.wrap (1 + 1) = 2 := by decide
    have w2 : IntKind.i64.wrap (0 + 1) = 1 := by decide
    have w2' : IntKind.i64.wrap 1 = 1 := by decide
    have w3 : IntKind.i64.wrap (2 - 0) = 2 := by decide
    have w4 : IntKind.i64.wrap 2 = 2 := by decide
    have s0 : ∀ l, slcOf o 0 2 0 l cap = .slc o 0 l cap := fun l => by unfold slcOf; rw [if_neg (by omega)]; simp
    by_cases hc : 2 ≤ cap
    · have b5 : boundR (.int .i64 2) cap = .ok 2 := bd 2 cap hc
      have d2 : ¬ cap < 2 := by omega
      have d2' : ¬ (cap : Int) < 2 := by omega
      have s1 : ∀ l, slcOf o 0 2 1 l cap = .slc o 2 (l - 1) (cap - 1) := fun l => by unfold slcOf; rw [if_neg (by omega)]
      obtain ⟨e, f, D', rfl⟩ : ∃ e f D', D = e :: f :: D' := by
        match D, hD with
        | [], hD => simp at hD; omega
        | [e], hD => simp at hD; omega
        | e :: f :: D', _ => exact ⟨e, f, D', rfl⟩
      have hov1 : overR (a :: b :: e :: f :: D') 2 [a, b] = .ok (a :: b :: a :: b :: D') := by unfold overR; simp
      have hov2 : overR (a :: b :: a :: b :: D') 0 [c, d] = .ok (c :: d :: a :: b :: D') := by unfold overR; simp
      have htk : takeR (a :: b :: e :: f :: D') 0 2 = .ok [a, b] := by unfold takeR; simp
      simp -implicitDefEqProofs [Tryz.f137, b1, b2, b3, b4, b5, bounds2, sliceSl, hq, ho, w1, w2, w2', w3, w4, s0, s1, d2, d2']
      refine Ev.prim (h' := h) (v := .bool false) rfl (by unfold ovlP; simp [hne, hq, ho]) ?_
      simp -implicitDefEqProofs [b1, b2, b3, b4, b5, bounds2, sliceSl, hq, ho, w1, w2, w2', s0, s1, htk, hov1, hov2, get_set_self, get_set_ne ne1, copyR, lenA, readSl, same]
      exact ⟨by simp, fun p _ hp => by rw [get_set_ne (Ne.symm hp), get_set_ne (Ne.symm hp)], .inl ⟨fz, D', rfl, hc, by rw [get_set_self]; simp [insR1]⟩⟩
    · have hcap : cap = 1 := by omega
      subst hcap
      have d2 : (1 : Int) < 2 := by omega
      simp -implicitDefEqProofs [Tryz.f137, b1, b2, b3, b4, bounds2, sliceSl, hq, ho, w1, w2, w2', w3, w4, s0]
      obtain ⟨Z, hZ⟩ : ∃ Z, Z = [AVal.int .u16 0, .int .u32 0, .int .u16 0, .int .u32 0] := ⟨_, rfl⟩
      have hm : appMakeR (cfgR ro) h 94 (some 3) (.slc o 0 0 1) (.int .i64 2) = .ok (.sl h.next 0 2, h.push (.row 2 false Z)) := by
        obtain ⟨i0, f1, f2, f3⟩ := inf94
        unfold appMakeR
        have ht0 : takeR (a :: b :: D) 0 0 = .ok [] := by unfold takeR; simp
        simp only [cfgP, un3, el94, f1, zc209, f2, f3, bind_ok, w4, ho]
        simp [ht0, hZ, reps, List.replicate, takeR]
      rw [hm]
      have gp : (h.push (.row 2 false Z)).get h.next = some (.row 2 false Z) := by rw [AHeap.get_push, if_pos rfl]
      have gq : ∀ y, (h.push y).get q = h.get q := fun y => by rw [AHeap.get_push, if_neg (by omega)]
      have go : ∀ y, (h.push y).get o = h.get o := fun y => by rw [AHeap.get_push, if_neg (by omega)]
      have hroom : ∀ r : List AVal, r.length = 4 → ∀ H : AHeap, H.get h.next = some (.row 2 false r) → roomOf H h.next 0 2 = .ok 2 := by
        intro r hr H hH
        unfold roomOf; rw [hH]; simp [hr]
      have g1 := hroom Z (by rw [hZ]; rfl) _ gp
      have hov1 : overR Z 0 [c, d] = .ok [c, d, .int .u16 0, .int .u32 0] := by rw [hZ]; unfold overR; simp
      obtain ⟨Z1, hZ1⟩ : ∃ Z1, Z1 = [c, d, AVal.int .u16 0, .int .u32 0] := ⟨_, rfl⟩
      rw [← hZ1] at hov1
      have g2 := hroom Z1 (by rw [hZ1]; rfl) ((h.push (.row 2 false Z)).set h.next (.row 2 false Z1)) (get_set_self _ _ _)
      have g3 : ∀ H : AHeap, ∀ y, (H.set h.next y).get o = H.get o := fun H y => get_set_ne (by omega)
      have hov2 : overR Z1 2 [a, b] = .ok [c, d, a, b] := by rw [hZ1]; unfold overR; simp
      have htk : takeR (a :: b :: D) 0 2 = .ok [a, b] := by unfold takeR; simp
      have g5 := hroom [c, d, a, b] rfl (((h.push (.row 2 false Z)).set h.next (.row 2 false Z1)).set h.next (.row 2 false [c, d, a, b])) (get_set_self _ _ _)
      simp -implicitDefEqProofs [gp, gq, go, hq, ho, b1, b2, b3, b4, w1, w2, w2', g1, g2, g3, s0, hov1, hov2, htk, same, bounds2, sliceSl, copyR, lenA, readSl]
      refine ⟨.inr ?_, ?_⟩
      · rw [g5]; exact AVal.beq_refl _
      refine ⟨by simp, fun p hp _ => by rw [get_set_ne (by omega), get_set_ne (by omega), AHeap.get_push, if_neg (by omega)], .inr ⟨h.next, false, Nat.le_refl _, rfl, by rw [get_set_self]; simp [insR1]⟩⟩
end
end Go.Proofs.YthobdlehakbkaaaGreatDoor.InsE
namespace Go.Proofs.YthobdlehakbkaaaGreatDoor
open Go Go.RowKit Go.Proofs
def insEP : Prim := insKP 2 true
theorem insEP_sound (F : Fix) (hP : F.c.P = Tryz.prog) (ok : F.Ok) : ∀ args h v h', insEP args h = .ok (v, h') → h.next ≤ h'.next ∧
    ∀ ι w (av : Array Value), Rel F ι h w → VRels ι F.ρ args av.toList → Fresh ι h.next h'.next → CallTo F.c.P 137 av w (Out F ι h w v h') :=
  insK_ok InsE.sureC F hP ok 137 (fun h o q cap i vs D x fz _ => InsE.run (ro := F.c.ro) h o q cap i vs D x fz) (fun h q x => InsE.run0 (ro := F.c.ro) h q x)
end Go.Proofs.YthobdlehakbkaaaGreatDoor
