/-
  A part of the proof of PlanChecks, over the seat Ytbcjancmcajpbaa: for every input the law returns true, and the input reads as it did.
-/
import Derived.Test.YtbcjancmcajpbaaR1I
set_option linter.all false
set_option maxRecDepth 100000
set_option maxHeartbeats 4000000
namespace Go.Proofs.Ytbcjancmcajpbaa
open Go Go.RowKit Go.Proofs
theorem doS_len {s : List UInt8} {e : Ed} (h : can e s.length) : (doS s e).length ≤ s.length + 64 := by
  unfold can at h
  unfold doS
  rcases h with ⟨a, h1, h2, h3, h4, h5, h6⟩ | ⟨a, t, h1, h2, h3, h4, h5, h6, h7⟩ | ⟨a, t, d, h1, h2, h3, h4, h5, h6, h7, h8, h9⟩
  · simp [h1]; omega
  · simp [h1, h2, h3]; omega
  · simp only [h1, h2, h3, h4, Int.toNat_natCast]
    rw [if_neg (by decide), if_neg (by decide)]
    split <;> simp <;> omega
section
variable {ro : Nat → Option (List AVal)}

theorem law3 {v : AVal} {l : List Ed} {s : List UInt8} {h : AHeap} (hv : Eds (cfgR ro) h v l) (hn : l.length < 2 ^ 63) : Ev (cfgR ro) 3 [.str s, v] h (fun v h => v = .bool true) := by
  refine Ev.wp rfl rfl Try.func3 rfl ?_
  simp [Try.f3, Ev.run (run5 h)]
  refine small6 hv hn ?_
  simp
  refine orB (fun h1 => ?_) (fun h1 => ?_)
  · simp [h1]
    refine orD (fun h2 => ?_) (fun h2 => ?_)
    · simp
    simp
    obtain ⟨ht, hn⟩ := smallB_iff.1 h1
    refine refs7 hv (by omega) (fun x h' ho hx => ?_)
    have hL : ∀ h2, Old h' h2 → lenR (cfgR ro) h2 25 x = .ok (.int .i64 l.length) := fun h2 o2 => by have := (hx.sl.old o2).lenR (c := cfgR ro) (t := 25) un25; simpa using this
    have hX : ∀ i, i < l.length → indexAddrR Try.prog 25 x (.int .i64 (i : Int)) = .ok (elp x 5 i) := fun i hi => (hx.sl (c := cfgR ro)).idx un25 sz28 (by simpa using hi)
    have hA : ∀ i (hi : i < l.length), loadR (cfgR ro) h' 28 (elp x 5 i) = .ok (.agg l[i].cells) := fun i hi => (hx.sl (c := cfgR ro)).load (Eds.at hi) ag28 sz28
    have hv' := hv.old ho
    have hX2 : ∀ i, i < l.length → indexAddrR Try.prog 22 v (.int .i64 (i : Int)) = .ok (elp v 5 i) := fun i hi => hv.idx un22 sz33 (by simpa using hi)
    have hA2 : ∀ i (hi : i < l.length), loadR (cfgR ro) h' 33 (elp v 5 i) = .ok (.agg l[i].cells) := fun i hi => hv'.load (Eds.at hi) ag33 sz33
    simp [hL h' (Old.refl _)]
    obtain ⟨I, hI⟩ : ∃ I : Nat → List AVal → AHeap → Prop, I = fun m env h2 => ∃ (i : Nat) (t : List UInt8) (z9 : AVal), i + m = l.length ∧ h2 = h' ∧ t.length ≤ 2000 + 64 * i ∧ env = (.str t :: v :: .dead :: .dead :: .dead :: .dead :: .dead :: .dead :: .dead :: .dead :: .dead :: .dead :: .dead :: .dead :: .dead :: .dead :: .dead :: .dead :: .dead :: .dead :: .dead :: .dead :: x :: .int .i64 l.length :: .int .i64 i :: .dead :: .dead :: .dead :: .dead :: .dead :: .dead :: .dead :: .dead :: .dead :: .dead :: .dead :: .dead :: .dead :: z9 :: .dead :: .dead :: .dead :: .dead :: .dead :: .dead :: .dead :: .dead :: .dead :: .dead :: .dead :: .dead :: .dead :: []) := ⟨_, rfl⟩
    refine loop_of I ?_ l.length (by rw [hI]; exact ⟨0, s, .dead, by simp, rfl, by omega, rfl⟩)
    rintro m env h3 hi
    have hi' := hi
    rw [hI] at hi'
    obtain ⟨i, t, z9, hin, rfl, hlen, rfl⟩ := hi'
    simp
    refine orD (fun h3 => ?_) (fun h3 => ?_)
    · simp [hX i h3, hA i h3, Ed.cells]
      refine chk8 l[i] (len := (t.length : Int)) (by omega) (ht _ (List.getElem_mem h3)) _ (fun a b c hc => ?_)
      simp
      refine orD (fun h4 => ?_) (fun h4 => ?_)
      · subst h4
        have hcan := can_of hc
        simp
        refine do9 l[i] (by omega) hcan _ ?_
        simp [hX2 i h3, hA2 i h3, Ed.cells]
        refine do10 l[i] (by omega) hcan _ ?_
        have hdl := doS_len hcan
        simp
        rw [w64 (n := (i : Int) + 1) (by omega) (by omega)]
        exact .mk (m := m - 1) (by omega) (by rw [hI]; exact ⟨i + 1, _, _, by omega, rfl, by omega, rfl⟩)
      · simp
        rw [w64 (n := (i : Int) + 1) (by omega) (by omega)]
        exact .mk (m := m - 1) (by omega) (by rw [hI]; exact ⟨i + 1, _, _, by omega, rfl, by omega, rfl⟩)
    · simp
  · simp [h1]
theorem law4 {v : AVal} {l : List Ed} {n : Int} {h : AHeap} (hv : Eds (cfgR ro) h v l) (hn : l.length < 2 ^ 63) : Ev (cfgR ro) 4 [v, .int .i64 n] h (fun v h => v = .bool true) := by
  refine Ev.wp rfl rfl Try.func4 rfl ?_
  simp [Try.f4, Ev.run (run5 h)]
  refine small6 hv hn ?_
  simp
  refine orB (fun h1 => ?_) (fun h1 => ?_)
  · simp [h1]
    refine orD (fun h2 => ?_) (fun h2 => ?_)
    · simp [h2]
    simp [h2]
    refine orD (fun h2' => ?_) (fun h2' => ?_)
    · simp
    simp
    obtain ⟨ht, hn⟩ := smallB_iff.1 h1
    refine refs7 hv (by omega) (fun x h' ho hx => ?_)
    have hX : ∀ i, i < l.length → indexAddrR Try.prog 25 x (.int .i64 (i : Int)) = .ok (elp x 5 i) := fun i hi => (hx.sl (c := cfgR ro)).idx un25 sz28 (by simpa using hi)
    have hA : ∀ h2, Old h' h2 → ∀ i (hi : i < l.length), loadR (cfgR ro) h2 28 (elp x 5 i) = .ok (.agg l[i].cells) := fun h2 o2 i hi => ((hx.sl (c := cfgR ro)).old o2).load (Eds.at hi) ag28 sz28
    have hv' := hv.old ho
    have hL2 : lenR (cfgR ro) h' 22 v = .ok (.int .i64 l.length) := by have := hv'.lenR (t := 22) un22; simpa using this
    have hX2 : ∀ i, i < l.length → indexAddrR Try.prog 22 v (.int .i64 (i : Int)) = .ok (elp v 5 i) := fun i hi => hv.idx un22 sz33 (by simpa using hi)
    have hA2 : ∀ h2, Old h' h2 → ∀ i (hi : i < l.length), loadR (cfgR ro) h2 33 (elp v 5 i) = .ok (.agg l[i].cells) := fun h2 o2 i hi => (hv'.old o2).load (Eds.at hi) ag33 sz33
    simp [hL2]
    obtain ⟨I, hI⟩ : ∃ I : Nat → List AVal → AHeap → Prop, I = fun m env h2 => ∃ (i : Nat), i + m = l.length ∧ Old h' h2 ∧ env = (v :: .int .i64 n :: .dead :: .dead :: .dead :: x :: .dead :: .dead :: .dead :: .dead :: .dead :: .dead :: .dead :: .dead :: .dead :: .dead :: .dead :: .dead :: .dead :: .dead :: .dead :: .dead :: .dead :: .dead :: .dead :: .dead :: .dead :: .dead :: .dead :: .dead :: .dead :: .dead :: .dead :: .dead :: .dead :: v :: .int .i64 l.length :: .int .i64 i :: .dead :: .dead :: .dead :: .dead :: .dead :: .dead :: .dead :: .dead :: .dead :: .dead :: .dead :: .dead :: .dead :: .dead :: .dead :: .dead :: .dead :: .dead :: .dead :: .dead :: .dead :: .dead :: .dead :: .dead :: .dead :: .dead :: .dead :: .dead :: .dead :: .dead :: .dead :: .dead :: .dead :: .dead :: .dead :: .dead :: .dead :: .dead :: .dead :: .dead :: .dead :: .dead :: .dead :: .dead :: .dead :: .dead :: .dead :: .dead :: .dead :: .dead :: .dead :: .dead :: .dead :: .dead :: .dead :: .dead :: .dead :: .dead :: .dead :: .dead :: .dead :: .dead :: []) := ⟨_, rfl⟩
    refine loop_of I ?_ l.length (by rw [hI]; exact ⟨0, by simp, Old.refl _, rfl⟩)
    rintro m env h3 hi
    have hi' := hi
    rw [hI] at hi'
    obtain ⟨i, hin, ho3, rfl⟩ := hi'
    simp
    refine orD (fun h4 => ?_) (fun h4 => ?_)
    · simp [hX2 i h4, hA2 h3 ho3 i h4, Ed.cells]
      refine chk11 l[i] (len := n) (by omega) (ht _ (List.getElem_mem h4)) _ (fun a b c h5 o5 hc => ?_)
      have ho5 := ho3.trans o5
      simp [hX i h4, hA h5 ho5 i h4, Ed.cells]
      refine chk8 l[i] (len := n) (by omega) (ht _ (List.getElem_mem h4)) _ (fun a' b' c' hc' => ?_)
      rw [hc] at hc'
      injection hc' with e1 e2
      injection e2 with e2 e3
      subst e1 e2 e3
      simp
      rw [w64 (n := (i : Int) + 1) (by omega) (by omega)]
      exact .mk (m := m - 1) (by omega) (by rw [hI]; exact ⟨i + 1, by omega, ho5, rfl⟩)
    · simp
      refine all12 (len := n) (hv'.old ho3) ht (by omega) (fun a b c h5 o5 hc => ?_)
      have ho5 := ho3.trans o5
      simp
      refine all13 ((hx.sl (c := cfgR ro)).old ho5) ht (len := n) (by omega) (fun a' b' c' hc' => ?_)
      rw [hc] at hc'
      injection hc' with e1 e2
      injection e2 with e2 e3
      subst e1 e2 e3
      simp
  · simp [h1]
end
end Go.Proofs.Ytbcjancmcajpbaa
