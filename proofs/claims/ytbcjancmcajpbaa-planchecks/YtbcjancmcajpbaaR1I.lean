/-
  A part of the proof of PlanChecks, over the seat Ytbcjancmcajpbaa: for every input the law returns true, and the input reads as it did.
-/
import Derived.Test.YtbcjancmcajpbaaR1H
set_option linter.all false
set_option maxRecDepth 100000
set_option maxHeartbeats 4000000
namespace Go.Proofs.Ytbcjancmcajpbaa
open Go Go.RowKit Go.Proofs

def smallB (l : List Ed) : Bool := l.all (fun e => decide (e.text.length ≤ 300)) && decide (l.length ≤ 40)
theorem smallB_iff {l : List Ed} : smallB l = true ↔ (∀ e ∈ l, e.text.length ≤ 300) ∧ l.length ≤ 40 := by
  unfold smallB; simp
section
variable {ro : Nat → Option (List AVal)}

theorem run5 (h : AHeap) : Run (cfgR ro) 5 [] h (.bool true) h := ⟨60, by kernel_rfl⟩

theorem small6 {v : AVal} {l : List Ed} {h : AHeap} (hv : Eds (cfgR ro) h v l) (hn : l.length < 2 ^ 63) {Q : AVal → AHeap → Prop}
    (hq : Q (.bool (smallB l)) h) : Ev (cfgR ro) 6 [v] h Q := by
  refine Ev.wp rfl rfl Try.func6 rfl ?_
  have hL : lenR (cfgR ro) h 22 v = .ok (.int .i64 l.length) := by have := hv.lenR (t := 22) un22; simpa using this
  have hX : ∀ i, i < l.length → indexAddrR Try.prog 22 v (.int .i64 (i : Int)) = .ok (elp v 5 i) := fun i hi => hv.idx un22 sz33 (by simpa using hi)
  have hA : ∀ i (hi : i < l.length), loadR (cfgR ro) h 33 (elp v 5 i) = .ok (.agg l[i].cells) := fun i hi => hv.load (Eds.at hi) ag33 sz33
  simp [Try.f6, hL]
  obtain ⟨I, hI⟩ : ∃ I : Nat → List AVal → AHeap → Prop, I = fun m env h' => ∃ (i : Nat), i + m = l.length ∧ h' = h ∧ (∀ j (hj : j < i) (hl : j < l.length), l[j].text.length ≤ 300) ∧ env = (v :: .dead :: .dead :: .dead :: .dead :: v :: .int .i64 l.length :: .int .i64 i :: .dead :: .dead :: .dead :: .dead :: .dead :: .dead :: .dead :: .dead :: .dead :: .dead :: .dead :: []) := ⟨_, rfl⟩
  refine loop_of I ?_ l.length (by rw [hI]; exact ⟨0, by simp, rfl, by simp, rfl⟩)
  rintro m env h' hi
  have hi' := hi
  rw [hI] at hi'
  obtain ⟨i, hin, rfl, hs, rfl⟩ := hi'
  simp
  refine orD (fun h3 => ?_) (fun h3 => ?_)
  · simp [hX i h3, hA i h3, Ed.cells]
    refine orD (fun h4 => ?_) (fun h4 => ?_)
    · simp
      have : smallB l = false := by
        rw [← Bool.not_eq_true, smallB_iff]
        intro hh
        have := hh.1 _ (List.getElem_mem h3)
        omega
      rw [this] at hq; exact hq
    · simp
      rw [w64 (n := (i : Int) + 1) (by omega) (by omega)]
      refine .mk (m := m - 1) (by omega) (by
        rw [hI]; refine ⟨i + 1, by omega, rfl, fun j hj hl => ?_, rfl⟩
        by_cases hji : j = i
        · subst hji; omega
        · exact hs j (by omega) hl)
  · simp [hL]
    have : smallB l = decide (l.length ≤ 40) := by
      unfold smallB
      have : l.all (fun e => decide (e.text.length ≤ 300)) = true := by
        rw [List.all_eq_true]
        intro e he
        obtain ⟨j, hj, rfl⟩ := List.getElem_of_mem he
        simpa using hs j (by omega) hj
      rw [this]; simp
    rw [this] at hq
    have e2 : decide ((l.length : Int) ≤ 40) = decide (l.length ≤ 40) := by simp; omega
    first | exact hq | (rw [e2]; exact hq)

theorem refs7 {v : AVal} {l : List Ed} {h : AHeap} (hv : Eds (cfgR ro) h v l) (hn : l.length ≤ 2 ^ 40) {Q : AVal → AHeap → Prop}
    (hq : ∀ v' h', Old h h' → Mine h h' 5 (l.map Ed.cells) v' → Q v' h') : Ev (cfgR ro) 7 [v] h Q := by
  refine Ev.wp rfl rfl Try.func7 rfl ?_
  have hL : lenR (cfgR ro) h 22 v = .ok (.int .i64 l.length) := by have := hv.lenR (t := 22) un22; simpa using this
  have hX : ∀ i, i < l.length → indexAddrR Try.prog 22 v (.int .i64 (i : Int)) = .ok (elp v 5 i) := fun i hi => hv.idx un22 sz33 (by simpa using hi)
  have hA : ∀ h', Old h h' → ∀ i (hi : i < l.length), loadR (cfgR ro) h' 33 (elp v 5 i) = .ok (.agg l[i].cells) := fun h' ho i hi => (hv.old ho).load (Eds.at hi) ag33 sz33
  simp [Try.f7, hL]
  obtain ⟨I, hI⟩ : ∃ I : Nat → List AVal → AHeap → Prop, I = fun m env h' => ∃ (i : Nat) (o : AVal), i + m = l.length ∧ Old h h' ∧ Mine h h' 5 ((l.take i).map Ed.cells) o ∧ env = (.dead :: .dead :: .dead :: o :: .dead :: .dead :: v :: .int .i64 l.length :: .int .i64 i :: .dead :: .dead :: .dead :: .dead :: .dead :: .dead :: .dead :: .dead :: .dead :: .dead :: .dead :: .dead :: .dead :: .dead :: .dead :: .dead :: .dead :: .dead :: .dead :: []) := ⟨_, rfl⟩
  refine loop_of I ?_ l.length (by rw [hI]; exact ⟨0, .nils, by simp, Old.refl h, by simpa using Mine.nil h h 5, rfl⟩)
  rintro m env h' hi
  have hi' := hi
  rw [hI] at hi'
  obtain ⟨i, o, hin, ho, hm, rfl⟩ := hi'
  simp
  refine orD (fun h3 => ?_) (fun h3 => ?_)
  · simp [hX i h3, hA h' ho i h3, Ed.cells, buildSliceR, reps]
    obtain ⟨v', h2, e1, m2, o2⟩ := (hm.keep ((Old.refl h').push (.row 5 false l[i].cells))).append1 (bytes := 48) (e := l[i].cells) (by omega) rfl (by simp; omega) (ho.push _)
    simp only [Ed.cells] at e1
    simp [e1]
    rw [w64 (n := (i : Int) + 1) (by omega) (by omega)]
    refine .mk (m := m - 1) (by omega) (by rw [hI]; exact ⟨i + 1, v', by omega, o2, by rw [List.take_succ_eq_append_getElem h3, List.map_append]; exact m2, rfl⟩)
  · simp
    rw [List.take_of_length_le (by omega)] at hm
    exact hq _ _ ho hm
end
end Go.Proofs.Ytbcjancmcajpbaa
