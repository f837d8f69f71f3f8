/-
  A part of the proof of ConsoleWords, over the seat YtofnbldbggddmaaGreatDoor: for every input the law returns true, and the input reads as it did.
-/
import Derived.Test.YtofnbldbggddmaaGreatDoorGg
set_option linter.all false
set_option linter.all false
set_option maxRecDepth 100000
set_option maxHeartbeats 4000000
namespace Go.Proofs.YtofnbldbggddmaaGreatDoor
open Go Go.RowKit Go.Proofs
/-! the words of errors -/
def errNs : List Nat := [0, 10, 11, 12, 13, 14, 15, 16, 20, 21, 22, 30, 31, 40, 41, 42, 50]
def errWs : List AVal := [.str [111, 107], .str [114, 97, 110, 103, 101], .str [102, 111, 114, 109], .str [110, 111, 110, 101], .str [109, 97, 110, 121], .str [115, 104, 111, 114, 116], .str [108, 111, 110, 103], .str [116, 119, 105, 99, 101], .str [111, 118, 101, 114, 102, 108, 111, 119], .str [102, 117, 108, 108], .str [110, 111, 116, 104, 105, 110, 103], .str [102, 114, 97, 109, 101], .str [115, 117, 109], .str [114, 101, 102], .str [111, 119, 110], .str [117, 115, 101, 114], .str [119, 111, 114, 100]]
section
variable {ro : Nat → Option (List AVal)}
theorem word_r {h : AHeap} : ∀ (n : Nat) (w : AVal), (n, w) ∈ errNs.zip errWs → Run (cfgR ro) 12 [.int .i64 (n : Nat)] h w h := by
  intro n w hm
  simp only [errNs, errWs, List.zip_cons_cons, List.zip_nil_right, List.mem_cons, List.not_mem_nil, or_false, Prod.mk.injEq] at hm
  rcases hm with ⟨rfl, rfl⟩ | ⟨rfl, rfl⟩ | ⟨rfl, rfl⟩ | ⟨rfl, rfl⟩ | ⟨rfl, rfl⟩ | ⟨rfl, rfl⟩ | ⟨rfl, rfl⟩ | ⟨rfl, rfl⟩ | ⟨rfl, rfl⟩ | ⟨rfl, rfl⟩ | ⟨rfl, rfl⟩ | ⟨rfl, rfl⟩ | ⟨rfl, rfl⟩ | ⟨rfl, rfl⟩ | ⟨rfl, rfl⟩ | ⟨rfl, rfl⟩ | ⟨rfl, rfl⟩
  all_goals exact ⟨200, by kernel_rfl⟩
theorem rword_r {h : AHeap} : ∀ (n : Nat) (w : AVal), (n, w) ∈ errNs.zip errWs → Run (cfgR ro) 13 [.int .i64 (n : Nat)] h w h := by
  intro n w hm
  simp only [errNs, errWs, List.zip_cons_cons, List.zip_nil_right, List.mem_cons, List.not_mem_nil, or_false, Prod.mk.injEq] at hm
  rcases hm with ⟨rfl, rfl⟩ | ⟨rfl, rfl⟩ | ⟨rfl, rfl⟩ | ⟨rfl, rfl⟩ | ⟨rfl, rfl⟩ | ⟨rfl, rfl⟩ | ⟨rfl, rfl⟩ | ⟨rfl, rfl⟩ | ⟨rfl, rfl⟩ | ⟨rfl, rfl⟩ | ⟨rfl, rfl⟩ | ⟨rfl, rfl⟩ | ⟨rfl, rfl⟩ | ⟨rfl, rfl⟩ | ⟨rfl, rfl⟩ | ⟨rfl, rfl⟩ | ⟨rfl, rfl⟩
  all_goals exact ⟨200, by kernel_rfl⟩
def noErr (e : Int) : Prop := ∀ n ∈ errNs, e ≠ (n : Nat)
theorem word_none {h : AHeap} {e : Int} (he : noErr e) {Q : AVal → AHeap → Prop} (hq : Q (.str [101, 114, 114, 111, 114]) h) : Ev (cfgR ro) 12 [.int .i64 e] h Q := by
  refine Ev.wp rfl rfl Tryz.func12 rfl ?_
  have g : ∀ n, n ∈ errNs → ¬ e = ((n : Nat) : Int) := he
  have g0 : ¬ e = 0 := g 0 (by decide)
  have g1 : ¬ e = 10 := g 10 (by decide)
  have g2 : ¬ e = 11 := g 11 (by decide)
  have g3 : ¬ e = 12 := g 12 (by decide)
  have g4 : ¬ e = 13 := g 13 (by decide)
  have g5 : ¬ e = 14 := g 14 (by decide)
  have g6 : ¬ e = 15 := g 15 (by decide)
  have g7 : ¬ e = 16 := g 16 (by decide)
  have g8 : ¬ e = 20 := g 20 (by decide)
  have g9 : ¬ e = 21 := g 21 (by decide)
  have g10 : ¬ e = 22 := g 22 (by decide)
  have g11 : ¬ e = 30 := g 30 (by decide)
  have g12 : ¬ e = 31 := g 31 (by decide)
  have g13 : ¬ e = 40 := g 40 (by decide)
  have g14 : ¬ e = 41 := g 41 (by decide)
  have g15 : ¬ e = 42 := g 42 (by decide)
  have g16 : ¬ e = 50 := g 50 (by decide)
  simp -implicitDefEqProofs [Tryz.f12, g0, g1, g2, g3, g4, g5, g6, g7, g8, g9, g10, g11, g12, g13, g14, g15, g16]
  exact hq
theorem rword_none {h : AHeap} {e : Int} (he : noErr e) {Q : AVal → AHeap → Prop} (hq : Q (.str [101, 114, 114, 111, 114]) h) : Ev (cfgR ro) 13 [.int .i64 e] h Q := by
  refine Ev.wp rfl rfl Tryz.func13 rfl ?_
  simp -implicitDefEqProofs [Tryz.f13]
  obtain ⟨I, hI⟩ : ∃ I : Nat → List AVal → AHeap → Prop, I = fun m env h' => h' = h ∧ ∃ i : Nat, i + m = 17 ∧
    env = (.int .i64 e :: .dead :: .dead :: .cell (errNs.map fun n => .int .i64 ((n : Nat) : Int)) :: .cell errWs :: .int .i64 (i : Nat) :: .dead :: .dead :: .dead :: .dead :: .dead :: .dead :: .dead :: .dead :: .dead :: .dead :: .dead :: .dead :: .dead :: .dead :: []) := ⟨_, rfl⟩
  refine loop_of I ?_ 17 (by rw [hI]; exact ⟨rfl, 0, by omega, rfl⟩)
  intro m env h' hi
  rw [hI] at hi
  obtain ⟨rfl, i, him, rfl⟩ := hi
  by_cases hlt : i < 17
  · obtain ⟨n, hn⟩ : ∃ n, errNs[i]? = some n := ⟨_, List.getElem?_eq_getElem (by simpa [errNs] using hlt)⟩
    have hne : ¬ ((n : Nat) : Int) = e := fun h => he n (List.mem_of_getElem? hn) h.symm
    have w1 : IntKind.i64.wrap ((i : Int) + 1) = ((i + 1 : Nat) : Int) := by rw [w64 (by omega) (by omega)]; omega
    have hget : (errNs.map fun n => AVal.int .i64 ((n : Nat) : Int))[i]? = some (.int .i64 ((n : Nat) : Int)) := by rw [List.getElem?_map, hn]; rfl
    obtain ⟨cs, hcs⟩ : ∃ cs, cs = (errNs.map fun n => AVal.int .i64 ((n : Nat) : Int)) := ⟨_, rfl⟩
    rw [← hcs] at hget ⊢
    have d1 : decide ((i : Int) < 17) = true := decide_eq_true (by omega)
    have x1 : idxNat (.int .i64 (i : Nat)) 17 = .ok i := ix_nat hlt
    have x2 : nthR cs i = .ok (.int .i64 ((n : Nat) : Int)) := nthR_get hget
    simp -implicitDefEqProofs [d1, w1, hne, x1, x2]
    exact .mk (m := m - 1) (by omega) (by rw [hI]; exact ⟨rfl, i + 1, by omega, by rw [hcs]; rfl⟩)
  · have d1 : decide ((i : Int) < 17) = false := decide_eq_false (by omega)
    simp -implicitDefEqProofs [d1]
    exact hq
theorem ConsoleWords_ev (ha : ∃ h', Run (cfgR ro) 6 [] heap0 (.bool true) h') (e : Int) : Ev (cfgR ro) 4 [.int .i64 e] heap0 (fun x _ => x = .bool true) := by
  refine Ev.wp rfl rfl Tryz.func4 rfl ?_
  obtain ⟨h1, ha⟩ := ha
  simp -implicitDefEqProofs [Tryz.f4, Ev.run ha]
  by_cases he : noErr e
  · refine word_none he ?_
    simp -implicitDefEqProofs
    refine rword_none he ?_
    simp -implicitDefEqProofs [same_self]
  · have : ∃ n ∈ errNs, e = ((n : Nat) : Int) := by
      apply Classical.byContradiction
      intro hc
      exact he (fun n hn h => hc ⟨n, hn, h⟩)
    obtain ⟨n, hn, rfl⟩ := this
    obtain ⟨i, hi⟩ := List.mem_iff_getElem?.1 hn
    have hil := (List.getElem?_eq_some_iff.1 hi).1
    have hl : errNs.length = 17 := rfl
    have hl2 : errWs.length = 17 := rfl
    have hz : (n, errWs[i]'(by omega)) ∈ errNs.zip errWs := List.mem_of_getElem? (i := i) (by rw [List.getElem?_zip_eq_some]; exact ⟨hi, List.getElem?_eq_getElem (by omega)⟩)
    obtain ⟨w, hw⟩ : ∃ w, w = errWs[i]'(by omega) := ⟨_, rfl⟩
    rw [← hw] at hz
    have hws : ∃ s, w = .str s := by
      have : ∀ x ∈ errWs, ∃ s, x = .str s := by
        intro x hx
        simp only [errWs, List.mem_cons, List.not_mem_nil, or_false] at hx
        rcases hx with rfl | rfl | rfl | rfl | rfl | rfl | rfl | rfl | rfl | rfl | rfl | rfl | rfl | rfl | rfl | rfl | rfl <;> exact ⟨_, rfl⟩
      exact this w (by rw [hw]; exact List.getElem_mem _)
    obtain ⟨s, rfl⟩ := hws
    simp -implicitDefEqProofs [Ev.run (word_r (ro := ro) (h := h1) n _ hz), Ev.run (rword_r (ro := ro) (h := h1) n _ hz), same_self]
end
end Go.Proofs.YtofnbldbggddmaaGreatDoor
