/-
  A part of the proof of PlanChecks, over the seat Ytbcjancmcajpbaa: for every input the law returns true, and the input reads as it did.
-/
import Derived.Test.YtbcjancmcajpbaaR1G
set_option linter.all false
set_option maxRecDepth 100000
set_option maxHeartbeats 4000000
namespace Go.Proofs.Ytbcjancmcajpbaa
open Go Go.RowKit Go.Proofs

def allGo : List Ed → Int → Int → Nat → Int × Int × Int
  | [], _, atoms, _ => (atoms, 0, 0)
  | e :: l, len, atoms, i => if (chk e len).2.2 ≠ 0 then (0, i, (chk e len).2.2) else allGo l (chk e len).1 (atoms + (chk e len).2.1) (i + 1)
def allS (l : List Ed) (len : Int) : Int × Int × Int := if l.length = 0 then (0, 0, 11) else if 16 < l.length then (0, 0, 13) else allGo l len 0 0

theorem chk_bd {e : Ed} {len a b c : Int} (h : chk e len = (a, b, c)) (hl : 0 ≤ len) : 0 ≤ a ∧ a ≤ len + 64 ∧ 0 ≤ b ∧ b ≤ 1024 ∧ 0 ≤ c ∧ c ≤ 41 := by
  unfold chk at h
  repeat' (split at h)
  all_goals (injection h with h1 h; injection h with h2 h3; subst h1 h2 h3)
  all_goals omega
theorem allGo_step {l : List Ed} {i : Nat} (hi : i < l.length) {len atoms a b c : Int} (h : chk l[i] len = (a, b, c)) : allGo (l.drop i) len atoms i = if c ≠ 0 then (0, (i : Int), c) else allGo (l.drop (i + 1)) a (atoms + b) (i + 1) := by
  rw [List.drop_eq_getElem_cons hi]; simp only [allGo, h]

section
variable {ro : Nat → Option (List AVal)}
def Eds (c : Cfg) (h : AHeap) (v : AVal) (l : List Ed) : Prop := Sl c h 5 v (l.map Ed.cells)
theorem Eds.at {l : List Ed} {i : Nat} (hi : i < l.length) : (l.map Ed.cells)[i]? = some l[i].cells := by simp [hi]

theorem all13 {v : AVal} {l : List Ed} {len : Int} {h : AHeap} (hv : Eds (cfgR ro) h v l) (ht : ∀ e ∈ l, e.text.length ≤ 300) (hl : 0 ≤ len ∧ len ≤ 2 ^ 40) {Q : AVal → AHeap → Prop}
    (hq : ∀ a b c, allS l len = (a, b, c) → Q (.tuple [.int .i64 a, .int .i64 b, .int .i64 c]) h) : Ev (cfgR ro) 13 [v, .int .i64 len] h Q := by
  refine Ev.wp rfl rfl Try.func13 rfl ?_
  have hL : lenR (cfgR ro) h 25 v = .ok (.int .i64 l.length) := by have := hv.lenR (t := 25) un25; simpa using this
  have hX : ∀ i, i < l.length → indexAddrR Try.prog 25 v (.int .i64 (i : Int)) = .ok (elp v 5 i) := fun i hi => hv.idx un25 sz28 (by simpa using hi)
  have hA : ∀ i (hi : i < l.length), loadR (cfgR ro) h 28 (elp v 5 i) = .ok (.agg l[i].cells) := fun i hi => hv.load (Eds.at hi) ag28 sz28
  simp [Try.f13, hL]
  refine orD (fun h1 => ?_) (fun h1 => ?_)
  · simp
    exact hq _ _ _ (by simp [allS, h1])
  simp [hL]
  refine orD (fun h2 => ?_) (fun h2 => ?_)
  · simp
    exact hq _ _ _ (by rw [allS, if_neg (by simpa using h1), if_pos (by omega)])
  simp
  have e0 : allS l len = allGo l len 0 0 := by rw [allS, if_neg (by simpa using h1), if_neg (by omega)]
  obtain ⟨I, hI⟩ : ∃ I : Nat → List AVal → AHeap → Prop, I = fun m env h' => ∃ (i : Nat) (n a : Int), i + m = l.length ∧ h' = h ∧ allGo (l.drop i) n a i = allS l len ∧ (0 ≤ n ∧ n ≤ 2 ^ 40 + 64 * i) ∧ (0 ≤ a ∧ a ≤ 1024 * i) ∧ env = (v :: .int .i64 n :: .dead :: .dead :: .dead :: .dead :: .dead :: .int .i64 a :: .int .i64 i :: .dead :: .dead :: .dead :: .dead :: .dead :: .dead :: .dead :: .dead :: .dead :: .dead :: .dead :: .dead :: .dead :: .dead :: .dead :: .dead :: .dead :: .dead :: .dead :: .dead :: .dead :: .dead :: .dead :: .dead :: .dead :: .dead :: .dead :: .dead :: .dead :: .dead :: .dead :: .dead :: .dead :: .dead :: []) := ⟨_, rfl⟩
  refine loop_of I ?_ l.length (by rw [hI]; exact ⟨0, len, 0, by simp, rfl, by simp [e0], by omega, by simp, rfl⟩)
  rintro m env h' hi
  have hi' := hi
  rw [hI] at hi'
  obtain ⟨i, n, a, hin, rfl, he, hn, ha, rfl⟩ := hi'
  simp [hL]
  refine orD (fun h3 => ?_) (fun h3 => ?_)
  · have hX := hX i h3
    have hA := hA i h3
    simp [hX, hA]
    refine chk8 _ (by omega) (ht _ (List.getElem_mem h3)) _ (fun a' b' c' hc => ?_)
    have hb := chk_bd hc hn.1
    rw [allGo_step h3 hc] at he
    simp
    refine orD (fun h4 => ?_) (fun h4 => ?_)
    · subst h4
      simp at he
      simp
      rw [w64 (n := a + b') (by omega) (by omega), w64 (n := (i : Int) + 1) (by omega) (by omega)]
      exact .mk (m := m - 1) (by omega) (by rw [hI]; exact ⟨i + 1, a', a + b', by omega, rfl, he, by omega, by omega, by simp⟩)
    · simp
      rw [if_pos h4] at he
      exact hq _ _ _ he.symm
  · simp
    have : l.drop i = [] := List.drop_of_length_le (by omega)
    rw [this] at he
    exact hq _ _ _ he.symm

theorem all12 {v : AVal} {l : List Ed} {len : Int} {h : AHeap} (hv : Eds (cfgR ro) h v l) (ht : ∀ e ∈ l, e.text.length ≤ 300) (hl : 0 ≤ len ∧ len ≤ 2 ^ 40) {Q : AVal → AHeap → Prop}
    (hq : ∀ a b c h', Old h h' → allS l len = (a, b, c) → Q (.tuple [.int .i64 a, .int .i64 b, .int .i64 c]) h') : Ev (cfgR ro) 12 [.int .i64 len, v] h Q := by
  refine Ev.wp rfl rfl Try.func12 rfl ?_
  have hL : ∀ h', Old h h' → lenR (cfgR ro) h' 22 v = .ok (.int .i64 l.length) := fun h' ho => by have := (hv.old ho).lenR (t := 22) un22; simpa using this
  have hX : ∀ i, i < l.length → indexAddrR Try.prog 22 v (.int .i64 (i : Int)) = .ok (elp v 5 i) := fun i hi => hv.idx un22 sz33 (by simpa using hi)
  have hA : ∀ h', Old h h' → ∀ i (hi : i < l.length), loadR (cfgR ro) h' 33 (elp v 5 i) = .ok (.agg l[i].cells) := fun h' ho i hi => (hv.old ho).load (Eds.at hi) ag33 sz33
  have hL0 := hL h (Old.refl h)
  simp [Try.f12, hL0]
  refine orD (fun h1 => ?_) (fun h1 => ?_)
  · simp
    exact hq _ _ _ _ (Old.refl h) (by simp [allS, h1])
  simp [hL0]
  refine orD (fun h2 => ?_) (fun h2 => ?_)
  · simp
    exact hq _ _ _ _ (Old.refl h) (by rw [allS, if_neg (by simpa using h1), if_pos (by omega)])
  simp
  have e0 : allS l len = allGo l len 0 0 := by rw [allS, if_neg (by simpa using h1), if_neg (by omega)]
  obtain ⟨I, hI⟩ : ∃ I : Nat → List AVal → AHeap → Prop, I = fun m env h' => ∃ (i : Nat) (n a : Int) (z : AVal), i + m = l.length ∧ i < l.length ∧ Old h h' ∧ allGo (l.drop i) n a i = allS l len ∧ (0 ≤ n ∧ n ≤ 2 ^ 40 + 64 * i) ∧ (0 ≤ a ∧ a ≤ 1024 * i) ∧ env = (.int .i64 n :: v :: .dead :: .dead :: .int .i64 a :: .dead :: .dead :: .int .i64 i :: .dead :: .dead :: .dead :: .dead :: .dead :: .dead :: .dead :: .dead :: .dead :: .dead :: .dead :: .dead :: .dead :: .dead :: .dead :: .dead :: .dead :: .dead :: .dead :: .dead :: .dead :: .dead :: .dead :: .dead :: .dead :: .dead :: .dead :: .dead :: .dead :: .dead :: .dead :: .dead :: z :: .dead :: []) := ⟨_, rfl⟩
  have hpos : 0 < l.length := List.length_pos_iff.2 h1
  refine label_loop I (fun _ _ => rfl) rfl ?_ l.length (by rw [hI]; exact ⟨0, len, 0, .dead, by simp, hpos, Old.refl h, by simp [e0], by omega, by simp, rfl⟩)
  rintro m env h' hrec hi
  have hi' := hi
  rw [hI] at hi'
  obtain ⟨i, n, a, z, hin, h3, ho, he, hn, ha, rfl⟩ := hi'
  have hX := hX i h3
  have hA := hA h' ho i h3
  simp [hX, hA]
  refine chk11 _ (by omega) (ht _ (List.getElem_mem h3)) _ (fun a' b' c' h2 ho2 hc => ?_)
  have ho := ho.trans ho2
  have hb := chk_bd hc hn.1
  rw [allGo_step h3 hc] at he
  have hL := hL h2 ho
  simp
  refine orD (fun h4 => ?_) (fun h4 => ?_)
  · subst h4
    simp at he
    simp [hL]
    rw [w64 (n := a + b') (by omega) (by omega), w64 (n := (i : Int) + 1) (by omega) (by omega)]
    refine orD (fun h5 => ?_) (fun h5 => ?_)
    · simp
      exact hrec (m - 1) (by omega) _ _ (by rw [hI]; exact ⟨i + 1, a', a + b', _, by omega, by omega, ho, he, by omega, by omega, rfl⟩)
    · simp
      have : l.drop (i + 1) = [] := List.drop_of_length_le (by omega)
      rw [this] at he
      exact hq _ _ _ _ ho he.symm
  · simp
    rw [if_pos h4] at he
    exact hq _ _ _ _ ho he.symm
end
end Go.Proofs.Ytbcjancmcajpbaa
