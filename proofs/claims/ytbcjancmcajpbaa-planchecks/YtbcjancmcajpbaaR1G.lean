/-
  A part of the proof of PlanChecks, over the seat Ytbcjancmcajpbaa: for every input the law returns true, and the input reads as it did.
-/
import Derived.Test.YtbcjancmcajpbaaR1F
set_option linter.all false
set_option maxRecDepth 100000
set_option maxHeartbeats 4000000
namespace Go.Proofs.Ytbcjancmcajpbaa
open Go Go.RowKit Go.Proofs
section
variable {ro : Nat → Option (List AVal)}

theorem do9 (e : Ed) {s : List UInt8} (hs : s.length ≤ 2 ^ 40) (hc : can e s.length) (h : AHeap) {Q : AVal → AHeap → Prop}
    (hq : Q (.str (doS s e)) h) : Ev (cfgR ro) 9 [.str s, .agg e.cells] h Q := by
  refine Ev.wp rfl rfl Try.func9 rfl ?_
  have body : ∀ (k : Int) (a t : Nat) (d : Int) (m x : List UInt8) (hm : m.length ≤ 2 ^ 40) (ho : outA s m a t d (s.length + 1) = doS s e),
      wp (cfgR ro) 9 (.seq (.block 0 (match Try.f9.body with | some (.seq _ (.seq _ (.seq _ (.seq _ (.seq (.seq _ (.block _ b)) _))))) => b | _ => .skip)) (match Try.f9.body with | some (.seq _ (.seq _ (.seq _ (.seq _ (.seq _ b))))) => b | _ => .skip))
      (retK (cfgR ro) 9 Try.f9.results.toList Q) noE (retK (cfgR ro) 9 Try.f9.results.toList Q) noE
      (.str s :: .dead :: .dead :: .cell [.int .i64 k, .int .i64 a, .int .i64 t, .int .i64 d, .str x] :: .dead :: .str m :: .str [] :: .int .i64 0 :: .dead :: .dead :: .dead :: .dead :: .dead :: .dead :: .dead :: .dead :: .dead :: .dead :: .dead :: .dead :: .dead :: .dead :: .dead :: .dead :: .dead :: .dead :: .dead :: .dead :: .dead :: .dead :: .dead :: .dead :: .dead :: .dead :: .dead :: .dead :: .dead :: .dead :: .dead :: .dead :: .dead :: .dead :: .dead :: .dead :: .dead :: .dead :: .dead :: .dead :: .dead :: .dead :: .dead :: .dead :: .dead :: .dead :: .dead :: .dead :: .dead :: .dead :: .dead :: .dead :: .dead :: .dead :: .dead :: .dead :: .dead :: .dead :: []) h := by
    intro k a t d m x hm ho
    simp [Try.f9]
    obtain ⟨I, hI⟩ : ∃ I : Nat → List AVal → AHeap → Prop, I = fun n env h' => ∃ i : Nat, i + n = s.length + 1 ∧ h' = h ∧ env = (.str s :: .dead :: .dead :: .cell [.int .i64 k, .int .i64 a, .int .i64 t, .int .i64 d, .str x] :: .dead :: .str m :: .str (outA s m a t d i) :: .int .i64 i :: .dead :: .dead :: .dead :: .dead :: .dead :: .dead :: .dead :: .dead :: .dead :: .dead :: .dead :: .dead :: .dead :: .dead :: .dead :: .dead :: .dead :: .dead :: .dead :: .dead :: .dead :: .dead :: .dead :: .dead :: .dead :: .dead :: .dead :: .dead :: .dead :: .dead :: .dead :: .dead :: .dead :: .dead :: .dead :: .dead :: .dead :: .dead :: .dead :: .dead :: .dead :: .dead :: .dead :: .dead :: .dead :: .dead :: .dead :: .dead :: .dead :: .dead :: .dead :: .dead :: .dead :: .dead :: .dead :: .dead :: .dead :: .dead :: []) := ⟨_, rfl⟩
    refine loop_of I ?_ (s.length + 1) (by rw [hI]; exact ⟨0, by simp, rfl, rfl⟩)
    rintro n env h' hi
    have hi' := hi
    rw [hI] at hi'
    obtain ⟨i, hin, rfl, rfl⟩ := hi'
    have hlen := out_len (s := s) (m := m) (a := a) (t := t) (d := d) i
    have hw : IntKind.i64.wrap ((i : Int) + 1) = (i : Int) + 1 := w64 (by omega) (by omega)
    have hstep : ∀ o o2, o = outA s m a t d i ++ (if (i : Int) = d then m else []) → o2 = o ++ (if i < s.length ∧ (i < a ∨ t ≤ i) then one s i else []) → i ≤ s.length → I (n - 1) (.str s :: .dead :: .dead :: .cell [.int .i64 k, .int .i64 a, .int .i64 t, .int .i64 d, .str x] :: .dead :: .str m :: .str o2 :: .int .i64 ((i : Int) + 1) :: .dead :: .dead :: .dead :: .dead :: .dead :: .dead :: .dead :: .dead :: .dead :: .dead :: .dead :: .dead :: .dead :: .dead :: .dead :: .dead :: .dead :: .dead :: .dead :: .dead :: .dead :: .dead :: .dead :: .dead :: .dead :: .dead :: .dead :: .dead :: .dead :: .dead :: .dead :: .dead :: .dead :: .dead :: .dead :: .dead :: .dead :: .dead :: .dead :: .dead :: .dead :: .dead :: .dead :: .dead :: .dead :: .dead :: .dead :: .dead :: .dead :: .dead :: .dead :: .dead :: .dead :: .dead :: .dead :: .dead :: .dead :: .dead :: []) h' := by
      intro o o2 h1 h2 hle
      rw [hI]
      exact ⟨i + 1, by omega, rfl, by rw [h2, h1]; rfl⟩
    have hd0 : (if d < (i : Int) then m.length else 0) ≤ m.length := by split <;> omega
    have hb1 : i < s.length → boundR (.int .i64 ((i : Int) + 1)) s.length = .ok (i + 1) := fun h => bd_nat (i := i + 1) (by omega)
    have hb2 : boundR (.int .i64 (i : Int)) (i + 1) = .ok i := bd_nat (by omega)
    simp
    refine orD (fun hle => ?_) (fun hle => ?_)
    · simp
      refine orD (fun h1 => ?_) (fun h1 => ?_)
      · subst h1
        have hlen : (outA s m a t i i).length ≤ i := by have := out_len (s := s) (m := m) (a := a) (t := t) (d := i) i; rw [if_neg (by omega)] at this; omega
        simp
        refine ⟨by omega, ?_⟩
        refine orD (fun h2 => ?_) (fun h2 => ?_)
        · have hb1 := hb1 h2
          simp [h2]
          refine orD (fun h3 => ?_) (fun h3 => ?_)
          · simp [h3, h2, hw, bounds2, hb1, hb2]
            exact ⟨by omega, .mk (by omega) (hstep _ _ rfl (by rw [if_pos rfl, if_pos ⟨h2, .inl (by omega)⟩]; simp [one]) hle)⟩
          · simp [h3, h2]
            refine orD (fun h4 => ?_) (fun h4 => ?_)
            · simp [h4, h3, h2, hw, bounds2, hb1, hb2]
              exact ⟨by omega, .mk (by omega) (hstep _ _ rfl (by rw [if_pos rfl, if_pos ⟨h2, .inr (by omega)⟩]; simp [one]) hle)⟩
            · simp [h4, h3, h2, hw]
              exact .mk (by omega) (hstep _ _ rfl (by rw [if_pos rfl, if_neg (by omega)]; simp) hle)
        · simp [h2, hw]
          exact .mk (by omega) (hstep _ _ rfl (by rw [if_pos rfl, if_neg (by omega)]; simp) hle)
      · have hne : (if (i : Int) = d then m else []) = [] := if_neg h1
        simp [h1]
        refine orD (fun h2 => ?_) (fun h2 => ?_)
        · have hb1 := hb1 h2
          simp [h2]
          refine orD (fun h3 => ?_) (fun h3 => ?_)
          · simp [h3, h2, hw, bounds2, hb1, hb2]
            exact ⟨by omega, .mk (by omega) (hstep _ _ rfl (by rw [hne, if_pos ⟨h2, .inl (by omega)⟩]; simp [one]) hle)⟩
          · simp [h3, h2]
            refine orD (fun h4 => ?_) (fun h4 => ?_)
            · simp [h4, h3, h2, hw, bounds2, hb1, hb2]
              exact ⟨by omega, .mk (by omega) (hstep _ _ rfl (by rw [hne, if_pos ⟨h2, .inr (by omega)⟩]; simp [one]) hle)⟩
            · simp [h4, h3, h2, hw]
              exact .mk (by omega) (hstep _ _ rfl (by rw [hne, if_neg (by omega)]; simp) hle)
        · simp [h2, hw]
          exact .mk (by omega) (hstep _ _ rfl (by rw [hne, if_neg (by omega)]; simp) hle)
    · simp
      have : i = s.length + 1 := by omega
      rw [this, ho]; exact hq
  obtain ⟨kind, at_, to_, dest, text⟩ := e
  simp only [can] at hc
  simp only [Ed.cells]
  rcases hc with ⟨a, rfl, rfl, h1, rfl, rfl, h2⟩ | ⟨a, t, rfl, rfl, rfl, rfl, h1, h2, rfl⟩ | ⟨a, t, d, rfl, rfl, rfl, rfl, h1, h2, h3, h4, rfl⟩
  · have := body 1 a a a text text (by omega) (out_do (.inl ⟨rfl, rfl, h1, rfl, rfl, rfl⟩))
    simp [Try.f9] at this ⊢
    exact this
  · have := body 2 a t (-1) [] [] (by simp) (out_do (.inr (.inl ⟨rfl, rfl, rfl, h1, h2, rfl⟩)))
    simp [Try.f9] at this ⊢
    exact this
  · have := body 3 a t d ((s.take t).drop a) [] (by simp; omega) (out_do (.inr (.inr ⟨rfl, rfl, rfl, rfl, h1, h2, by omega, by omega, by omega, rfl⟩)))
    simp [Try.f9, bounds2, bd_nat h2, bd_nat (show a ≤ t by omega)] at this ⊢
    exact this
end
end Go.Proofs.Ytbcjancmcajpbaa
