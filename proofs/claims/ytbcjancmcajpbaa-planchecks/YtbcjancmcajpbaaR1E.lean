/-
  A part of the proof of PlanChecks, over the seat Ytbcjancmcajpbaa: for every input the law returns true, and the input reads as it did.
-/
import Derived.Test.YtbcjancmcajpbaaR1D
set_option linter.all false
set_option maxRecDepth 100000
set_option maxHeartbeats 4000000
namespace Go.Proofs.Ytbcjancmcajpbaa
open Go Go.RowKit Go.Proofs

/-- an edit that can be done -/
def can (e : Ed) (n : Nat) : Prop :=
  (∃ a : Nat, e.kind = 1 ∧ e.at_ = a ∧ a ≤ n ∧ e.to_ = 0 ∧ e.dest = 0 ∧ e.text.length ≤ 64) ∨
  (∃ a t : Nat, e.kind = 2 ∧ e.at_ = a ∧ e.to_ = t ∧ e.dest = 0 ∧ a < t ∧ t ≤ n ∧ e.text = []) ∨
  (∃ a t d : Nat, e.kind = 3 ∧ e.at_ = a ∧ e.to_ = t ∧ e.dest = d ∧ a < t ∧ t ≤ n ∧ d ≤ n ∧ (d < a ∨ t < d) ∧ e.text = [])

theorem can_of {e : Ed} {n : Nat} {a b : Int} (h : chk e n = (a, b, 0)) : can e n := by
  unfold chk at h
  by_cases h1 : e.kind = 1
  · rw [if_pos h1] at h
    left
    repeat' (split at h)
    all_goals (first | (simp at h; done) | skip)
    refine ⟨e.at_.toNat, h1, by omega, by omega, by omega, by omega, by omega⟩
  · rw [if_neg h1] at h
    right
    by_cases h2 : e.kind = 2
    · left
      repeat' (split at h)
      all_goals (first | (simp at h; done) | skip)
      all_goals (first | (exfalso; omega) | skip)
      exact ⟨e.at_.toNat, e.to_.toNat, h2, by omega, by omega, by simp_all, by omega, by omega, by simp_all⟩
    · right
      repeat' (split at h)
      all_goals (first | (simp at h; done) | skip)
      exact ⟨e.at_.toNat, e.to_.toNat, e.dest.toNat, by omega, by omega, by omega, by omega, by omega, by omega, by omega, by omega, by simp_all⟩

/-- a text behind an edit -/
def doS (s : List UInt8) (e : Ed) : List UInt8 :=
  let a := e.at_.toNat
  let t := e.to_.toNat
  let d := e.dest.toNat
  if e.kind = 1 then s.take a ++ e.text ++ s.drop a else
  if e.kind = 2 then s.take a ++ s.drop t else
  if d < a then s.take d ++ (s.take t).drop a ++ (s.take a).drop d ++ s.drop t else
  s.take a ++ (s.take d).drop t ++ (s.take t).drop a ++ s.drop d

section
variable {ro : Nat → Option (List AVal)}
theorem do10 (e : Ed) {s : List UInt8} (hs : s.length ≤ 2 ^ 40) (hc : can e s.length) (h : AHeap) {Q : AVal → AHeap → Prop}
    (hq : Q (.str (doS s e)) h) : Ev (cfgR ro) 10 [.str s, .agg e.cells] h Q := by
  obtain ⟨kind, at_, to_, dest, text⟩ := e
  simp only [Ed.cells, can] at *
  refine Ev.wp rfl rfl Try.func10 rfl ?_
  rcases hc with ⟨a, rfl, rfl, h1, rfl, rfl, h2⟩ | ⟨a, t, rfl, rfl, rfl, rfl, h1, h2, rfl⟩ | ⟨a, t, d, rfl, rfl, rfl, rfl, h1, h2, h3, h4, rfl⟩
  · simp [Try.f10, bounds2, bd_nat h1]
    refine ⟨by omega, by omega, ?_⟩
    simpa [doS] using hq
  · simp [Try.f10, bounds2, bd_nat (show a ≤ s.length by omega), bd_nat h2]
    refine ⟨by omega, ?_⟩
    simpa [doS] using hq
  · simp [Try.f10, bounds2]
    refine orD (fun h5 => ?_) (fun h5 => ?_)
    · simp [bounds2, h5, bd_nat h2, bd_nat h3, bd_nat (show a ≤ t by omega), bd_nat (show a ≤ s.length by omega), bd_nat (show d ≤ a by omega)]
      refine ⟨by omega, by omega, by omega, ?_⟩
      simpa [doS, h5] using hq
    · simp [bounds2, h5, bd_nat h2, bd_nat h3, bd_nat (show a ≤ t by omega), bd_nat (show a ≤ s.length by omega), bd_nat (show t ≤ d by omega)]
      refine ⟨by omega, by omega, by omega, ?_⟩
      simpa [doS, h5] using hq
end
end Go.Proofs.Ytbcjancmcajpbaa
