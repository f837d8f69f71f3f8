/-
  A part of the proof of PlanChecks, over the seat Ytbcjancmcajpbaa: for every input the law returns true, and the input reads as it did.
-/
import Derived.Test.YtbcjancmcajpbaaR1C
set_option linter.all false
set_option maxRecDepth 100000
set_option maxHeartbeats 4000000
namespace Go.Proofs.Ytbcjancmcajpbaa
open Go Go.RowKit Go.Proofs

section
variable {ro : Nat → Option (List AVal)}

def bareS (e : Ed) : Bool := (decide (e.kind = 1) || decide (e.text = [])) && (!decide (e.kind = 1) || decide (e.to_ = 0)) && (decide (e.kind = 3) || decide (e.dest = 0))
theorem bare15 (e : Ed) (h : AHeap) {Q : AVal → AHeap → Prop} (hq : Q (.bool (bareS e)) h) : Ev (cfgR ro) 15 [.agg e.cells] h Q := by
  obtain ⟨kind, at_, to_, dest, text⟩ := e
  simp only [Ed.cells] at *
  refine Ev.wp rfl rfl Try.func15 rfl ?_
  simp [Try.f15]
  repeat' (refine orD (fun _ => ?_) (fun _ => ?_) <;> simp [*])
  all_goals (simp [bareS, *] at hq; exact hq)

def textS (e : Ed) : Int := if e.text.length < 1 ∨ plain e.text = false then 11 else if 64 < e.text.length then 15 else 0
theorem text16 (e : Ed) (ht : e.text.length ≤ 300) (h : AHeap) {Q : AVal → AHeap → Prop} (hq : ∀ h', Old h h' → Q (.int .i64 (textS e)) h') : Ev (cfgR ro) 16 [.agg e.cells] h Q := by
  obtain ⟨kind, at_, to_, dest, text⟩ := e
  simp only [Ed.cells] at *
  refine Ev.wp rfl rfl Try.func16 rfl ?_
  simp [Try.f16]
  repeat' (first | (refine orD (fun _ => ?_) (fun _ => ?_) <;> simp [*]) | (refine plain17 (by omega) _ (fun h' hh => ?_) <;> simp [*] <;> refine orB (fun _ => ?_) (fun _ => ?_) <;> simp [*]))
  · have := hq _ (Old.refl h); simp_all [textS]
  · have := hq _ ‹_›; simp only [textS] at this; rw [if_neg (by simp_all), if_pos (by omega)] at this; exact this
  · have := hq _ ‹_›; simp only [textS] at this; rw [if_neg (by simp_all), if_neg (by omega)] at this; exact this
  · have := hq _ ‹_›; simp only [textS] at this; rw [if_pos (by simp_all)] at this; exact this

theorem chk11 (e : Ed) {len : Int} (hl : 0 ≤ len ∧ len ≤ 2 ^ 41) (ht : e.text.length ≤ 300) (h : AHeap) {Q : AVal → AHeap → Prop}
    (hq : ∀ a b c h', Old h h' → chk e len = (a, b, c) → Q (.tuple [.int .i64 a, .int .i64 b, .int .i64 c]) h') : Ev (cfgR ro) 11 [.agg e.cells, .int .i64 len] h Q := by
  obtain ⟨kind, at_, to_, dest, text⟩ := e
  simp only [Ed.cells] at *
  refine Ev.wp rfl rfl Try.func11 rfl ?_
  simp [Try.f11]
  repeat' (first | (simp (disch := omega) only [w64]) | (refine orD (fun _ => ?_) (fun _ => ?_) <;> simp [*]) | (refine bare15 ⟨_, _, _, _, _⟩ _ ?_ <;> simp [*] <;> refine orB (fun _ => ?_) (fun _ => ?_) <;> simp [*]) | (refine text16 ⟨_, _, _, _, _⟩ ‹_› _ (fun h' hh => ?_) <;> simp [*]))
  all_goals try simp (disch := omega) only [w64]
  all_goals (refine hq _ _ _ _ (by first | assumption | exact Old.refl _) ?_)
  all_goals try simp only [bareS, textS, Bool.and_eq_true, Bool.or_eq_true, decide_eq_true_eq, Bool.not_eq_true', decide_eq_false_iff_not, Bool.and_eq_false_iff, Bool.or_eq_false_iff, Bool.not_eq_false'] at *
  all_goals unfold chk
  all_goals simp only []
  all_goals (repeat' split)
  all_goals first | rfl | (exfalso; omega) | (simp_all; done) | (simp_all; omega) | skip
  all_goals trace_state

end
end Go.Proofs.Ytbcjancmcajpbaa
