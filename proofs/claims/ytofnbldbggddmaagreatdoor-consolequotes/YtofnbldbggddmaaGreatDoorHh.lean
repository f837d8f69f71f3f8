/-
  A part of the proof of ConsoleWords, over the seat YtofnbldbggddmaaGreatDoor: for every input the law returns true, and the input reads as it did.
-/
import Derived.Test.YtofnbldbggddmaaGreatDoorGq
set_option linter.all false
set_option linter.all false
set_option maxRecDepth 1000000
set_option maxHeartbeats 4000000
namespace Go.Proofs.YtofnbldbggddmaaGreatDoor
open Go Go.RowKit Go.Proofs
theorem goes_none : Tryz.prog.funcs.any Func.goes = false := by kernel_rfl
theorem goes_no (f : Nat) : Tryz.prog.goes f = false := by
  unfold Program.goes
  rw [goes_none, Bool.and_false, Bool.or_false, List.any_eq_false]
  intro g _ hg
  cases hf : Tryz.prog.funcs[g]? with
  | none => rw [hf] at hg; cases hg
  | some fn =>
    rw [hf, Option.any_some] at hg
    have h := goes_none
    rw [Array.any_eq_false] at h
    obtain ⟨hl, e⟩ := Array.getElem?_eq_some_iff.1 hf
    have := h g hl
    rw [e] at this
    exact this hg
end Go.Proofs.YtofnbldbggddmaaGreatDoor
