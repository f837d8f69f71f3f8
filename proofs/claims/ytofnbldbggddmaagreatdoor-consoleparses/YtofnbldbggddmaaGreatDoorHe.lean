/-
  A part of the proof of ConsoleParses, over the seat YtofnbldbggddmaaGreatDoor: for every input the law returns true, and the input reads as it did.
-/
import Derived.Test.YtofnbldbggddmaaGreatDoorGs
import Derived.SevenTiedAt
import Derived.Test.YtofnbldbggddmaaGreatDoorHc
set_option linter.all false
set_option linter.all false
set_option maxRecDepth 1000000
set_option maxHeartbeats 4000000
namespace Go.Proofs.YtofnbldbggddmaaGreatDoor
open Go Go.RowKit Go.Proofs
theorem m_main : Tryz.prog.mainIs = some (true, ("0a07746eeb00e24099ec153668f80564de8b967a17d05a333edac0517f1c27e6" : String).toList) := by kernel_rfl
end Go.Proofs.YtofnbldbggddmaaGreatDoor
set_option linter.all false
set_option maxRecDepth 1000000
set_option maxHeartbeats 4000000
namespace Go.Proofs.YtofnbldbggddmaaGreatDoor
open Go Go.RowKit Go.Proofs
theorem m_looks : true = Tryz.prog.looks [] := by kernel_rfl
end Go.Proofs.YtofnbldbggddmaaGreatDoor
set_option linter.all false
set_option maxRecDepth 1000000
set_option maxHeartbeats 4000000
namespace Go.Proofs.YtofnbldbggddmaaGreatDoor
open Go Go.RowKit Go.Proofs
theorem m_wants (t : Nat) (h : t = 9) : Tryz.prog.wantsStandIn t = false := by
  rcases h with rfl <;> kernel_rfl
end Go.Proofs.YtofnbldbggddmaaGreatDoor
set_option linter.all false
set_option maxRecDepth 1000000
set_option maxHeartbeats 4000000
namespace Go.Proofs.YtofnbldbggddmaaGreatDoor
open Go Go.RowKit Go.Proofs
theorem l_wf : YtofnbldbggddmaaGreatDoor.Rows.consoleParsesRow.wfByText (OpenSpec.ofChange YtofnbldbggddmaaGreatDoor.Rows.consoleParsesSpec) = true := by kernel_rfl
end Go.Proofs.YtofnbldbggddmaaGreatDoor
set_option linter.all false
set_option maxRecDepth 1000000
set_option maxHeartbeats 4000000
namespace Go.Proofs.YtofnbldbggddmaaGreatDoor
open Go Go.RowKit Go.Proofs
theorem goes_none : Tryz.prog.funcs.any Func.goes = false := by kernel_rfl
theorem goes_no (f : Nat) : Tryz.prog.goes f = false := by
  unfold Program.goes
  rw [goes_none, Bool.and_false, Bool.or_false, List.any_eq_false]
  intro g _ hg
  cases hf : Tryz.prog.funcs[g]? with
  | none => rw [hf] at hg; cases hg
  | some fn =>
    rw [hf, Option.any_some] at hg
    have h := goes_none
    rw [Array.any_eq_false] at h
    obtain ⟨hl, e⟩ := Array.getElem?_eq_some_iff.1 hf
    have := h g hl
    rw [e] at this
    exact this hg
end Go.Proofs.YtofnbldbggddmaaGreatDoor
set_option linter.all false
set_option maxRecDepth 1000000
set_option maxHeartbeats 4000000
namespace Go.Proofs.YtofnbldbggddmaaGreatDoor
open Go Go.RowKit Go.Proofs
theorem l_goes : false = YtofnbldbggddmaaGreatDoor.Rows.consoleParsesRow.goesBy Tryz.prog := by
  show false = ((Tryz.prog.funcNamed "copyist/copyistlaw30.ConsoleParses").any Tryz.prog.goes || false)
  rw [l_fn, Option.any_some, goes_no, Bool.false_or]
end Go.Proofs.YtofnbldbggddmaaGreatDoor
