/-
  A part of the proof of ConsoleParses, over the seat YtofnbldbggddmaaGreatDoor: for every input the law returns true, and the input reads as it did.
-/
import Derived.Test.YtofnbldbggddmaaGreatDoorGs
set_option linter.all false
set_option linter.all false
set_option maxRecDepth 1000000
set_option maxHeartbeats 4000000
namespace Go.Proofs.YtofnbldbggddmaaGreatDoor
open Go Go.RowKit Go.Proofs
theorem l_fn : Tryz.prog.funcNamed "copyist/copyistlaw30.ConsoleParses" = some 5 := by kernel_rfl
end Go.Proofs.YtofnbldbggddmaaGreatDoor
set_option linter.all false
set_option maxRecDepth 1000000
set_option maxHeartbeats 4000000
namespace Go.Proofs.YtofnbldbggddmaaGreatDoor
open Go Go.RowKit Go.Proofs
theorem l_inst : Tryz.f5.isInstance Tryz.prog YtofnbldbggddmaaGreatDoor.Rows.consoleParsesRow.origin YtofnbldbggddmaaGreatDoor.Rows.consoleParsesRow.targs := of_decide_eq_true (by kernel_rfl)
end Go.Proofs.YtofnbldbggddmaaGreatDoor
set_option linter.all false
set_option maxRecDepth 1000000
set_option maxHeartbeats 4000000
namespace Go.Proofs.YtofnbldbggddmaaGreatDoor
open Go Go.RowKit Go.Proofs
theorem l_wrap : Tryz.f5.isWrapper Tryz.prog YtofnbldbggddmaaGreatDoor.Rows.consoleParsesRow.wrapper YtofnbldbggddmaaGreatDoor.Rows.consoleParsesRow.mainSum := by unfold Func.isWrapper; first | (rw [if_pos (by decide +kernel)]; kernel_rfl) | (rw [if_neg (by decide +kernel)]; exact ⟨rfl, rfl⟩)
end Go.Proofs.YtofnbldbggddmaaGreatDoor
