/-
  A part of the proof of ConsoleWords, over the seat YtofnbldbggddmaaGreatDoor: for every input the law returns true, and the input reads as it did.
-/
import Derived.Test.YtofnbldbggddmaaGreatDoorGq
set_option linter.all false
set_option linter.all false
set_option maxRecDepth 1000000
set_option maxHeartbeats 4000000
namespace Go.Proofs.YtofnbldbggddmaaGreatDoor
open Go Go.RowKit Go.Proofs
theorem k_wrap : Tryz.f3.isWrapper Tryz.prog YtofnbldbggddmaaGreatDoor.Rows.consoleQuotesRow.wrapper YtofnbldbggddmaaGreatDoor.Rows.consoleQuotesRow.mainSum := by unfold Func.isWrapper; first | (rw [if_pos (by decide +kernel)]; kernel_rfl) | (rw [if_neg (by decide +kernel)]; exact ⟨rfl, rfl⟩)
end Go.Proofs.YtofnbldbggddmaaGreatDoor
