/-
  A part of the proof of ConsoleWords, over the seat YtofnbldbggddmaaGreatDoor: for every input the law returns true, and the input reads as it did.
-/
import Derived.Test.YtofnbldbggddmaaGreatDoorGq
set_option linter.all false
set_option linter.all false
set_option maxRecDepth 1000000
set_option maxHeartbeats 4000000
namespace Go.Proofs.YtofnbldbggddmaaGreatDoor
open Go Go.RowKit Go.Proofs
theorem k_wf : YtofnbldbggddmaaGreatDoor.Rows.consoleQuotesRow.wfByText (OpenSpec.ofChange YtofnbldbggddmaaGreatDoor.Rows.consoleQuotesSpec) = true := by kernel_rfl
end Go.Proofs.YtofnbldbggddmaaGreatDoor
