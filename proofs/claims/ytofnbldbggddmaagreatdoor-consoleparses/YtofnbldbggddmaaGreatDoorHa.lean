/-
  A part of the proof of ConsoleParses, over the seat YtofnbldbggddmaaGreatDoor: for every input the law returns true, and the input reads as it did.
-/
import Derived.Test.YtofnbldbggddmaaGreatDoorGs
set_option linter.all false
set_option linter.all false
set_option maxRecDepth 1000000
set_option maxHeartbeats 4000000
namespace Go.Proofs.YtofnbldbggddmaaGreatDoor
open Go Go.RowKit Go.Proofs
theorem l_named : (YtofnbldbggddmaaGreatDoor.Rows.consoleParsesRow.named == Tryz.prog.varsNamed 5) = true := by kernel_rfl
end Go.Proofs.YtofnbldbggddmaaGreatDoor
