/-
  A part of the proof of ConsoleParses, over the seat YtofnbldbggddmaaGreatDoor: for every input the law returns true, and the input reads as it did.
-/
import Derived.Test.YtofnbldbggddmaaGreatDoorGj
set_option linter.all false
set_option linter.all false
set_option maxRecDepth 1000000
set_option maxHeartbeats 0
namespace Go.Proofs.YtofnbldbggddmaaGreatDoor
open Go Go.RowKit Go.Proofs
variable {ro : Nat → Option (List AVal)}
theorem kOp2_ok : okK ro kOp2 := okK_of (by kernel_rfl)
end Go.Proofs.YtofnbldbggddmaaGreatDoor
