/-
  A part of the proof of ConsoleWords, over the seat YtofnbldbggddmaaGreatDoor: for every input the law returns true, and the input reads as it did.
-/
import Derived.Test.YtofnbldbggddmaaGreatDoorGq
set_option linter.all false
set_option linter.all false
set_option maxRecDepth 1000000
set_option maxHeartbeats 4000000
namespace Go.Proofs.YtofnbldbggddmaaGreatDoor
open Go Go.RowKit Go.Proofs
theorem m_main : Tryz.prog.mainIs = some (true, ("0a07746eeb00e24099ec153668f80564de8b967a17d05a333edac0517f1c27e6" : String).toList) := by kernel_rfl
end Go.Proofs.YtofnbldbggddmaaGreatDoor
