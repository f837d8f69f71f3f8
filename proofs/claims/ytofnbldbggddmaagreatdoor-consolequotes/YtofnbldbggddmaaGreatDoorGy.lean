/-
  A part of the proof of ConsoleWords, over the seat YtofnbldbggddmaaGreatDoor: for every input the law returns true, and the input reads as it did.
-/
import Derived.Test.YtofnbldbggddmaaGreatDoorGu
import Derived.Test.YtofnbldbggddmaaGreatDoorGv
import Derived.Test.YtofnbldbggddmaaGreatDoorGw
import Derived.Test.YtofnbldbggddmaaGreatDoorGx
set_option linter.all false
set_option linter.all false
set_option maxRecDepth 1000000
set_option maxHeartbeats 4000000
namespace Go.Proofs.YtofnbldbggddmaaGreatDoor
open Go Go.RowKit Go.Proofs
theorem k_all : joinedFacts Tryz.prog 3 Tryz.f3 YtofnbldbggddmaaGreatDoor.Rows.consoleQuotesSpec YtofnbldbggddmaaGreatDoor.Rows.consoleQuotesRow = true := by
  unfold joinedFacts
  simp only [k_in, k_un, k_rec, k_named, Bool.and_true]
  kernel_rfl
end Go.Proofs.YtofnbldbggddmaaGreatDoor
