/-
  A part of the proof of ConsoleParses, over the seat YtofnbldbggddmaaGreatDoor: for every input the law returns true, and the input reads as it did.
-/
import Derived.Test.YtofnbldbggddmaaGreatDoorGx
import Derived.Test.YtofnbldbggddmaaGreatDoorGy
import Derived.Test.YtofnbldbggddmaaGreatDoorGz
import Derived.Test.YtofnbldbggddmaaGreatDoorHa
set_option linter.all false
set_option linter.all false
set_option maxRecDepth 1000000
set_option maxHeartbeats 4000000
namespace Go.Proofs.YtofnbldbggddmaaGreatDoor
open Go Go.RowKit Go.Proofs
theorem l_all : joinedFacts Tryz.prog 5 Tryz.f5 YtofnbldbggddmaaGreatDoor.Rows.consoleParsesSpec YtofnbldbggddmaaGreatDoor.Rows.consoleParsesRow = true := by
  unfold joinedFacts
  simp only [l_in, l_un, l_rec, l_named, Bool.and_true]
  kernel_rfl
end Go.Proofs.YtofnbldbggddmaaGreatDoor
