/-
  A part of the proof of ConsoleWords, over the seat YtofnbldbggddmaaGreatDoor: for every input the law returns true, and the input reads as it did.
-/
import Derived.Test.YtofnbldbggddmaaGreatDoorGq
import Derived.Test.YtofnbldbggddmaaGreatDoorGt
import Derived.Test.YtofnbldbggddmaaGreatDoorGy
import Derived.Test.YtofnbldbggddmaaGreatDoorGz
import Derived.Test.YtofnbldbggddmaaGreatDoorHa
import Derived.Test.YtofnbldbggddmaaGreatDoorHb
set_option linter.all false
set_option linter.all false
set_option maxRecDepth 1000000
set_option maxHeartbeats 4000000
namespace Go.Proofs.YtofnbldbggddmaaGreatDoor
open Go Go.RowKit Go.Proofs
open Go.ChangeShapes Go.WideShapes Go.ChangeAt
theorem consoleQuotes_said : YtofnbldbggddmaaGreatDoor.Rows.ConsoleQuotesSaid :=
  OpenClaim.holds_of_wide 3 Tryz.f3 rfl rfl rfl rfl rfl rfl rfl ⟨rfl, rfl, rfl, rfl, rfl⟩ rfl rfl rfl rfl rfl k_fn Tryz.func3 k_all
    k_inst k_wrap
    (fun os started H enc _ => consoleQuotes_lifted os started H enc)
end Go.Proofs.YtofnbldbggddmaaGreatDoor
