/-
  A part of the proof of ConsoleParses, over the seat YtofnbldbggddmaaGreatDoor: for every input the law returns true, and the input reads as it did.
-/
import Derived.Test.YtofnbldbggddmaaGreatDoorGw
import Derived.Test.YtofnbldbggddmaaGreatDoorHb
import Derived.Test.YtofnbldbggddmaaGreatDoorHc
set_option linter.all false
set_option linter.all false
set_option maxRecDepth 1000000
set_option maxHeartbeats 4000000
namespace Go.Proofs.YtofnbldbggddmaaGreatDoor
open Go Go.RowKit Go.Proofs
open Go.ChangeShapes Go.WideShapes Go.ChangeAt
theorem consoleParses_said : YtofnbldbggddmaaGreatDoor.Rows.ConsoleParsesSaid :=
  OpenClaim.holds_of_wide 5 Tryz.f5 rfl rfl rfl rfl rfl rfl rfl ⟨rfl, rfl, rfl, rfl, rfl⟩ rfl rfl rfl rfl rfl l_fn Tryz.func5 l_all
    l_inst l_wrap
    (fun os started H enc _ => consoleParses_lifted os started H enc)
end Go.Proofs.YtofnbldbggddmaaGreatDoor
