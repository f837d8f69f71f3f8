/-
  A part of the proof of WorldHarms, over the seat YthobdlehakbkaaaGreatDoor: for every input the law returns true, and the input reads as it did.
-/
import Derived.Test.YthobdlehakbkaaaGreatDoorHh
import Derived.Test.YthobdlehakbkaaaGreatDoorHm
import Derived.Test.YthobdlehakbkaaaGreatDoorHn
set_option linter.all false
set_option linter.all false
set_option maxRecDepth 1000000
set_option maxHeartbeats 4000000
namespace Go.Proofs.YthobdlehakbkaaaGreatDoor
open Go Go.RowKit Go.Proofs
open Go.ChangeShapes Go.WideShapes Go.ChangeAt
theorem worldHarms_said : YthobdlehakbkaaaGreatDoor.Rows.WorldHarmsSaid :=
  OpenClaim.holds_of_wide 3 Tryz.f3 rfl rfl rfl rfl rfl rfl rfl ⟨rfl, rfl, rfl, rfl, rfl⟩ rfl rfl rfl rfl rfl l_fn Tryz.func3 l_all
    l_inst l_wrap
    (fun os started H enc _ => worldHarms_lifted os started H enc)
end Go.Proofs.YthobdlehakbkaaaGreatDoor
