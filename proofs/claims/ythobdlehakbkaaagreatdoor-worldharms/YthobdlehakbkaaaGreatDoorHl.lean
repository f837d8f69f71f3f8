/-
  A part of the proof of WorldHarms, over the seat YthobdlehakbkaaaGreatDoor: for every input the law returns true, and the input reads as it did.
-/
import Derived.Test.YthobdlehakbkaaaGreatDoorHh
set_option linter.all false
set_option linter.all false
set_option maxRecDepth 1000000
set_option maxHeartbeats 4000000
namespace Go.Proofs.YthobdlehakbkaaaGreatDoor
open Go Go.RowKit Go.Proofs
theorem l_named : (YthobdlehakbkaaaGreatDoor.Rows.worldHarmsRow.named == Tryz.prog.varsNamed 3) = true := by kernel_rfl
end Go.Proofs.YthobdlehakbkaaaGreatDoor
