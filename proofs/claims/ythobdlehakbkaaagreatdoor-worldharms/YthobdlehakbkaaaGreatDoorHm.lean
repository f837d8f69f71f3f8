/-
  A part of the proof of WorldHarms, over the seat YthobdlehakbkaaaGreatDoor: for every input the law returns true, and the input reads as it did.
-/
import Derived.Test.YthobdlehakbkaaaGreatDoorHi
import Derived.Test.YthobdlehakbkaaaGreatDoorHj
import Derived.Test.YthobdlehakbkaaaGreatDoorHk
import Derived.Test.YthobdlehakbkaaaGreatDoorHl
set_option linter.all false
set_option linter.all false
set_option maxRecDepth 1000000
set_option maxHeartbeats 4000000
namespace Go.Proofs.YthobdlehakbkaaaGreatDoor
open Go Go.RowKit Go.Proofs
theorem l_all : joinedFacts Tryz.prog 3 Tryz.f3 YthobdlehakbkaaaGreatDoor.Rows.worldHarmsSpec YthobdlehakbkaaaGreatDoor.Rows.worldHarmsRow = true := by
  unfold joinedFacts
  simp only [l_in, l_un, l_rec, l_named, Bool.and_true]
  kernel_rfl
end Go.Proofs.YthobdlehakbkaaaGreatDoor
