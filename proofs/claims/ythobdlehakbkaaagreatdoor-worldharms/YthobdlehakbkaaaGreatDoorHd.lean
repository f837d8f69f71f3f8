/-
  A part of the proof of WorldHarms, over the seat YthobdlehakbkaaaGreatDoor: for every input the law returns true, and the input reads as it did.
-/
import Derived.Test.YthobdlehakbkaaaGreatDoorGo
set_option linter.all false
set_option linter.all false
set_option maxRecDepth 1000000
set_option maxHeartbeats 0
namespace Go.Proofs.YthobdlehakbkaaaGreatDoor
open Go Go.RowKit Go.Proofs
variable {ro : Nat → Option (List AVal)}
theorem kR4_ok : okK 400 ro kR4 := okK_of (by kernel_rfl)
end Go.Proofs.YthobdlehakbkaaaGreatDoor
