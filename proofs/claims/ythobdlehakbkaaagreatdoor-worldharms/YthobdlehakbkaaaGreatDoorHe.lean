/-
  A part of the proof of WorldHarms, over the seat YthobdlehakbkaaaGreatDoor: for every input the law returns true, and the input reads as it did.
-/
import Derived.Test.YthobdlehakbkaaaGreatDoorGu
import Derived.Test.YthobdlehakbkaaaGreatDoorGy
import Derived.Test.YthobdlehakbkaaaGreatDoorHc
import Derived.Test.YthobdlehakbkaaaGreatDoorHd
set_option linter.all false
set_option linter.all false
set_option maxRecDepth 1000000
set_option maxHeartbeats 0
namespace Go.Proofs.YthobdlehakbkaaaGreatDoor
open Go Go.RowKit Go.Proofs
variable {ro : Nat → Option (List AVal)}
theorem kSettle_ok : okK (400 + 2000) ro kSettle := okK_memo (l := [kR1, kR2, kR3, kR4]) (fun e he => by
  simp only [List.mem_cons, List.not_mem_nil, or_false] at he
  rcases he with rfl | rfl | rfl | rfl
  · exact kR1_ok.le (by decide)
  · exact kR2_ok.le (by decide)
  · exact kR3_ok.le (by decide)
  · exact kR4_ok.le (by decide)) (by kernel_rfl)
end Go.Proofs.YthobdlehakbkaaaGreatDoor
