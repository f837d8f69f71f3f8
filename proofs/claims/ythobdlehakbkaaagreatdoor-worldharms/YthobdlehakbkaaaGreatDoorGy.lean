/-
  A part of the proof of WorldHarms, over the seat YthobdlehakbkaaaGreatDoor: for every input the law returns true, and the input reads as it did.
-/
import Derived.Test.YthobdlehakbkaaaGreatDoorGx
set_option linter.all false
set_option linter.all false
set_option maxRecDepth 1000000
set_option maxHeartbeats 0
namespace Go.Proofs.YthobdlehakbkaaaGreatDoor
open Go Go.RowKit Go.Proofs
variable {ro : Nat → Option (List AVal)}
theorem kR2_ok : okK (400 + 1200) ro kR2 := okK_memo (l := [kDo2]) (fun e he => by
  simp only [List.mem_cons, List.not_mem_nil, or_false] at he
  rcases he with rfl
  · exact kDo2_ok.le (by decide)) (by kernel_rfl)
end Go.Proofs.YthobdlehakbkaaaGreatDoor
