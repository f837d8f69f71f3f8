/-
  A part of the proof of WorldHarms, over the seat YthobdlehakbkaaaGreatDoor: for every input the law returns true, and the input reads as it did.
-/
import Derived.Test.YthobdlehakbkaaaGreatDoorGp
set_option linter.all false
set_option linter.all false
set_option maxRecDepth 1000000
set_option maxHeartbeats 0
namespace Go.Proofs.YthobdlehakbkaaaGreatDoor
open Go Go.RowKit Go.Proofs
variable {ro : Nat → Option (List AVal)}
theorem kStep1_ok : okK (400 + 400) ro kStep1 := okK_memo (l := [kOp1, kSend1]) (fun e he => by
  simp only [List.mem_cons, List.not_mem_nil, or_false] at he
  rcases he with rfl | rfl
  · exact kOp1_ok.le (by decide)
  · exact kSend1_ok.le (by decide)) (by kernel_rfl)
end Go.Proofs.YthobdlehakbkaaaGreatDoor
