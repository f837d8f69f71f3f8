/-
  A part of the proof of WorldHarms, over the seat YthobdlehakbkaaaGreatDoor: for every input the law returns true, and the input reads as it did.
-/
import Derived.Test.YthobdlehakbkaaaGreatDoorGz
set_option linter.all false
set_option linter.all false
set_option maxRecDepth 1000000
set_option maxHeartbeats 0
namespace Go.Proofs.YthobdlehakbkaaaGreatDoor
open Go Go.RowKit Go.Proofs
variable {ro : Nat → Option (List AVal)}
theorem kPut3_ok : okK (400 + 400) ro kPut3 := okK_memo (l := [kWhere3, kSPut3]) (fun e he => by
  simp only [List.mem_cons, List.not_mem_nil, or_false] at he
  rcases he with rfl | rfl
  · exact kWhere3_ok.le (by decide)
  · exact kSPut3_ok.le (by decide)) (by kernel_rfl)
theorem kApply3_ok : okK (400 + 800) ro kApply3 := okK_memo (l := [kPut3]) (fun e he => by
  simp only [List.mem_cons, List.not_mem_nil, or_false] at he
  rcases he with rfl
  · exact kPut3_ok.le (by decide)) (by kernel_rfl)
end Go.Proofs.YthobdlehakbkaaaGreatDoor
