/-
  A part of the proof of ConsoleParses, over the seat YtofnbldbggddmaaGreatDoor: for every input the law returns true, and the input reads as it did.
-/
import Derived.Test.YtofnbldbggddmaaGreatDoorGl
import Derived.Test.YtofnbldbggddmaaGreatDoorGm
set_option linter.all false
set_option linter.all false
set_option maxRecDepth 1000000
set_option maxHeartbeats 0
namespace Go.Proofs.YtofnbldbggddmaaGreatDoor
open Go Go.RowKit Go.Proofs
variable {ro : Nat → Option (List AVal)}
theorem kLine2_r : callM (cfgR (roP ro)) (tabOf [kOp1, kSend1]) 200 (kLine2).f (kLine2).args (kLine2).h = .ok ((kLine2).v, (kLine2).h') := by kernel_rfl
theorem kLine2_m : callF (cfgR (roP ro)) (200 + 1000) (kLine2).f (kLine2).args (kLine2).h = .ok ((kLine2).v, (kLine2).h') := memo_ok (fun e he => by
  simp only [List.mem_cons, List.not_mem_nil, or_false] at he
  rcases he with rfl | rfl
  · exact kOp1_ok
  · exact kSend1_ok) kLine2_r
end Go.Proofs.YtofnbldbggddmaaGreatDoor
