/-
  A part of the proof of ConsoleParses, over the seat YtofnbldbggddmaaGreatDoor: for every input the law returns true, and the input reads as it did.
-/
import Derived.Test.YtofnbldbggddmaaGreatDoorGo
import Derived.Test.YtofnbldbggddmaaGreatDoorGp
set_option linter.all false
set_option linter.all false
set_option maxRecDepth 1000000
set_option maxHeartbeats 0
namespace Go.Proofs.YtofnbldbggddmaaGreatDoor
open Go Go.RowKit Go.Proofs
variable {ro : Nat → Option (List AVal)}
theorem kLine3_r : callM (cfgR (roP ro)) (tabOf [kDec, kOp2, kEnc2]) 200 (kLine3).f (kLine3).args (kLine3).h = .ok ((kLine3).v, (kLine3).h') := by kernel_rfl
theorem kLine3_m : callF (cfgR (roP ro)) (200 + 1000) (kLine3).f (kLine3).args (kLine3).h = .ok ((kLine3).v, (kLine3).h') := memo_ok (fun e he => by
  simp only [List.mem_cons, List.not_mem_nil, or_false] at he
  rcases he with rfl | rfl | rfl
  · exact kDec_ok
  · exact kOp2_ok
  · exact kEnc2_ok) kLine3_r
end Go.Proofs.YtofnbldbggddmaaGreatDoor
