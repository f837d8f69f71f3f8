/-
  A part of the proof of PlanOps, over the seat YtlhlbamcgopiiaaGreatDoor: for every input the law returns true, and the input reads as it did.
-/
import Derived.Test.YtlhlbamcgopiiaaGreatDoorGn
import Derived.Test.YtlhlbamcgopiiaaGreatDoorCards
import Derived.Test.YtlhlbamcgopiiaaGreatDoorTie
import Derived.SevenTiedAt
set_option linter.all false
set_option linter.all false
set_option maxRecDepth 1000000
set_option maxHeartbeats 4000000
namespace Go.Proofs.YtlhlbamcgopiiaaGreatDoor
open Go Go.RowKit Go.Proofs Go.ChangeShapes Go.WideShapes Go.ChangeAt
theorem planOps_holds:YtlhlbamcgopiiaaGreatDoor.Rows.PlanOpsCardSaid:=
 Claim7.holds_tied_plain_at .later [] [.data] true (true,"95d4b7a464918b5109b3244ff1b0d7c4f8829dff8d8ef968063cfda980660a1e") false
  planOps_said (fun _ h=>by cases h) (by kernel_rfl) (fun _ h=>by cases h) YtlhlbamcgopiiaaGreatDoor.planOps_row_tie rfl ⟨rfl,rfl⟩ (by kernel_rfl) rfl
  (fun f fn hf hfn=>by
    obtain rfl:f=8:=Option.some.inj ((show Tryz.prog.funcNamed "copyist/copyistlaw22.PlanOps"=some 8 by kernel_rfl).symm.trans hf) |>.symm
    obtain rfl:fn=Tryz.f8:=(Option.some.inj (Tryz.func8.symm.trans hfn)).symm
    exact⟨by kernel_rfl,fun j t ht=>by
     rw [Tryz.params8]at ht
     rcases j with _ | j
     · obtain rfl:22=t:=by simpa using ht
       exact(show Tryz.prog.wantsStandIn 22=false by kernel_rfl)
     · simp at ht⟩)
  (by kernel_rfl)
end Go.Proofs.YtlhlbamcgopiiaaGreatDoor
