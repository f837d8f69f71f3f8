/-
  A part of the proof of PlanJoins, over the seat YtlhlbamcgopiiaaGreatDoor: for every input the law returns true, and the input reads as it did.
-/
import Derived.Test.YtlhlbamcgopiiaaGreatDoorGn
import Derived.Test.YtlhlbamcgopiiaaGreatDoorCards
import Derived.Test.YtlhlbamcgopiiaaGreatDoorTie
import Derived.SevenTiedAt
set_option linter.all false
set_option linter.all false
set_option maxRecDepth 1000000
set_option maxHeartbeats 4000000
namespace Go.Proofs.YtlhlbamcgopiiaaGreatDoor
open Go Go.RowKit Go.Proofs Go.ChangeShapes Go.WideShapes Go.ChangeAt
theorem planJoins_holds:YtlhlbamcgopiiaaGreatDoor.Rows.PlanJoinsCardSaid:=
 Claim7.holds_tied_plain_at .later [] [.data] true (true,"95d4b7a464918b5109b3244ff1b0d7c4f8829dff8d8ef968063cfda980660a1e") false
  planJoins_said (fun _ h=>by cases h) (by kernel_rfl) (fun _ h=>by cases h) YtlhlbamcgopiiaaGreatDoor.planJoins_row_tie rfl ⟨rfl,rfl⟩ (by kernel_rfl) rfl
  (fun f fn hf hfn=>by
    obtain rfl:f=3:=Option.some.inj ((show Tryz.prog.funcNamed "copyist/copyistlaw22.PlanJoins"=some 3 by kernel_rfl).symm.trans hf) |>.symm
    obtain rfl:fn=Tryz.f3:=(Option.some.inj (Tryz.func3.symm.trans hfn)).symm
    exact⟨by kernel_rfl,fun j t ht=>by
     rw [Tryz.params3]at ht
     rcases j with _ | _ | j
     · obtain rfl:22=t:=by simpa using ht
       exact(show Tryz.prog.wantsStandIn 22=false by kernel_rfl)
     · obtain rfl:22=t:=by simpa using ht
       exact(show Tryz.prog.wantsStandIn 22=false by kernel_rfl)
     · simp at ht⟩)
  (by kernel_rfl)
end Go.Proofs.YtlhlbamcgopiiaaGreatDoor
