/-
  A part of the proof of WorldHarms, over the seat YthobdlehakbkaaaGreatDoor: for every input the law returns true, and the input reads as it did.
-/
import Derived.Test.YthobdlehakbkaaaGreatDoorHh
set_option linter.all false
set_option linter.all false
set_option maxRecDepth 1000000
set_option maxHeartbeats 4000000
namespace Go.Proofs.YthobdlehakbkaaaGreatDoor
open Go Go.RowKit Go.Proofs
theorem l_fn : Tryz.prog.funcNamed "copyist/copyistlaw29.WorldHarms" = some 3 := by kernel_rfl
end Go.Proofs.YthobdlehakbkaaaGreatDoor
set_option linter.all false
set_option maxRecDepth 1000000
set_option maxHeartbeats 4000000
namespace Go.Proofs.YthobdlehakbkaaaGreatDoor
open Go Go.RowKit Go.Proofs
theorem l_inst : Tryz.f3.isInstance Tryz.prog YthobdlehakbkaaaGreatDoor.Rows.worldHarmsRow.origin YthobdlehakbkaaaGreatDoor.Rows.worldHarmsRow.targs := of_decide_eq_true (by kernel_rfl)
end Go.Proofs.YthobdlehakbkaaaGreatDoor
set_option linter.all false
set_option maxRecDepth 1000000
set_option maxHeartbeats 4000000
namespace Go.Proofs.YthobdlehakbkaaaGreatDoor
open Go Go.RowKit Go.Proofs
theorem l_wrap : Tryz.f3.isWrapper Tryz.prog YthobdlehakbkaaaGreatDoor.Rows.worldHarmsRow.wrapper YthobdlehakbkaaaGreatDoor.Rows.worldHarmsRow.mainSum := by unfold Func.isWrapper; first | (rw [if_pos (by decide +kernel)]; kernel_rfl) | (rw [if_neg (by decide +kernel)]; exact ⟨rfl, rfl⟩)
end Go.Proofs.YthobdlehakbkaaaGreatDoor
