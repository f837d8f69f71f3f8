/-
  A part of the proof of WorldHarms, over the seat YthobdlehakbkaaaGreatDoor: for every input the law returns true, and the input reads as it did.
-/
import Derived.Test.YthobdlehakbkaaaGreatDoorHo
import Derived.Test.YthobdlehakbkaaaGreatDoorHp
import Derived.Test.YthobdlehakbkaaaGreatDoorHn
import Derived.Test.YthobdlehakbkaaaGreatDoorTie
import Derived.Test.YthobdlehakbkaaaGreatDoorCards
import Derived.SevenTiedAt
set_option linter.all false
set_option linter.all false
set_option maxRecDepth 1000000
set_option maxHeartbeats 4000000
namespace Go.Proofs.YthobdlehakbkaaaGreatDoor
open Go Go.RowKit Go.Proofs
open Go.ChangeShapes Go.WideShapes Go.ChangeAt
theorem worldHarms_holds : YthobdlehakbkaaaGreatDoor.Rows.WorldHarmsCardSaid :=
  Claim7.holds_tied_plain_at .later [] [.data] true (true, "c833539d9fe9396a2bc2fcc434163f66f43a263fd04a188928aa37611e0b6fe7") false
    worldHarms_said (fun _ h => by cases h) l_wf (fun _ h => by cases h) YthobdlehakbkaaaGreatDoor.worldHarms_row_tie rfl ⟨rfl, rfl⟩ m_main rfl
    (fun f fn hf hfn => by
      obtain rfl : f = 3 := Option.some.inj (l_fn.symm.trans hf) |>.symm
      obtain rfl : fn = Tryz.f3 := (Option.some.inj (Tryz.func3.symm.trans hfn)).symm
      exact ⟨m_looks, fun j t ht => by
        rw [Tryz.params3] at ht
        rcases j with _ | _ | j
        · obtain rfl : 22 = t := by simpa using ht
          exact m_wants _ (by decide)
        · obtain rfl : 25 = t := by simpa using ht
          exact m_wants _ (by decide)
        · simp at ht⟩)
    l_goes
end Go.Proofs.YthobdlehakbkaaaGreatDoor
