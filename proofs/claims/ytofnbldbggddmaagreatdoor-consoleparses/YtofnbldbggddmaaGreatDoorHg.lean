/-
  A part of the proof of ConsoleParses, over the seat YtofnbldbggddmaaGreatDoor: for every input the law returns true, and the input reads as it did.
-/
import Derived.Test.YtofnbldbggddmaaGreatDoorHd
import Derived.Test.YtofnbldbggddmaaGreatDoorHe
import Derived.Test.YtofnbldbggddmaaGreatDoorHc
import Derived.Test.YtofnbldbggddmaaGreatDoorHf
import Derived.Test.YtofnbldbggddmaaGreatDoorCards
import Derived.SevenTiedAt
set_option linter.all false
set_option linter.all false
set_option maxRecDepth 1000000
set_option maxHeartbeats 4000000
namespace Go.Proofs.YtofnbldbggddmaaGreatDoor
open Go Go.RowKit Go.Proofs
open Go.ChangeShapes Go.WideShapes Go.ChangeAt
theorem consoleParses_holds : YtofnbldbggddmaaGreatDoor.Rows.ConsoleParsesCardSaid :=
  Claim7.holds_tied_plain_at .later [] [.data, .data, .data, .data, .sentinel, .sentinel, .data, .data, .pinned] true (true, "0a07746eeb00e24099ec153668f80564de8b967a17d05a333edac0517f1c27e6") true
    consoleParses_said (fun _ h => by cases h) l_wf (fun _ h => by cases h) consoleParses_own_tie rfl ⟨rfl, rfl⟩ m_main rfl
    (fun f fn hf hfn => by
      obtain rfl : f = 5 := Option.some.inj (l_fn.symm.trans hf) |>.symm
      obtain rfl : fn = Tryz.f5 := (Option.some.inj (Tryz.func5.symm.trans hfn)).symm
      exact ⟨m_looks, fun j t ht => by
        rw [Tryz.params5] at ht
        rcases j with _ | j
        · obtain rfl : 9 = t := by simpa using ht
          exact m_wants _ (by decide)
        · simp at ht⟩)
    l_goes
end Go.Proofs.YtofnbldbggddmaaGreatDoor
