/-
  A part of the proof of ConsoleWords, over the seat YtofnbldbggddmaaGreatDoor: for every input the law returns true, and the input reads as it did.
-/
import Derived.Test.YtofnbldbggddmaaGreatDoorHh
import Derived.Test.YtofnbldbggddmaaGreatDoorGz
set_option linter.all false
set_option linter.all false
set_option maxRecDepth 1000000
set_option maxHeartbeats 4000000
namespace Go.Proofs.YtofnbldbggddmaaGreatDoor
open Go Go.RowKit Go.Proofs
theorem k_goes : false = YtofnbldbggddmaaGreatDoor.Rows.consoleQuotesRow.goesBy Tryz.prog := by
  show false = ((Tryz.prog.funcNamed "copyist/copyistlaw30.ConsoleQuotes").any Tryz.prog.goes || false)
  rw [k_fn, Option.any_some, goes_no, Bool.false_or]
end Go.Proofs.YtofnbldbggddmaaGreatDoor
