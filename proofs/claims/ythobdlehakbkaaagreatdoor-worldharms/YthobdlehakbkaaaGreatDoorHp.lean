/-
  A part of the proof of WorldHarms, over the seat YthobdlehakbkaaaGreatDoor: for every input the law returns true, and the input reads as it did.
-/
import Derived.Test.YthobdlehakbkaaaGreatDoorHh
import Derived.SevenTiedAt
import Derived.Test.YthobdlehakbkaaaGreatDoorHn
set_option linter.all false
set_option linter.all false
set_option maxRecDepth 1000000
set_option maxHeartbeats 4000000
namespace Go.Proofs.YthobdlehakbkaaaGreatDoor
open Go Go.RowKit Go.Proofs
theorem m_main : Tryz.prog.mainIs = some (true, ("c833539d9fe9396a2bc2fcc434163f66f43a263fd04a188928aa37611e0b6fe7" : String).toList) := by kernel_rfl
end Go.Proofs.YthobdlehakbkaaaGreatDoor
set_option linter.all false
set_option maxRecDepth 1000000
set_option maxHeartbeats 4000000
namespace Go.Proofs.YthobdlehakbkaaaGreatDoor
open Go Go.RowKit Go.Proofs
theorem m_looks : false = Tryz.prog.looks [] := by kernel_rfl
end Go.Proofs.YthobdlehakbkaaaGreatDoor
set_option linter.all false
set_option maxRecDepth 1000000
set_option maxHeartbeats 4000000
namespace Go.Proofs.YthobdlehakbkaaaGreatDoor
open Go Go.RowKit Go.Proofs
theorem m_wants (t : Nat) (h : t = 22 ∨ t = 25) : Tryz.prog.wantsStandIn t = false := by
  rcases h with rfl | rfl <;> kernel_rfl
end Go.Proofs.YthobdlehakbkaaaGreatDoor
set_option linter.all false
set_option maxRecDepth 1000000
set_option maxHeartbeats 4000000
namespace Go.Proofs.YthobdlehakbkaaaGreatDoor
open Go Go.RowKit Go.Proofs
theorem l_wf : YthobdlehakbkaaaGreatDoor.Rows.worldHarmsRow.wfByText (OpenSpec.ofChange YthobdlehakbkaaaGreatDoor.Rows.worldHarmsSpec) = true := by kernel_rfl
end Go.Proofs.YthobdlehakbkaaaGreatDoor
set_option linter.all false
set_option maxRecDepth 1000000
set_option maxHeartbeats 4000000
namespace Go.Proofs.YthobdlehakbkaaaGreatDoor
open Go Go.RowKit Go.Proofs
theorem goes_none : Tryz.prog.funcs.any Func.goes = false := by kernel_rfl
theorem goes_no (f : Nat) : Tryz.prog.goes f = false := by
  unfold Program.goes
  rw [goes_none, Bool.and_false, Bool.or_false, List.any_eq_false]
  intro g _ hg
  cases hf : Tryz.prog.funcs[g]? with
  | none => rw [hf] at hg; cases hg
  | some fn =>
    rw [hf, Option.any_some] at hg
    have h := goes_none
    rw [Array.any_eq_false] at h
    obtain ⟨hl, e⟩ := Array.getElem?_eq_some_iff.1 hf
    have := h g hl
    rw [e] at this
    exact this hg
end Go.Proofs.YthobdlehakbkaaaGreatDoor
set_option linter.all false
set_option maxRecDepth 1000000
set_option maxHeartbeats 4000000
namespace Go.Proofs.YthobdlehakbkaaaGreatDoor
open Go Go.RowKit Go.Proofs
theorem l_goes : false = YthobdlehakbkaaaGreatDoor.Rows.worldHarmsRow.goesBy Tryz.prog := by
  show false = ((Tryz.prog.funcNamed "copyist/copyistlaw29.WorldHarms").any Tryz.prog.goes || false)
  rw [l_fn, Option.any_some, goes_no, Bool.false_or]
end Go.Proofs.YthobdlehakbkaaaGreatDoor
