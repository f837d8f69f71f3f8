/-
  A part of the proof of WorldHarms, over the seat YthobdlehakbkaaaGreatDoor: for every input the law returns true, and the input reads as it did.
-/
import Derived.Test.YthobdlehakbkaaaGreatDoorGe
import Derived.Test.YthobdlehakbkaaaGreatDoorChecked
set_option linter.all false
set_option linter.all false
set_option maxRecDepth 100000
namespace Go.Proofs.YthobdlehakbkaaaGreatDoor
open Go Go.RowKit Go.Proofs
theorem ovlP_sound (F : Fix) (hP : F.c.P = Tryz.prog) (ok : F.Ok) : ∀ args h v h', ovlP args h = .ok (v, h') → h.next ≤ h'.next ∧
    ∀ ι w (av : Array Value), Rel F ι h w → VRels ι F.ρ args av.toList → Fresh ι h.next h'.next → CallTo F.c.P 197 av w (Out F ι h w v h') := by
  have hz : sizeR Tryz.prog 209 = .ok 2 := by kernel_rfl
  have hu : Tryz.prog.underlying 93 = some (.slice 209) := by kernel_rfl
  refine ovl_ok (tS := 93) (tR := 4) (e := 209) (size := 2) ?_ (by rw [hP]; exact hu) ?_
  · intro args w
    rw [hP]
    exact run_callFunc_extern Tryz.func197 (by kernel_rfl) (by kernel_rfl) (by kernel_rfl) (e := Extern.SlicesOverlaps.overlaps #[93, 93] #[4]) (by kernel_rfl) args w
  · intro w; rw [hP]; exact run_size hz w
end Go.Proofs.YthobdlehakbkaaaGreatDoor
