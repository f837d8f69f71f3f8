/-
  A part of the proof of WorldHarms, over the seat YthobdlehakbkaaaGreatDoor: for every input the law returns true, and the input reads as it did.
-/
import Derived.Test.YthobdlehakbkaaaGreatDoorGj
set_option linter.all false
set_option linter.all false
set_option maxRecDepth 100000
set_option maxHeartbeats 4000000
namespace Go.Proofs.YthobdlehakbkaaaGreatDoor.InsN
open Go Go.RowKit Go.Proofs Go.Proofs.YthobdlehakbkaaaGreatDoor
section
variable {ro : Nat → Option (List AVal)}
theorem run0 (h : AHeap) (q : Nat) (x : List AVal) (hq : h.get q = some (.row 1 false x)) (hx : x.length = 1) (hlq : q < h.next) :
    Ev (cfgR ro) 268 [.nils, .int .i64 0, .sl q 0 1] h (InsQK 1 h (h.next + 8) 0 0 x) := by
  refine Ev.wp rfl rfl Tryz.func268 rfl ?_
  obtain ⟨c, rfl⟩ : ∃ c, x = [c] := by
    match x, hx with
    | [c], _ => exact ⟨c, rfl⟩
  simp -implicitDefEqProofs [Tryz.f268, bounds2, sliceSl, hq, appCore, boundR, lenA]
  exact ⟨by simp, fun p hp _ => by rw [AHeap.get_push, if_neg (by omega)], .inr ⟨h.next, false, Nat.le_refl _, rfl, by rw [AHeap.get_push, if_pos rfl]⟩⟩
end
end Go.Proofs.YthobdlehakbkaaaGreatDoor.InsN
namespace Go.Proofs.YthobdlehakbkaaaGreatDoor
open Go Go.RowKit Go.Proofs
def insNP : Prim := insKP 1 false
theorem insNP_sound (F : Fix) (hP : F.c.P = Tryz.prog) (ok : F.Ok) : ∀ args h v h', insNP args h = .ok (v, h') → h.next ≤ h'.next ∧
    ∀ ι w (av : Array Value), Rel F ι h w → VRels ι F.ρ args av.toList → Fresh ι h.next h'.next → CallTo F.c.P 268 av w (Out F ι h w v h') :=
  insK_ok InsN.sureC F hP ok 268 (fun h o q cap i vs D x fz hone => by cases hone) (fun h q x => InsN.run0 (ro := F.c.ro) h q x)
end Go.Proofs.YthobdlehakbkaaaGreatDoor
