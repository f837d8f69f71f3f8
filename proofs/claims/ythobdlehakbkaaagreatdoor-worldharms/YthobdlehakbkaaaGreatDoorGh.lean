/-
  A part of the proof of WorldHarms, over the seat YthobdlehakbkaaaGreatDoor: for every input the law returns true, and the input reads as it did.
-/
import Derived.Test.YthobdlehakbkaaaGreatDoorGf
import Derived.Test.YthobdlehakbkaaaGreatDoorGg
import Derived.Test.YthobdlehakbkaaaGreatDoorGe
import Derived.Test.YthobdlehakbkaaaGreatDoorChecked
set_option linter.all false
set_option linter.all false
set_option maxRecDepth 100000
namespace Go.Proofs.YthobdlehakbkaaaGreatDoor.InsE
open Go Go.RowKit Go.Proofs Go.Proofs.YthobdlehakbkaaaGreatDoor
def annL : List (Nat × FnAnn) := [
  (137, ⟨true, [], [(0, [6]), (1, [10, 11, 12]), (2, [13, 14]), (3, [15]), (4, [0, 1, 2, 7, 16, 17]), (5, [16, 18, 19]), (6, [20, 21]), (7, [0, 1, 2, 7, 8, 22, 23, 24, 25]), (8, [22, 26, 27, 28, 29, 30]), (9, [8, 31, 32, 33, 34, 35, 36, 37, 38, 39, 40]), (10, [2, 41, 42, 43, 44, 45]), (11, [0, 1, 7, 46, 47, 48, 49, 50, 51, 52, 53, 54]), (12, [9, 55]), (13, [31, 56, 57, 58, 59, 60]), (14, [61, 62, 63, 64, 65, 66, 67]), (15, [7, 8, 68, 69, 70, 71, 72, 73, 74, 75, 76, 77]), (16, [1, 2, 78, 79, 80, 81, 82]), (17, [0, 83]), (18, [2, 8, 68, 84, 85, 86, 87, 88]), (19, [1, 7, 89, 90, 91, 92, 93]), (20, [0, 94])]⟩)]
def eqL : Nat → Bool := fun t => ([108, 150] : List Nat).contains t
def primL (f : Nat) : Option Prim := if f = 197 then some ovlP else none
noncomputable def cfg : Cfg := ⟨Tryz.prog, annOf annL, eqL, primL, fun _ => none, fun _ => false⟩
theorem okAll : annL.all (fnOk Tryz.prog) = true := by kernel_rfl
theorem eqsOk : ([108, 150] : List Nat).all (fun t => !Tryz.prog.stoodInHeld t && !Tryz.prog.eqGuardType Tryz.prog.depth t) = true := by kernel_rfl
theorem eqsAll : ∀ t, eqL t = true → Tryz.prog.stoodInHeld t = false ∧ Tryz.prog.eqGuardType Tryz.prog.depth t = false := by
  intro t h
  have h1 := List.all_eq_true.1 eqsOk t (by simpa [eqL] using h)
  simpa using h1
theorem primsOk : ∀ (F : Fix), F.c.P = Tryz.prog → F.Ok → ∀ f g, primL f = some g → ∀ args h v h', g args h = .ok (v, h') → h.next ≤ h'.next ∧
    ∀ ι w (av : Array Value), Rel F ι h w → VRels ι F.ρ args av.toList → Fresh ι h.next h'.next → CallTo F.c.P f av w (Out F ι h w v h') := by
  intro F hP hok f g hg
  unfold primL at hg
  split at hg
  · rename_i hf; subst hf; cases hg; exact ovlP_sound F hP hok
  cases hg
theorem sureC : SureC cfg := ⟨eqsAll, code_of okAll, primsOk, Tryz.checked.mixed⟩
theorem covAll : coverAll Tryz.prog = true := by kernel_rfl
noncomputable def cfgR (ro : Nat → Option (List AVal)) : Cfg := { cfg with ro := ro }
section
variable {ro : Nat → Option (List AVal)}
@[simp] theorem cfgP : (cfgR ro).P = Tryz.prog := rfl
@[simp] theorem cfgRo : (cfgR ro).ro = ro := rfl
@[simp] theorem cfgEq : (cfgR ro).eqOk = eqL := rfl
@[simp] theorem cfgBld (t : Nat) : (cfgR ro).bld t = false := rfl
@[simp] theorem ann137 : (cfgR ro).ann 137 = ⟨true, [], [(0, [6]), (1, [10, 11, 12]), (2, [13, 14]), (3, [15]), (4, [0, 1, 2, 7, 16, 17]), (5, [16, 18, 19]), (6, [20, 21]), (7, [0, 1, 2, 7, 8, 22, 23, 24, 25]), (8, [22, 26, 27, 28, 29, 30]), (9, [8, 31, 32, 33, 34, 35, 36, 37, 38, 39, 40]), (10, [2, 41, 42, 43, 44, 45]), (11, [0, 1, 7, 46, 47, 48, 49, 50, 51, 52, 53, 54]), (12, [9, 55]), (13, [31, 56, 57, 58, 59, 60]), (14, [61, 62, 63, 64, 65, 66, 67]), (15, [7, 8, 68, 69, 70, 71, 72, 73, 74, 75, 76, 77]), (16, [1, 2, 78, 79, 80, 81, 82]), (17, [0, 83]), (18, [2, 8, 68, 84, 85, 86, 87, 88]), (19, [1, 7, 89, 90, 91, 92, 93]), (20, [0, 94])]⟩ := rfl
end
@[simp] theorem sz3 : sizeR Tryz.prog 3 = .ok 1 := by kernel_rfl
@[simp] theorem ag3 : isAggR Tryz.prog 3 = .ok false := by kernel_rfl
@[simp] theorem zv3 : zeroV Tryz.prog 3 = .ok (.int .i64 0) := by kernel_rfl
@[simp] theorem zc3 : zeroCellsR Tryz.prog 3 = .ok [.int .i64 0] := by kernel_rfl
@[simp] theorem un3 : undR Tryz.prog 3 = .ok (.int .i64) := by kernel_rfl
@[simp] theorem nm3 : notMake Tryz.prog (some 3) = .err 130 := by kernel_rfl
@[simp] theorem sz4 : sizeR Tryz.prog 4 = .ok 1 := by kernel_rfl
@[simp] theorem ag4 : isAggR Tryz.prog 4 = .ok false := by kernel_rfl
@[simp] theorem zv4 : zeroV Tryz.prog 4 = .ok (.bool false) := by kernel_rfl
@[simp] theorem zc4 : zeroCellsR Tryz.prog 4 = .ok [.bool false] := by kernel_rfl
@[simp] theorem un4 : undR Tryz.prog 4 = .ok .bool := by kernel_rfl
@[simp] theorem nm4 : notMake Tryz.prog (some 4) = .ok () := by kernel_rfl
@[simp] theorem sz23 : sizeR Tryz.prog 23 = .ok 1 := by kernel_rfl
@[simp] theorem ag23 : isAggR Tryz.prog 23 = .ok false := by kernel_rfl
@[simp] theorem zv23 : zeroV Tryz.prog 23 = .ok (.int .u32 0) := by kernel_rfl
@[simp] theorem zc23 : zeroCellsR Tryz.prog 23 = .ok [.int .u32 0] := by kernel_rfl
@[simp] theorem un23 : undR Tryz.prog 23 = .ok (.int .u32) := by kernel_rfl
@[simp] theorem nm23 : notMake Tryz.prog (some 23) = .err 130 := by kernel_rfl
@[simp] theorem sz52 : sizeR Tryz.prog 52 = .ok 1 := by kernel_rfl
@[simp] theorem ag52 : isAggR Tryz.prog 52 = .ok false := by kernel_rfl
@[simp] theorem zv52 : zeroV Tryz.prog 52 = .ok (.int .u16 0) := by kernel_rfl
@[simp] theorem zc52 : zeroCellsR Tryz.prog 52 = .ok [.int .u16 0] := by kernel_rfl
@[simp] theorem un52 : undR Tryz.prog 52 = .ok (.int .u16) := by kernel_rfl
@[simp] theorem nm52 : notMake Tryz.prog (some 52) = .err 130 := by kernel_rfl
@[simp] theorem sz93 : sizeR Tryz.prog 93 = .ok 1 := by kernel_rfl
@[simp] theorem ag93 : isAggR Tryz.prog 93 = .ok false := by kernel_rfl
@[simp] theorem zv93 : zeroV Tryz.prog 93 = .ok (.nils) := by kernel_rfl
@[simp] theorem zc93 : zeroCellsR Tryz.prog 93 = .ok [.nils] := by kernel_rfl
@[simp] theorem un93 : undR Tryz.prog 93 = .ok (.slice 209) := by kernel_rfl
@[simp] theorem el93 : elemSl Tryz.prog 93 = .ok 209 := by kernel_rfl
@[simp] theorem nm93 : notMake Tryz.prog (some 93) = .ok () := by kernel_rfl
@[simp] theorem sz94 : sizeR Tryz.prog 94 = .ok 1 := by kernel_rfl
@[simp] theorem ag94 : isAggR Tryz.prog 94 = .ok false := by kernel_rfl
@[simp] theorem zv94 : zeroV Tryz.prog 94 = .ok (.nils) := by kernel_rfl
@[simp] theorem zc94 : zeroCellsR Tryz.prog 94 = .ok [.nils] := by kernel_rfl
@[simp] theorem un94 : undR Tryz.prog 94 = .ok (.slice 209) := by kernel_rfl
@[simp] theorem el94 : elemSl Tryz.prog 94 = .ok 209 := by kernel_rfl
@[simp] theorem nm94 : notMake Tryz.prog (some 94) = .ok () := by kernel_rfl
@[simp] theorem sz209 : sizeR Tryz.prog 209 = .ok 2 := by kernel_rfl
@[simp] theorem ag209 : isAggR Tryz.prog 209 = .ok true := by kernel_rfl
@[simp] theorem zv209 : zeroV Tryz.prog 209 = .ok (.agg [.int .u16 0, .int .u32 0]) := by kernel_rfl
@[simp] theorem zc209 : zeroCellsR Tryz.prog 209 = .ok [.int .u16 0, .int .u32 0] := by kernel_rfl
@[simp] theorem nm209 : notMake Tryz.prog (some 209) = .ok () := by kernel_rfl
@[simp] theorem co0 : Tryz.prog.cellsOf 0 = 1 := by kernel_rfl
@[simp] theorem co3 : Tryz.prog.cellsOf 3 = 1 := by kernel_rfl
@[simp] theorem co4 : Tryz.prog.cellsOf 4 = 1 := by kernel_rfl
@[simp] theorem co23 : Tryz.prog.cellsOf 23 = 1 := by kernel_rfl
@[simp] theorem co52 : Tryz.prog.cellsOf 52 = 1 := by kernel_rfl
@[simp] theorem co93 : Tryz.prog.cellsOf 93 = 1 := by kernel_rfl
@[simp] theorem co94 : Tryz.prog.cellsOf 94 = 1 := by kernel_rfl
@[simp] theorem co209 : Tryz.prog.cellsOf 209 = 2 := by kernel_rfl
@[simp] theorem nmN : notMake Tryz.prog none = .ok () := rfl
theorem inf94 : ∃ i, infoR Tryz.prog 209 = .ok i ∧ i.size = 2 ∧ i.bytes = 8 := ⟨_, rfl, by kernel_rfl, by kernel_rfl⟩
@[simp] theorem ap94 {ro} (h : AHeap) (xt : Option Nat) (s x : AVal) : appendR (cfgR ro) h 94 xt s x = mk2 (notMake Tryz.prog xt) (appMakeR (cfgR ro) h 94 xt s x) ((lenA x).bind fun n => (readSl (cfgR ro) h 2 n x).bind fun new => appCore 2 8 h s n new) := by
  obtain ⟨i, h1, h2, h3⟩ := inf94
  exact append_core xt s x el94 h1 zc209 h2 h3 (by decide) (by decide) rfl
end Go.Proofs.YthobdlehakbkaaaGreatDoor.InsE
