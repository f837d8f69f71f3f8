/-
  A part of the proof of WorldHarms, over the seat YthobdlehakbkaaaGreatDoor: for every input the law returns true, and the input reads as it did.
-/
import Derived.Test.YthobdlehakbkaaaGreatDoorGg
import Derived.Test.YthobdlehakbkaaaGreatDoorGe
import Derived.Test.YthobdlehakbkaaaGreatDoorChecked
set_option linter.all false
set_option linter.all false
set_option maxRecDepth 100000
namespace Go.Proofs.YthobdlehakbkaaaGreatDoor.InsN
open Go Go.RowKit Go.Proofs Go.Proofs.YthobdlehakbkaaaGreatDoor
def annL : List (Nat × FnAnn) := [
  (268, ⟨true, [], [(0, [6]), (1, [10, 11, 12]), (2, [13, 14]), (3, [15]), (4, [0, 1, 2, 7, 16, 17]), (5, [16, 18, 19]), (6, [20, 21]), (7, [0, 1, 2, 7, 8, 22, 23, 24, 25]), (8, [22, 26, 27, 28, 29, 30]), (9, [8, 31, 32, 33, 34, 35, 36, 37, 38, 39, 40]), (10, [2, 41, 42, 43, 44, 45]), (11, [0, 1, 7, 46, 47, 48, 49, 50, 51, 52, 53, 54]), (12, [9, 55]), (13, [31, 56, 57, 58, 59, 60]), (14, [61, 62, 63, 64, 65, 66, 67]), (15, [7, 8, 68, 69, 70, 71, 72, 73, 74, 75, 76, 77]), (16, [1, 2, 78, 79, 80, 81, 82]), (17, [0, 83]), (18, [2, 8, 68, 84, 85, 86, 87, 88]), (19, [1, 7, 89, 90, 91, 92, 93]), (20, [0, 94])]⟩)]
def eqL : Nat → Bool := fun t => ([108, 150] : List Nat).contains t
noncomputable def cfg : Cfg := ⟨Tryz.prog, annOf annL, eqL, fun _ => none, fun _ => none, fun _ => false⟩
theorem okAll : annL.all (fnOk Tryz.prog) = true := by kernel_rfl
theorem eqsOk : ([108, 150] : List Nat).all (fun t => !Tryz.prog.stoodInHeld t && !Tryz.prog.eqGuardType Tryz.prog.depth t) = true := by kernel_rfl
theorem eqsAll : ∀ t, eqL t = true → Tryz.prog.stoodInHeld t = false ∧ Tryz.prog.eqGuardType Tryz.prog.depth t = false := by
  intro t h
  have h1 := List.all_eq_true.1 eqsOk t (by simpa [eqL] using h)
  simpa using h1
theorem sureC : SureC cfg := ⟨eqsAll, code_of okAll, (fun F _ _ f g h => by cases h), Tryz.checked.mixed⟩
theorem covAll : coverAll Tryz.prog = true := by kernel_rfl
noncomputable def cfgR (ro : Nat → Option (List AVal)) : Cfg := { cfg with ro := ro }
section
variable {ro : Nat → Option (List AVal)}
@[simp] theorem cfgP : (cfgR ro).P = Tryz.prog := rfl
@[simp] theorem cfgRo : (cfgR ro).ro = ro := rfl
@[simp] theorem cfgEq : (cfgR ro).eqOk = eqL := rfl
@[simp] theorem cfgBld (t : Nat) : (cfgR ro).bld t = false := rfl
@[simp] theorem ann268 : (cfgR ro).ann 268 = ⟨true, [], [(0, [6]), (1, [10, 11, 12]), (2, [13, 14]), (3, [15]), (4, [0, 1, 2, 7, 16, 17]), (5, [16, 18, 19]), (6, [20, 21]), (7, [0, 1, 2, 7, 8, 22, 23, 24, 25]), (8, [22, 26, 27, 28, 29, 30]), (9, [8, 31, 32, 33, 34, 35, 36, 37, 38, 39, 40]), (10, [2, 41, 42, 43, 44, 45]), (11, [0, 1, 7, 46, 47, 48, 49, 50, 51, 52, 53, 54]), (12, [9, 55]), (13, [31, 56, 57, 58, 59, 60]), (14, [61, 62, 63, 64, 65, 66, 67]), (15, [7, 8, 68, 69, 70, 71, 72, 73, 74, 75, 76, 77]), (16, [1, 2, 78, 79, 80, 81, 82]), (17, [0, 83]), (18, [2, 8, 68, 84, 85, 86, 87, 88]), (19, [1, 7, 89, 90, 91, 92, 93]), (20, [0, 94])]⟩ := rfl
end
@[simp] theorem sz3 : sizeR Tryz.prog 3 = .ok 1 := by kernel_rfl
@[simp] theorem ag3 : isAggR Tryz.prog 3 = .ok false := by kernel_rfl
@[simp] theorem zv3 : zeroV Tryz.prog 3 = .ok (.int .i64 0) := by kernel_rfl
@[simp] theorem zc3 : zeroCellsR Tryz.prog 3 = .ok [.int .i64 0] := by kernel_rfl
@[simp] theorem un3 : undR Tryz.prog 3 = .ok (.int .i64) := by kernel_rfl
@[simp] theorem nm3 : notMake Tryz.prog (some 3) = .err 130 := by kernel_rfl
@[simp] theorem sz4 : sizeR Tryz.prog 4 = .ok 1 := by kernel_rfl
@[simp] theorem ag4 : isAggR Tryz.prog 4 = .ok false := by kernel_rfl
@[simp] theorem zv4 : zeroV Tryz.prog 4 = .ok (.bool false) := by kernel_rfl
@[simp] theorem zc4 : zeroCellsR Tryz.prog 4 = .ok [.bool false] := by kernel_rfl
@[simp] theorem un4 : undR Tryz.prog 4 = .ok .bool := by kernel_rfl
@[simp] theorem nm4 : notMake Tryz.prog (some 4) = .ok () := by kernel_rfl
@[simp] theorem sz9 : sizeR Tryz.prog 9 = .ok 1 := by kernel_rfl
@[simp] theorem ag9 : isAggR Tryz.prog 9 = .ok false := by kernel_rfl
@[simp] theorem zv9 : zeroV Tryz.prog 9 = .ok (.str []) := by kernel_rfl
@[simp] theorem zc9 : zeroCellsR Tryz.prog 9 = .ok [.str []] := by kernel_rfl
@[simp] theorem un9 : undR Tryz.prog 9 = .ok .string := by kernel_rfl
@[simp] theorem nm9 : notMake Tryz.prog (some 9) = .ok () := by kernel_rfl
@[simp] theorem sz23 : sizeR Tryz.prog 23 = .ok 1 := by kernel_rfl
@[simp] theorem ag23 : isAggR Tryz.prog 23 = .ok false := by kernel_rfl
@[simp] theorem zv23 : zeroV Tryz.prog 23 = .ok (.int .u32 0) := by kernel_rfl
@[simp] theorem zc23 : zeroCellsR Tryz.prog 23 = .ok [.int .u32 0] := by kernel_rfl
@[simp] theorem un23 : undR Tryz.prog 23 = .ok (.int .u32) := by kernel_rfl
@[simp] theorem nm23 : notMake Tryz.prog (some 23) = .err 130 := by kernel_rfl
@[simp] theorem sz52 : sizeR Tryz.prog 52 = .ok 1 := by kernel_rfl
@[simp] theorem ag52 : isAggR Tryz.prog 52 = .ok false := by kernel_rfl
@[simp] theorem zv52 : zeroV Tryz.prog 52 = .ok (.int .u16 0) := by kernel_rfl
@[simp] theorem zc52 : zeroCellsR Tryz.prog 52 = .ok [.int .u16 0] := by kernel_rfl
@[simp] theorem un52 : undR Tryz.prog 52 = .ok (.int .u16) := by kernel_rfl
@[simp] theorem nm52 : notMake Tryz.prog (some 52) = .err 130 := by kernel_rfl
@[simp] theorem sz53 : sizeR Tryz.prog 53 = .ok 1 := by kernel_rfl
@[simp] theorem ag53 : isAggR Tryz.prog 53 = .ok false := by kernel_rfl
@[simp] theorem zv53 : zeroV Tryz.prog 53 = .ok (.int .u64 0) := by kernel_rfl
@[simp] theorem zc53 : zeroCellsR Tryz.prog 53 = .ok [.int .u64 0] := by kernel_rfl
@[simp] theorem un53 : undR Tryz.prog 53 = .ok (.int .u64) := by kernel_rfl
@[simp] theorem nm53 : notMake Tryz.prog (some 53) = .err 130 := by kernel_rfl
@[simp] theorem sz68 : sizeR Tryz.prog 68 = .ok 1 := by kernel_rfl
@[simp] theorem ag68 : isAggR Tryz.prog 68 = .ok false := by kernel_rfl
@[simp] theorem zv68 : zeroV Tryz.prog 68 = .ok (.nilp) := by kernel_rfl
@[simp] theorem zc68 : zeroCellsR Tryz.prog 68 = .ok [.nilp] := by kernel_rfl
@[simp] theorem un68 : undR Tryz.prog 68 = .ok (.pointer 292) := by kernel_rfl
@[simp] theorem nm68 : notMake Tryz.prog (some 68) = .ok () := by kernel_rfl
@[simp] theorem sz108 : sizeR Tryz.prog 108 = .ok 2 := by kernel_rfl
@[simp] theorem ag108 : isAggR Tryz.prog 108 = .ok true := by kernel_rfl
@[simp] theorem zv108 : zeroV Tryz.prog 108 = .ok (.agg [.int .u16 0, .int .u32 0]) := by kernel_rfl
@[simp] theorem zc108 : zeroCellsR Tryz.prog 108 = .ok [.int .u16 0, .int .u32 0] := by kernel_rfl
@[simp] theorem nm108 : notMake Tryz.prog (some 108) = .ok () := by kernel_rfl
@[simp] theorem sz196 : sizeR Tryz.prog 196 = .ok 3 := by kernel_rfl
@[simp] theorem ag196 : isAggR Tryz.prog 196 = .ok true := by kernel_rfl
@[simp] theorem zv196 : zeroV Tryz.prog 196 = .ok (.agg [.int .u64 0, .int .u16 0, .int .u32 0]) := by kernel_rfl
@[simp] theorem zc196 : zeroCellsR Tryz.prog 196 = .ok [.int .u64 0, .int .u16 0, .int .u32 0] := by kernel_rfl
@[simp] theorem nm196 : notMake Tryz.prog (some 196) = .ok () := by kernel_rfl
@[simp] theorem sz198 : sizeR Tryz.prog 198 = .ok 7 := by kernel_rfl
@[simp] theorem ag198 : isAggR Tryz.prog 198 = .ok true := by kernel_rfl
@[simp] theorem zv198 : zeroV Tryz.prog 198 = .ok (.agg [.int .u64 0, .int .u16 0, .int .u32 0, .int .u16 0, .int .u32 0, .str [], .bool false]) := by kernel_rfl
@[simp] theorem zc198 : zeroCellsR Tryz.prog 198 = .ok [.int .u64 0, .int .u16 0, .int .u32 0, .int .u16 0, .int .u32 0, .str [], .bool false] := by kernel_rfl
@[simp] theorem nm198 : notMake Tryz.prog (some 198) = .ok () := by kernel_rfl
@[simp] theorem sz199 : sizeR Tryz.prog 199 = .ok 1 := by kernel_rfl
@[simp] theorem ag199 : isAggR Tryz.prog 199 = .ok false := by kernel_rfl
@[simp] theorem zv199 : zeroV Tryz.prog 199 = .ok (.cplx .f64 0 0) := by kernel_rfl
@[simp] theorem zc199 : zeroCellsR Tryz.prog 199 = .ok [.cplx .f64 0 0] := by kernel_rfl
@[simp] theorem un199 : undR Tryz.prog 199 = .ok (.complex .f64) := by kernel_rfl
@[simp] theorem nm199 : notMake Tryz.prog (some 199) = .ok () := by kernel_rfl
@[simp] theorem sz201 : sizeR Tryz.prog 201 = .ok 2 := by kernel_rfl
@[simp] theorem ag201 : isAggR Tryz.prog 201 = .ok true := by kernel_rfl
@[simp] theorem zv201 : zeroV Tryz.prog 201 = .ok (.agg [.cplx .f64 0 0, .cplx .f64 0 0]) := by kernel_rfl
@[simp] theorem zc201 : zeroCellsR Tryz.prog 201 = .ok [.cplx .f64 0 0, .cplx .f64 0 0] := by kernel_rfl
@[simp] theorem nm201 : notMake Tryz.prog (some 201) = .ok () := by kernel_rfl
@[simp] theorem sz203 : sizeR Tryz.prog 203 = .ok 4 := by kernel_rfl
@[simp] theorem ag203 : isAggR Tryz.prog 203 = .ok true := by kernel_rfl
@[simp] theorem zv203 : zeroV Tryz.prog 203 = .ok (.agg [.int .i64 0, .int .i64 0, .cplx .f64 0 0, .cplx .f64 0 0]) := by kernel_rfl
@[simp] theorem zc203 : zeroCellsR Tryz.prog 203 = .ok [.int .i64 0, .int .i64 0, .cplx .f64 0 0, .cplx .f64 0 0] := by kernel_rfl
@[simp] theorem nm203 : notMake Tryz.prog (some 203) = .ok () := by kernel_rfl
@[simp] theorem sz292 : sizeR Tryz.prog 292 = .ok 16 := by kernel_rfl
@[simp] theorem ag292 : isAggR Tryz.prog 292 = .ok true := by kernel_rfl
@[simp] theorem zv292 : zeroV Tryz.prog 292 = .ok (.agg [.nilp, .nilp, .nilp, .int .u64 0, .int .i64 0, .int .u64 0, .int .u16 0, .int .u32 0, .int .u16 0, .int .u32 0, .str [], .bool false, .int .i64 0, .int .i64 0, .cplx .f64 0 0, .cplx .f64 0 0]) := by kernel_rfl
@[simp] theorem zc292 : zeroCellsR Tryz.prog 292 = .ok [.nilp, .nilp, .nilp, .int .u64 0, .int .i64 0, .int .u64 0, .int .u16 0, .int .u32 0, .int .u16 0, .int .u32 0, .str [], .bool false, .int .i64 0, .int .i64 0, .cplx .f64 0 0, .cplx .f64 0 0] := by kernel_rfl
@[simp] theorem nm292 : notMake Tryz.prog (some 292) = .ok () := by kernel_rfl
@[simp] theorem sz356 : sizeR Tryz.prog 356 = .ok 1 := by kernel_rfl
@[simp] theorem ag356 : isAggR Tryz.prog 356 = .ok false := by kernel_rfl
@[simp] theorem zv356 : zeroV Tryz.prog 356 = .ok (.nils) := by kernel_rfl
@[simp] theorem zc356 : zeroCellsR Tryz.prog 356 = .ok [.nils] := by kernel_rfl
@[simp] theorem un356 : undR Tryz.prog 356 = .ok (.slice 68) := by kernel_rfl
@[simp] theorem el356 : elemSl Tryz.prog 356 = .ok 68 := by kernel_rfl
@[simp] theorem nm356 : notMake Tryz.prog (some 356) = .ok () := by kernel_rfl
@[simp] theorem co0 : Tryz.prog.cellsOf 0 = 1 := by kernel_rfl
@[simp] theorem co3 : Tryz.prog.cellsOf 3 = 1 := by kernel_rfl
@[simp] theorem co4 : Tryz.prog.cellsOf 4 = 1 := by kernel_rfl
@[simp] theorem co9 : Tryz.prog.cellsOf 9 = 1 := by kernel_rfl
@[simp] theorem co23 : Tryz.prog.cellsOf 23 = 1 := by kernel_rfl
@[simp] theorem co52 : Tryz.prog.cellsOf 52 = 1 := by kernel_rfl
@[simp] theorem co53 : Tryz.prog.cellsOf 53 = 1 := by kernel_rfl
@[simp] theorem co68 : Tryz.prog.cellsOf 68 = 1 := by kernel_rfl
@[simp] theorem co108 : Tryz.prog.cellsOf 108 = 2 := by kernel_rfl
@[simp] theorem co196 : Tryz.prog.cellsOf 196 = 3 := by kernel_rfl
@[simp] theorem co198 : Tryz.prog.cellsOf 198 = 7 := by kernel_rfl
@[simp] theorem co199 : Tryz.prog.cellsOf 199 = 1 := by kernel_rfl
@[simp] theorem co201 : Tryz.prog.cellsOf 201 = 2 := by kernel_rfl
@[simp] theorem co203 : Tryz.prog.cellsOf 203 = 4 := by kernel_rfl
@[simp] theorem co292 : Tryz.prog.cellsOf 292 = 16 := by kernel_rfl
@[simp] theorem co356 : Tryz.prog.cellsOf 356 = 1 := by kernel_rfl
@[simp] theorem nmN : notMake Tryz.prog none = .ok () := rfl
theorem inf356 : ∃ i, infoR Tryz.prog 68 = .ok i ∧ i.size = 1 ∧ i.bytes = 8 := ⟨_, rfl, by kernel_rfl, by kernel_rfl⟩
@[simp] theorem ap356 {ro} (h : AHeap) (xt : Option Nat) (s x : AVal) : appendR (cfgR ro) h 356 xt s x = mk2 (notMake Tryz.prog xt) (appMakeR (cfgR ro) h 356 xt s x) ((lenA x).bind fun n => (readSl (cfgR ro) h 1 n x).bind fun new => appCore 1 8 h s n new) := by
  obtain ⟨i, h1, h2, h3⟩ := inf356
  exact append_core xt s x el356 h1 zc68 h2 h3 (by decide) (by decide) rfl
end Go.Proofs.YthobdlehakbkaaaGreatDoor.InsN
