/-
  The base of the seat: annotations of its functions, facts of its types. Written by base.py.
-/
import Derived.Test.YtbcjancmcajpbaaZzArg
import Derived.Test.YtbcjancmcajpbaaChecked
set_option linter.all false
set_option maxRecDepth 100000
namespace Go.Proofs.Ytbcjancmcajpbaa
open Go Go.RowKit Go.Proofs
def annL : List (Nat × FnAnn) := [
  (2, ⟨true, [], [(0, [0])]⟩),
  (3, ⟨true, [6], [(0, [4]), (1, [11]), (2, [0, 1, 12]), (3, [12, 13, 14, 15, 16, 17, 18, 19]), (4, [0, 1, 20]), (5, [20, 21]), (7, [25, 26, 27, 28]), (8, [7, 8, 29, 30, 31, 32, 33, 34, 35, 36]), (9, [9, 37]), (10, [6, 38, 39, 40, 41]), (11, [0, 5, 42, 43, 44, 45, 46, 47, 48]), (12, [1, 10, 22, 23, 24, 49]), (13, [10, 49, 50]), (14, [5, 6, 38, 51]), (15, [0, 1, 22, 23, 24, 25])]⟩),
  (4, ⟨true, [7], [(0, [4]), (1, [20]), (2, [0, 1, 21]), (3, [21, 22, 23, 24, 25, 26, 27, 28, 29, 30, 31]), (4, [0, 1, 32]), (5, [32, 33, 34]), (8, [38, 39, 40, 41]), (9, [7, 42, 43, 44, 45, 46, 47, 48]), (10, [6, 49, 50, 51, 52, 53, 54, 55, 56, 57, 58]), (11, [8, 9, 10, 11, 12, 13, 59, 60, 61, 62, 63, 64, 65, 66, 67, 68, 69, 70]), (12, [0, 1, 5, 35, 36, 37, 71]), (13, [71, 72]), (14, [0, 35, 36, 37, 38, 73, 74, 75, 76, 77, 78, 79]), (15, [1, 5, 80, 81, 82, 83, 84, 85, 86]), (16, [14, 15, 16, 17, 18, 19, 87, 88, 89, 90, 91, 92, 93, 94, 95, 96, 97, 98, 99])]⟩),
  (5, ⟨true, [], [(0, [0]), (1, [1, 2, 3])]⟩),
  (6, ⟨true, [4], [(0, [2]), (3, [8, 9, 10]), (4, [4, 11, 12, 13]), (5, [0, 5, 6, 7, 14]), (6, [14, 15]), (7, [0, 5, 6, 7, 8, 16, 17, 18])]⟩),
  (7, ⟨true, [5], [(0, [2]), (2, [0]), (4, [9, 10, 11]), (5, [5, 12, 13, 14, 15, 16, 17, 18, 19, 20, 21, 22, 23, 24, 25]), (6, [26]), (7, [3, 6, 7, 8, 9, 27])]⟩),
  (8, ⟨true, [2], [(0, [0, 4, 5, 6]), (1, [8]), (2, [11]), (3, [9, 10, 12, 13, 14, 15, 16, 17, 18]), (4, [1, 2, 19]), (5, [19, 20, 21, 22, 23, 24, 25, 26, 27]), (6, [1, 2, 28]), (7, [28, 29, 30, 31, 32, 33, 34, 35, 36, 37]), (8, [1, 2, 38]), (9, [38, 39, 40, 41]), (10, [1, 2, 42]), (11, [1, 2, 42, 43, 44, 45, 46, 47, 48, 49, 50]), (12, [10, 52]), (13, [9, 53]), (14, [9, 51, 54, 55, 56, 57, 58, 59, 60, 61, 62, 63, 64, 65]), (15, [1, 2, 66]), (16, [66, 67, 68, 69, 70, 71, 72, 73, 74, 75, 76, 77, 78, 79, 80, 81]), (17, [1, 2, 82]), (18, [82, 83, 84, 85, 86, 87]), (19, [88]), (20, [1, 2, 7, 89]), (21, [89, 90, 91]), (22, [1, 2, 7, 92, 93, 94, 95]), (23, [92, 96, 97, 98, 99, 100, 101, 102, 103]), (24, [1, 2, 7, 104]), (25, [2, 104, 105, 106, 107, 108, 109, 110, 111, 112, 113, 114, 115]), (26, [1, 7, 116]), (27, [1, 7, 116, 117, 118]), (28, [1, 2, 9, 51])]⟩),
  (9, ⟨true, [3], [(0, [1, 4]), (3, [8, 9]), (4, [10, 11, 12]), (5, [13, 14, 15]), (6, [16, 17, 18]), (7, [10, 19, 20]), (8, [21, 22, 23, 24, 25, 26, 27]), (9, [21, 28]), (11, [29, 30, 31]), (13, [32, 35, 36, 37]), (14, [38, 39, 40, 41]), (15, [38, 42, 43, 44, 45, 46, 47, 48, 49, 50, 51, 52, 53, 54, 55, 56]), (16, [57, 58, 59, 60, 61, 62, 63, 64]), (12, [33, 34, 57]), (17, [0, 3, 5, 6, 7, 32, 65])]⟩),
  (10, ⟨true, [3], [(0, [1, 4]), (1, [5]), (2, [8]), (3, [0, 3, 6, 7, 9, 10, 11, 12, 13, 14, 15, 16, 17, 18, 19, 20]), (4, [6, 7, 22]), (5, [0, 3, 21, 23, 24, 25, 26, 27, 28, 29, 30, 31]), (6, [21, 32, 33, 34, 35]), (7, [0, 3, 36, 37, 38, 39, 40, 41, 42, 43, 44, 45, 46, 47, 48, 49, 50, 51, 52, 53, 54, 55, 56, 57, 58, 59]), (8, [0, 3, 36, 60, 61, 62, 63, 64, 65, 66, 67, 68, 69, 70, 71, 72, 73, 74, 75, 76, 77, 78, 79, 80, 81, 82])]⟩),
  (11, ⟨true, [2], [(0, [0, 4, 5, 6]), (1, [8, 9, 10, 11, 12, 13, 14, 15, 16, 17, 18, 19]), (2, [1, 2, 20]), (3, [20, 21, 22]), (4, [23, 24, 25, 26, 27, 28, 29, 30, 31]), (5, [1, 2, 32]), (6, [32, 33, 34]), (7, [35]), (8, [1, 2, 7, 36, 37]), (9, [1, 2, 7, 36, 38, 39, 40, 41, 42, 43, 44, 45]), (10, [23, 47, 48, 49, 50, 51, 52, 53, 54, 55, 56, 57, 58, 59, 60, 61, 62]), (11, [1, 2, 46]), (12, [46, 64, 65, 66, 67, 68, 69]), (13, [1, 2, 63]), (14, [63, 71, 72, 73]), (15, [1, 2, 70, 74, 75, 76, 77, 78, 79, 80]), (16, [70, 82, 83, 84, 85, 86, 87, 88, 89, 90]), (17, [1, 2, 81]), (18, [81, 92, 93, 94, 95, 96, 97, 98, 99, 100, 101, 102, 103]), (19, [1, 2, 91]), (20, [1, 2, 91, 104, 105, 106, 107, 108, 109])]⟩),
  (12, ⟨true, [], [(0, [5, 6]), (1, [11, 12]), (2, [0, 1, 13]), (3, [13, 14, 15]), (4, [0, 1, 16]), (5, [16]), (6, [0, 17, 18, 19, 20, 21, 22, 23, 24, 25, 26, 40]), (7, [27]), (8, [1, 7, 8, 9, 10, 28, 29, 30]), (9, [8, 9, 10, 28, 31, 32, 33, 34]), (10, [35, 36]), (11, [37, 38, 39]), (12, [0, 1, 7, 40, 41])]⟩),
  (13, ⟨true, [], [(0, [4, 5, 6]), (1, [12, 13]), (2, [0, 1, 14]), (3, [14, 15, 16]), (4, [0, 1, 17]), (5, [17]), (7, [18, 19, 20]), (9, [1, 21, 24, 25, 26, 27, 28, 29, 30, 31, 32, 33]), (10, [34]), (11, [0, 7, 8, 9, 10, 11, 35, 36, 37]), (12, [9, 11, 35, 38]), (13, [10, 39, 40, 41]), (8, [22, 23]), (14, [0, 1, 7, 8, 21, 42])]⟩),
  (14, ⟨true, [], [(0, [2]), (2, [4, 5, 6]), (4, [7, 10, 11, 12, 13, 14, 15, 16, 17, 18, 19, 20, 21, 22, 23, 24]), (5, [0, 3, 25]), (3, [8, 9, 25]), (6, [0, 3, 7])]⟩),
  (15, ⟨true, [1], [(0, [0, 2]), (1, [1, 3, 4, 5, 6, 7, 8, 9, 10, 11, 12, 13, 14, 15, 16, 17, 18, 19, 20, 21, 22, 23, 24, 25, 26, 27, 28, 29, 30])]⟩),
  (16, ⟨true, [1], [(0, [0, 2]), (1, [4, 5, 6, 7, 8, 9, 10, 11, 12]), (2, [1, 3]), (3, [1, 3, 14, 15, 16, 17]), (4, [13]), (5, [13])]⟩),
  (17, ⟨true, [], [(0, [2]), (1, [0, 5]), (3, [9, 10, 11]), (4, [4, 12, 13, 14, 15, 16, 17, 18, 19, 20]), (5, [6, 7, 8, 21]), (6, [21, 22]), (7, [6, 7, 8, 9])]⟩)]
def eqL : Nat → Bool := fun t => ([] : List Nat).contains t
noncomputable def cfg : Cfg := ⟨Try.prog, annOf annL, eqL, fun _ => none, fun _ => none⟩
theorem okAll : annL.all (fnOk Try.prog) = true := by kernel_rfl
theorem eqsAll : ∀ t, eqL t = true → Try.prog.stoodInHeld t = false ∧ Try.prog.eqGuardType Try.prog.depth t = false := by
  intro t h; simp [eqL] at h
theorem sureC : SureC cfg := ⟨eqsAll, code_of okAll, (fun F _ _ f g h => by cases h), Try.checked.mixed⟩
theorem covAll : coverAll Try.prog = true := by kernel_rfl
noncomputable def cfgR (ro : Nat → Option (List AVal)) : Cfg := { cfg with ro := ro }
section
variable {ro : Nat → Option (List AVal)}
@[simp] theorem cfgP : (cfgR ro).P = Try.prog := rfl
@[simp] theorem cfgRo : (cfgR ro).ro = ro := rfl
@[simp] theorem cfgEq : (cfgR ro).eqOk = eqL := rfl
theorem cfgPrim (f : Nat) : (cfgR ro).prim f = none := rfl
@[simp] theorem ann2 : (cfgR ro).ann 2 = ⟨true, [], [(0, [0])]⟩ := rfl
@[simp] theorem ann3 : (cfgR ro).ann 3 = ⟨true, [6], [(0, [4]), (1, [11]), (2, [0, 1, 12]), (3, [12, 13, 14, 15, 16, 17, 18, 19]), (4, [0, 1, 20]), (5, [20, 21]), (7, [25, 26, 27, 28]), (8, [7, 8, 29, 30, 31, 32, 33, 34, 35, 36]), (9, [9, 37]), (10, [6, 38, 39, 40, 41]), (11, [0, 5, 42, 43, 44, 45, 46, 47, 48]), (12, [1, 10, 22, 23, 24, 49]), (13, [10, 49, 50]), (14, [5, 6, 38, 51]), (15, [0, 1, 22, 23, 24, 25])]⟩ := rfl
@[simp] theorem ann4 : (cfgR ro).ann 4 = ⟨true, [7], [(0, [4]), (1, [20]), (2, [0, 1, 21]), (3, [21, 22, 23, 24, 25, 26, 27, 28, 29, 30, 31]), (4, [0, 1, 32]), (5, [32, 33, 34]), (8, [38, 39, 40, 41]), (9, [7, 42, 43, 44, 45, 46, 47, 48]), (10, [6, 49, 50, 51, 52, 53, 54, 55, 56, 57, 58]), (11, [8, 9, 10, 11, 12, 13, 59, 60, 61, 62, 63, 64, 65, 66, 67, 68, 69, 70]), (12, [0, 1, 5, 35, 36, 37, 71]), (13, [71, 72]), (14, [0, 35, 36, 37, 38, 73, 74, 75, 76, 77, 78, 79]), (15, [1, 5, 80, 81, 82, 83, 84, 85, 86]), (16, [14, 15, 16, 17, 18, 19, 87, 88, 89, 90, 91, 92, 93, 94, 95, 96, 97, 98, 99])]⟩ := rfl
@[simp] theorem ann5 : (cfgR ro).ann 5 = ⟨true, [], [(0, [0]), (1, [1, 2, 3])]⟩ := rfl
@[simp] theorem ann6 : (cfgR ro).ann 6 = ⟨true, [4], [(0, [2]), (3, [8, 9, 10]), (4, [4, 11, 12, 13]), (5, [0, 5, 6, 7, 14]), (6, [14, 15]), (7, [0, 5, 6, 7, 8, 16, 17, 18])]⟩ := rfl
@[simp] theorem ann7 : (cfgR ro).ann 7 = ⟨true, [5], [(0, [2]), (2, [0]), (4, [9, 10, 11]), (5, [5, 12, 13, 14, 15, 16, 17, 18, 19, 20, 21, 22, 23, 24, 25]), (6, [26]), (7, [3, 6, 7, 8, 9, 27])]⟩ := rfl
@[simp] theorem ann8 : (cfgR ro).ann 8 = ⟨true, [2], [(0, [0, 4, 5, 6]), (1, [8]), (2, [11]), (3, [9, 10, 12, 13, 14, 15, 16, 17, 18]), (4, [1, 2, 19]), (5, [19, 20, 21, 22, 23, 24, 25, 26, 27]), (6, [1, 2, 28]), (7, [28, 29, 30, 31, 32, 33, 34, 35, 36, 37]), (8, [1, 2, 38]), (9, [38, 39, 40, 41]), (10, [1, 2, 42]), (11, [1, 2, 42, 43, 44, 45, 46, 47, 48, 49, 50]), (12, [10, 52]), (13, [9, 53]), (14, [9, 51, 54, 55, 56, 57, 58, 59, 60, 61, 62, 63, 64, 65]), (15, [1, 2, 66]), (16, [66, 67, 68, 69, 70, 71, 72, 73, 74, 75, 76, 77, 78, 79, 80, 81]), (17, [1, 2, 82]), (18, [82, 83, 84, 85, 86, 87]), (19, [88]), (20, [1, 2, 7, 89]), (21, [89, 90, 91]), (22, [1, 2, 7, 92, 93, 94, 95]), (23, [92, 96, 97, 98, 99, 100, 101, 102, 103]), (24, [1, 2, 7, 104]), (25, [2, 104, 105, 106, 107, 108, 109, 110, 111, 112, 113, 114, 115]), (26, [1, 7, 116]), (27, [1, 7, 116, 117, 118]), (28, [1, 2, 9, 51])]⟩ := rfl
@[simp] theorem ann9 : (cfgR ro).ann 9 = ⟨true, [3], [(0, [1, 4]), (3, [8, 9]), (4, [10, 11, 12]), (5, [13, 14, 15]), (6, [16, 17, 18]), (7, [10, 19, 20]), (8, [21, 22, 23, 24, 25, 26, 27]), (9, [21, 28]), (11, [29, 30, 31]), (13, [32, 35, 36, 37]), (14, [38, 39, 40, 41]), (15, [38, 42, 43, 44, 45, 46, 47, 48, 49, 50, 51, 52, 53, 54, 55, 56]), (16, [57, 58, 59, 60, 61, 62, 63, 64]), (12, [33, 34, 57]), (17, [0, 3, 5, 6, 7, 32, 65])]⟩ := rfl
@[simp] theorem ann10 : (cfgR ro).ann 10 = ⟨true, [3], [(0, [1, 4]), (1, [5]), (2, [8]), (3, [0, 3, 6, 7, 9, 10, 11, 12, 13, 14, 15, 16, 17, 18, 19, 20]), (4, [6, 7, 22]), (5, [0, 3, 21, 23, 24, 25, 26, 27, 28, 29, 30, 31]), (6, [21, 32, 33, 34, 35]), (7, [0, 3, 36, 37, 38, 39, 40, 41, 42, 43, 44, 45, 46, 47, 48, 49, 50, 51, 52, 53, 54, 55, 56, 57, 58, 59]), (8, [0, 3, 36, 60, 61, 62, 63, 64, 65, 66, 67, 68, 69, 70, 71, 72, 73, 74, 75, 76, 77, 78, 79, 80, 81, 82])]⟩ := rfl
@[simp] theorem ann11 : (cfgR ro).ann 11 = ⟨true, [2], [(0, [0, 4, 5, 6]), (1, [8, 9, 10, 11, 12, 13, 14, 15, 16, 17, 18, 19]), (2, [1, 2, 20]), (3, [20, 21, 22]), (4, [23, 24, 25, 26, 27, 28, 29, 30, 31]), (5, [1, 2, 32]), (6, [32, 33, 34]), (7, [35]), (8, [1, 2, 7, 36, 37]), (9, [1, 2, 7, 36, 38, 39, 40, 41, 42, 43, 44, 45]), (10, [23, 47, 48, 49, 50, 51, 52, 53, 54, 55, 56, 57, 58, 59, 60, 61, 62]), (11, [1, 2, 46]), (12, [46, 64, 65, 66, 67, 68, 69]), (13, [1, 2, 63]), (14, [63, 71, 72, 73]), (15, [1, 2, 70, 74, 75, 76, 77, 78, 79, 80]), (16, [70, 82, 83, 84, 85, 86, 87, 88, 89, 90]), (17, [1, 2, 81]), (18, [81, 92, 93, 94, 95, 96, 97, 98, 99, 100, 101, 102, 103]), (19, [1, 2, 91]), (20, [1, 2, 91, 104, 105, 106, 107, 108, 109])]⟩ := rfl
@[simp] theorem ann12 : (cfgR ro).ann 12 = ⟨true, [], [(0, [5, 6]), (1, [11, 12]), (2, [0, 1, 13]), (3, [13, 14, 15]), (4, [0, 1, 16]), (5, [16]), (6, [0, 17, 18, 19, 20, 21, 22, 23, 24, 25, 26, 40]), (7, [27]), (8, [1, 7, 8, 9, 10, 28, 29, 30]), (9, [8, 9, 10, 28, 31, 32, 33, 34]), (10, [35, 36]), (11, [37, 38, 39]), (12, [0, 1, 7, 40, 41])]⟩ := rfl
@[simp] theorem ann13 : (cfgR ro).ann 13 = ⟨true, [], [(0, [4, 5, 6]), (1, [12, 13]), (2, [0, 1, 14]), (3, [14, 15, 16]), (4, [0, 1, 17]), (5, [17]), (7, [18, 19, 20]), (9, [1, 21, 24, 25, 26, 27, 28, 29, 30, 31, 32, 33]), (10, [34]), (11, [0, 7, 8, 9, 10, 11, 35, 36, 37]), (12, [9, 11, 35, 38]), (13, [10, 39, 40, 41]), (8, [22, 23]), (14, [0, 1, 7, 8, 21, 42])]⟩ := rfl
@[simp] theorem ann14 : (cfgR ro).ann 14 = ⟨true, [], [(0, [2]), (2, [4, 5, 6]), (4, [7, 10, 11, 12, 13, 14, 15, 16, 17, 18, 19, 20, 21, 22, 23, 24]), (5, [0, 3, 25]), (3, [8, 9, 25]), (6, [0, 3, 7])]⟩ := rfl
@[simp] theorem ann15 : (cfgR ro).ann 15 = ⟨true, [1], [(0, [0, 2]), (1, [1, 3, 4, 5, 6, 7, 8, 9, 10, 11, 12, 13, 14, 15, 16, 17, 18, 19, 20, 21, 22, 23, 24, 25, 26, 27, 28, 29, 30])]⟩ := rfl
@[simp] theorem ann16 : (cfgR ro).ann 16 = ⟨true, [1], [(0, [0, 2]), (1, [4, 5, 6, 7, 8, 9, 10, 11, 12]), (2, [1, 3]), (3, [1, 3, 14, 15, 16, 17]), (4, [13]), (5, [13])]⟩ := rfl
@[simp] theorem ann17 : (cfgR ro).ann 17 = ⟨true, [], [(0, [2]), (1, [0, 5]), (3, [9, 10, 11]), (4, [4, 12, 13, 14, 15, 16, 17, 18, 19, 20]), (5, [6, 7, 8, 21]), (6, [21, 22]), (7, [6, 7, 8, 9])]⟩ := rfl
end
@[simp] theorem sz3 : sizeR Try.prog 3 = .ok 1 := by kernel_rfl
@[simp] theorem ag3 : isAggR Try.prog 3 = .ok false := by kernel_rfl
@[simp] theorem zv3 : zeroV Try.prog 3 = .ok (.int .i64 0) := by kernel_rfl
@[simp] theorem zc3 : zeroCellsR Try.prog 3 = .ok [.int .i64 0] := by kernel_rfl
@[simp] theorem un3 : undR Try.prog 3 = .ok (.int .i64) := by kernel_rfl
@[simp] theorem sz4 : sizeR Try.prog 4 = .ok 1 := by kernel_rfl
@[simp] theorem ag4 : isAggR Try.prog 4 = .ok false := by kernel_rfl
@[simp] theorem zv4 : zeroV Try.prog 4 = .ok (.bool false) := by kernel_rfl
@[simp] theorem zc4 : zeroCellsR Try.prog 4 = .ok [.bool false] := by kernel_rfl
@[simp] theorem un4 : undR Try.prog 4 = .ok .bool := by kernel_rfl
@[simp] theorem nm4 : notMake Try.prog (some 4) = .ok () := by kernel_rfl
@[simp] theorem sz5 : sizeR Try.prog 5 = .ok 1 := by kernel_rfl
@[simp] theorem ag5 : isAggR Try.prog 5 = .ok false := by kernel_rfl
@[simp] theorem zv5 : zeroV Try.prog 5 = .ok (.int .u8 0) := by kernel_rfl
@[simp] theorem zc5 : zeroCellsR Try.prog 5 = .ok [.int .u8 0] := by kernel_rfl
@[simp] theorem un5 : undR Try.prog 5 = .ok (.int .u8) := by kernel_rfl
@[simp] theorem sz9 : sizeR Try.prog 9 = .ok 1 := by kernel_rfl
@[simp] theorem ag9 : isAggR Try.prog 9 = .ok false := by kernel_rfl
@[simp] theorem zv9 : zeroV Try.prog 9 = .ok (.str []) := by kernel_rfl
@[simp] theorem zc9 : zeroCellsR Try.prog 9 = .ok [.str []] := by kernel_rfl
@[simp] theorem un9 : undR Try.prog 9 = .ok .string := by kernel_rfl
@[simp] theorem nm9 : notMake Try.prog (some 9) = .ok () := by kernel_rfl
@[simp] theorem sz22 : sizeR Try.prog 22 = .ok 1 := by kernel_rfl
@[simp] theorem ag22 : isAggR Try.prog 22 = .ok false := by kernel_rfl
@[simp] theorem zv22 : zeroV Try.prog 22 = .ok (.nils) := by kernel_rfl
@[simp] theorem zc22 : zeroCellsR Try.prog 22 = .ok [.nils] := by kernel_rfl
@[simp] theorem un22 : undR Try.prog 22 = .ok (.slice 33) := by kernel_rfl
@[simp] theorem el22 : elemSl Try.prog 22 = .ok 33 := by kernel_rfl
@[simp] theorem nm22 : notMake Try.prog (some 22) = .ok () := by kernel_rfl
@[simp] theorem sz25 : sizeR Try.prog 25 = .ok 1 := by kernel_rfl
@[simp] theorem ag25 : isAggR Try.prog 25 = .ok false := by kernel_rfl
@[simp] theorem zv25 : zeroV Try.prog 25 = .ok (.nils) := by kernel_rfl
@[simp] theorem zc25 : zeroCellsR Try.prog 25 = .ok [.nils] := by kernel_rfl
@[simp] theorem un25 : undR Try.prog 25 = .ok (.slice 28) := by kernel_rfl
@[simp] theorem el25 : elemSl Try.prog 25 = .ok 28 := by kernel_rfl
@[simp] theorem nm25 : notMake Try.prog (some 25) = .ok () := by kernel_rfl
@[simp] theorem sz28 : sizeR Try.prog 28 = .ok 5 := by kernel_rfl
@[simp] theorem ag28 : isAggR Try.prog 28 = .ok true := by kernel_rfl
@[simp] theorem zv28 : zeroV Try.prog 28 = .ok (.agg [.int .i64 0, .int .i64 0, .int .i64 0, .int .i64 0, .str []]) := by kernel_rfl
@[simp] theorem zc28 : zeroCellsR Try.prog 28 = .ok [.int .i64 0, .int .i64 0, .int .i64 0, .int .i64 0, .str []] := by kernel_rfl
@[simp] theorem nm28 : notMake Try.prog (some 28) = .ok () := by kernel_rfl
@[simp] theorem sz33 : sizeR Try.prog 33 = .ok 5 := by kernel_rfl
@[simp] theorem ag33 : isAggR Try.prog 33 = .ok true := by kernel_rfl
@[simp] theorem zv33 : zeroV Try.prog 33 = .ok (.agg [.int .i64 0, .int .i64 0, .int .i64 0, .int .i64 0, .str []]) := by kernel_rfl
@[simp] theorem zc33 : zeroCellsR Try.prog 33 = .ok [.int .i64 0, .int .i64 0, .int .i64 0, .int .i64 0, .str []] := by kernel_rfl
@[simp] theorem nm33 : notMake Try.prog (some 33) = .ok () := by kernel_rfl
@[simp] theorem sz35 : sizeR Try.prog 35 = .ok 1 := by kernel_rfl
@[simp] theorem ag35 : isAggR Try.prog 35 = .ok false := by kernel_rfl
@[simp] theorem zv35 : zeroV Try.prog 35 = .ok (.int .i64 0) := by kernel_rfl
@[simp] theorem zc35 : zeroCellsR Try.prog 35 = .ok [.int .i64 0] := by kernel_rfl
@[simp] theorem un35 : undR Try.prog 35 = .ok (.int .i64) := by kernel_rfl
@[simp] theorem sz43 : sizeR Try.prog 43 = .ok 1 := by kernel_rfl
@[simp] theorem ag43 : isAggR Try.prog 43 = .ok false := by kernel_rfl
@[simp] theorem zv43 : zeroV Try.prog 43 = .ok (.nils) := by kernel_rfl
@[simp] theorem zc43 : zeroCellsR Try.prog 43 = .ok [.nils] := by kernel_rfl
@[simp] theorem un43 : undR Try.prog 43 = .ok (.slice 5) := by kernel_rfl
@[simp] theorem el43 : elemSl Try.prog 43 = .ok 5 := by kernel_rfl
@[simp] theorem nm43 : notMake Try.prog (some 43) = .ok () := by kernel_rfl
@[simp] theorem co0 : Try.prog.cellsOf 0 = 1 := by kernel_rfl
@[simp] theorem co3 : Try.prog.cellsOf 3 = 1 := by kernel_rfl
@[simp] theorem co4 : Try.prog.cellsOf 4 = 1 := by kernel_rfl
@[simp] theorem co5 : Try.prog.cellsOf 5 = 1 := by kernel_rfl
@[simp] theorem co9 : Try.prog.cellsOf 9 = 1 := by kernel_rfl
@[simp] theorem co22 : Try.prog.cellsOf 22 = 1 := by kernel_rfl
@[simp] theorem co25 : Try.prog.cellsOf 25 = 1 := by kernel_rfl
@[simp] theorem co28 : Try.prog.cellsOf 28 = 5 := by kernel_rfl
@[simp] theorem co29 : Try.prog.cellsOf 29 = 1 := by kernel_rfl
@[simp] theorem co33 : Try.prog.cellsOf 33 = 5 := by kernel_rfl
@[simp] theorem co35 : Try.prog.cellsOf 35 = 1 := by kernel_rfl
@[simp] theorem co36 : Try.prog.cellsOf 36 = 1 := by kernel_rfl
@[simp] theorem co43 : Try.prog.cellsOf 43 = 1 := by kernel_rfl
@[simp] theorem nmN : notMake Try.prog none = .ok () := rfl
@[simp] theorem fa28_0 (x : AVal) : fieldAddrR Try.prog 28 x 0 = addOff x 0 := by kernel_rfl
@[simp] theorem so28_0 : ((fieldOf Try.prog 28 0).bind fun fd => (sizeR Try.prog fd.type).bind fun n => if n = 0 then .err 191 else .ok fd.offset) = .ok 0 := by kernel_rfl
@[simp] theorem fi28_0 (vs : List AVal) : fieldR Try.prog 28 (.agg vs) 0 = partR Try.prog 3 vs 0 := by kernel_rfl
@[simp] theorem fa28_1 (x : AVal) : fieldAddrR Try.prog 28 x 1 = addOff x 1 := by kernel_rfl
@[simp] theorem so28_1 : ((fieldOf Try.prog 28 1).bind fun fd => (sizeR Try.prog fd.type).bind fun n => if n = 0 then .err 191 else .ok fd.offset) = .ok 1 := by kernel_rfl
@[simp] theorem fi28_1 (vs : List AVal) : fieldR Try.prog 28 (.agg vs) 1 = partR Try.prog 3 vs 1 := by kernel_rfl
@[simp] theorem fa28_2 (x : AVal) : fieldAddrR Try.prog 28 x 2 = addOff x 2 := by kernel_rfl
@[simp] theorem so28_2 : ((fieldOf Try.prog 28 2).bind fun fd => (sizeR Try.prog fd.type).bind fun n => if n = 0 then .err 191 else .ok fd.offset) = .ok 2 := by kernel_rfl
@[simp] theorem fi28_2 (vs : List AVal) : fieldR Try.prog 28 (.agg vs) 2 = partR Try.prog 3 vs 2 := by kernel_rfl
@[simp] theorem fa28_3 (x : AVal) : fieldAddrR Try.prog 28 x 3 = addOff x 3 := by kernel_rfl
@[simp] theorem so28_3 : ((fieldOf Try.prog 28 3).bind fun fd => (sizeR Try.prog fd.type).bind fun n => if n = 0 then .err 191 else .ok fd.offset) = .ok 3 := by kernel_rfl
@[simp] theorem fi28_3 (vs : List AVal) : fieldR Try.prog 28 (.agg vs) 3 = partR Try.prog 3 vs 3 := by kernel_rfl
@[simp] theorem fa28_4 (x : AVal) : fieldAddrR Try.prog 28 x 4 = addOff x 4 := by kernel_rfl
@[simp] theorem so28_4 : ((fieldOf Try.prog 28 4).bind fun fd => (sizeR Try.prog fd.type).bind fun n => if n = 0 then .err 191 else .ok fd.offset) = .ok 4 := by kernel_rfl
@[simp] theorem fi28_4 (vs : List AVal) : fieldR Try.prog 28 (.agg vs) 4 = partR Try.prog 9 vs 4 := by kernel_rfl
@[simp] theorem fa33_0 (x : AVal) : fieldAddrR Try.prog 33 x 0 = addOff x 0 := by kernel_rfl
@[simp] theorem so33_0 : ((fieldOf Try.prog 33 0).bind fun fd => (sizeR Try.prog fd.type).bind fun n => if n = 0 then .err 191 else .ok fd.offset) = .ok 0 := by kernel_rfl
@[simp] theorem fi33_0 (vs : List AVal) : fieldR Try.prog 33 (.agg vs) 0 = partR Try.prog 3 vs 0 := by kernel_rfl
@[simp] theorem fa33_1 (x : AVal) : fieldAddrR Try.prog 33 x 1 = addOff x 1 := by kernel_rfl
@[simp] theorem so33_1 : ((fieldOf Try.prog 33 1).bind fun fd => (sizeR Try.prog fd.type).bind fun n => if n = 0 then .err 191 else .ok fd.offset) = .ok 1 := by kernel_rfl
@[simp] theorem fi33_1 (vs : List AVal) : fieldR Try.prog 33 (.agg vs) 1 = partR Try.prog 3 vs 1 := by kernel_rfl
@[simp] theorem fa33_2 (x : AVal) : fieldAddrR Try.prog 33 x 2 = addOff x 2 := by kernel_rfl
@[simp] theorem so33_2 : ((fieldOf Try.prog 33 2).bind fun fd => (sizeR Try.prog fd.type).bind fun n => if n = 0 then .err 191 else .ok fd.offset) = .ok 2 := by kernel_rfl
@[simp] theorem fi33_2 (vs : List AVal) : fieldR Try.prog 33 (.agg vs) 2 = partR Try.prog 3 vs 2 := by kernel_rfl
@[simp] theorem fa33_3 (x : AVal) : fieldAddrR Try.prog 33 x 3 = addOff x 3 := by kernel_rfl
@[simp] theorem so33_3 : ((fieldOf Try.prog 33 3).bind fun fd => (sizeR Try.prog fd.type).bind fun n => if n = 0 then .err 191 else .ok fd.offset) = .ok 3 := by kernel_rfl
@[simp] theorem fi33_3 (vs : List AVal) : fieldR Try.prog 33 (.agg vs) 3 = partR Try.prog 3 vs 3 := by kernel_rfl
@[simp] theorem fa33_4 (x : AVal) : fieldAddrR Try.prog 33 x 4 = addOff x 4 := by kernel_rfl
@[simp] theorem so33_4 : ((fieldOf Try.prog 33 4).bind fun fd => (sizeR Try.prog fd.type).bind fun n => if n = 0 then .err 191 else .ok fd.offset) = .ok 4 := by kernel_rfl
@[simp] theorem fi33_4 (vs : List AVal) : fieldR Try.prog 33 (.agg vs) 4 = partR Try.prog 9 vs 4 := by kernel_rfl
@[simp] theorem bu28 (l : List (Nat × AVal)) : buildR Try.prog 28 l = (fillR (fun i => [(0, 1), (1, 1), (2, 1), (3, 1), (4, 1)][i]?) [.int .i64 0, .int .i64 0, .int .i64 0, .int .i64 0, .str []] l).bind fun cs => .ok (.agg cs) := by kernel_rfl
@[simp] theorem bu33 (l : List (Nat × AVal)) : buildR Try.prog 33 l = (fillR (fun i => [(0, 1), (1, 1), (2, 1), (3, 1), (4, 1)][i]?) [.int .i64 0, .int .i64 0, .int .i64 0, .int .i64 0, .str []] l).bind fun cs => .ok (.agg cs) := by kernel_rfl
theorem inf25 : ∃ i, infoR Try.prog 28 = .ok i ∧ i.size = 5 ∧ i.bytes = 48 := ⟨_, rfl, by kernel_rfl, by kernel_rfl⟩
@[simp] theorem ap25 {ro} (h : AHeap) (xt : Option Nat) (s x : AVal) : appendR (cfgR ro) h 25 xt s x = (notMake Try.prog xt).bind fun _ => (lenA x).bind fun n => (readSl (cfgR ro) h 5 n x).bind fun new => appCore 5 48 h s n new := by
  obtain ⟨i, h1, h2, h3⟩ := inf25
  exact append_core xt s x el25 h1 zc28 h2 h3 (by decide) (by decide) rfl
end Go.Proofs.Ytbcjancmcajpbaa
