/-
  A part of the proof of RopePlays, over the seat Ytbnlhhfobgjeaaa: for every input the law returns true, and the input reads as it did.
-/
import Derived.Test.YtbnlhhfobgjeaaaZe
import Derived.Test.YtbnlhhfobgjeaaaChecked
set_option linter.all false
set_option linter.all false
set_option maxRecDepth 100000
namespace Go.Proofs.Ytbnlhhfobgjeaaa
open Go Go.RowKit Go.Proofs
def annL : List (Nat × FnAnn) := [
  (2, ⟨true, [], [(0, [0])]⟩),
  (3, ⟨true, [], [(0, [4]), (1, [12]), (2, [0, 1, 13]), (3, [13, 14, 15, 16, 17, 18]), (4, [0, 1, 19]), (5, [19, 20, 21]), (10, [24, 25, 26, 27, 28]), (11, [29]), (12, [0, 1, 5, 6, 7, 8, 22, 23, 30]), (13, [30, 31, 32, 33, 34]), (14, [35]), (15, [8, 36, 37]), (16, [8, 36, 38]), (17, [6, 22, 23, 24, 39, 40]), (20, [43, 44]), (21, [45, 46, 47, 48]), (23, [49, 50, 51, 52, 53, 54, 55, 56]), (24, [10, 11, 49, 57, 58, 59, 60, 61, 62, 63, 64, 65, 66, 67, 68, 69, 70, 71, 72, 73, 74]), (25, [0, 1, 5, 7, 9, 41, 42, 75]), (26, [75, 76, 77]), (27, [78]), (28, [0, 1, 5, 7, 9, 41, 42, 43, 79, 80, 81, 82, 83, 84, 85, 86, 87, 88, 89, 90, 91, 92, 93, 94])]⟩),
  (4, ⟨true, [7, 9], [(0, [1, 4]), (1, [11]), (2, [0, 3, 12]), (3, [12, 13, 14, 15, 16, 17, 18]), (4, [0, 3, 19]), (5, [19, 20, 21, 22, 23]), (6, [0]), (8, [27, 28, 29]), (9, [7, 30, 31, 32]), (10, [3, 5, 24, 25, 26, 33]), (11, [33, 34]), (12, [24, 25, 26, 27, 35, 36, 37, 38, 39, 40, 41, 42, 43]), (13, [3, 44, 45, 46, 47, 48, 49]), (14, [50]), (15, [5, 8, 9, 10, 51, 52, 53, 54, 55, 56, 57, 58, 59, 60, 61, 62, 63]), (16, [5, 8, 9, 10, 51, 64, 65, 66, 67, 68, 69, 70, 71, 72, 73, 74, 75, 76, 77, 78, 79, 80, 81, 82, 83, 84])]⟩),
  (5, ⟨true, [5], [(0, [2]), (1, [6]), (2, [0, 7]), (3, [7, 8, 9]), (4, [0, 10]), (5, [10, 11, 12, 13, 14]), (6, [0]), (8, [18, 19, 20]), (9, [5, 21, 22, 23, 24, 25, 26, 27, 28]), (10, [3, 15, 16, 17, 29]), (11, [29, 30]), (12, [3, 15, 16, 17, 18])]⟩),
  (6, ⟨true, [], [(0, [0]), (1, [5, 6]), (2, [7, 8, 9]), (3, [10]), (4, [1, 2, 11]), (5, [11, 12, 13, 14, 15]), (6, [2, 16, 17, 18, 19]), (7, [1, 3, 4, 20, 21, 22, 23, 24, 25, 26, 27, 28, 29, 30, 31, 32, 33, 34, 35, 36, 37, 38])]⟩),
  (7, ⟨true, [5], [(0, [2, 6]), (1, [5, 8, 9, 10, 11, 12]), (3, [21, 22, 23, 24, 25]), (4, [1, 20, 26, 27, 28, 29]), (5, [20, 31, 32]), (6, [1, 30, 33, 34, 35, 36]), (7, [30, 38, 39, 40, 41, 42]), (8, [1, 37, 43, 44, 45]), (2, [1, 13, 14, 15, 16, 17, 18, 19, 37]), (9, [46, 47]), (10, [48, 49, 50, 51, 52, 53, 54, 55, 56, 57, 58, 59, 60, 61, 62, 63, 64, 65]), (11, [66, 67, 68, 69]), (12, [0, 7, 66, 70])]⟩),
  (8, ⟨true, [], [(0, [2]), (1, [0, 3, 4, 5, 6, 7])]⟩),
  (9, ⟨true, [], [(0, [0, 4]), (1, [6, 7, 8, 9, 10]), (2, [11, 12, 13, 14]), (4, [15, 20, 21, 22, 23, 24, 25, 26, 27]), (5, [28, 29, 30, 31, 32, 33, 34, 35, 36, 37, 38, 39]), (3, [16, 17, 18, 19, 28]), (6, [1, 5, 15, 40])]⟩),
  (10, ⟨true, [4, 5], [(0, [0]), (1, [6, 7, 8, 9, 10]), (2, [11, 12, 13, 14]), (4, [15, 20, 21, 22, 23, 24, 25, 26, 27]), (5, [28, 29, 30, 31, 32, 33, 34, 35, 36, 37, 38, 39, 40, 41, 42, 43, 44, 45, 46, 47, 48, 49, 50]), (3, [16, 17, 18, 19, 28]), (6, [1, 5, 15, 51])]⟩),
  (11, ⟨true, [], [(0, [2]), (1, [3, 4, 5, 6]), (2, [0, 7, 8, 9, 10, 11, 12]), (3, [7, 13, 14, 15, 16, 17, 18, 19, 20, 21, 22, 23, 24, 25, 26, 27]), (4, [28, 29, 30, 31, 32]), (5, [0, 28, 33, 34, 35, 36])]⟩),
  (12, ⟨true, [], [(0, [2]), (1, [0, 3, 4, 5, 6, 7])]⟩),
  (13, ⟨true, [2], [(1, [0, 3, 4, 5, 6, 7])]⟩),
  (14, ⟨true, [4], [(0, [2]), (3, [8, 9, 10]), (4, [4, 11, 12, 13]), (5, [0, 5, 6, 7, 14]), (6, [14, 15]), (7, [0, 5, 6, 7, 8, 16, 17, 18])]⟩),
  (15, ⟨true, [3], [(0, [1, 4]), (1, [5, 6, 7, 8, 9, 10, 11, 12, 13, 14, 15, 16, 17, 18, 19, 20, 21]), (2, [0, 3, 22, 23, 24, 25, 26, 27, 28]), (3, [22, 29, 30, 31, 32, 33, 34, 35, 36, 37, 38, 39, 40]), (4, [0, 3, 41]), (5, [41, 42]), (6, [45]), (7, [43, 44, 46, 47, 48, 49, 50, 51, 52, 53, 54, 55, 56, 57, 58, 59, 60, 61]), (8, [0, 3, 62, 63, 64, 65, 66, 67, 68, 69, 70, 71, 72, 73]), (9, [43, 44, 75]), (10, [74, 76, 77, 78, 79, 80, 81, 82, 83, 84, 85, 86, 87, 88]), (11, [89, 90, 91, 92, 93, 94, 95, 96, 97, 98, 99, 100, 101, 102, 103, 104, 105, 106, 107, 108, 109]), (12, [0, 3, 110, 111, 112, 113, 114, 115, 116, 117, 118, 119]), (13, [0, 3, 74])]⟩),
  (16, ⟨true, [5, 6, 8, 9], [(0, [4]), (2, [10, 11, 12, 13]), (3, [14, 15, 16, 17, 18, 19, 20, 21, 22, 23]), (4, [0, 1, 6, 7, 24, 25, 26]), (5, [0, 24, 27, 28, 29, 30, 31, 32, 33, 34]), (6, [35, 36, 37, 38, 39, 40, 41, 42, 43]), (7, [8, 44, 45, 46, 47, 48]), (8, [44, 49, 50, 51, 52, 53, 54, 55, 56, 57]), (9, [58, 59, 60]), (10, [8, 9, 61, 62, 63, 64, 65, 66]), (11, [1, 6, 7, 8, 9, 61, 67, 68])]⟩),
  (17, ⟨true, [2], [(0, [0, 3]), (1, [1, 2, 4, 5, 6, 7, 8])]⟩),
  (18, ⟨true, [], [(0, [4]), (3, [7, 8, 9]), (5, [10, 13, 14, 15, 16, 17, 18, 19]), (6, [20, 21]), (7, [0, 1, 5, 6, 22, 23]), (4, [11, 12, 22]), (8, [0, 1, 5, 6, 10])]⟩),
  (19, ⟨true, [], [(0, [2]), (3, [5, 6, 7]), (5, [8, 11, 12, 13, 14, 15, 16]), (4, [9, 10]), (6, [0, 3, 4, 8, 17])]⟩),
  (20, ⟨true, [], [(0, [2]), (1, [7, 8]), (2, [0, 9]), (3, [9, 10, 11, 12]), (5, [16, 17, 18, 19]), (6, [20, 21, 22, 23, 24, 25, 26, 27, 28, 29, 30, 31, 32, 33, 34, 35, 36, 37, 38, 39, 40, 41, 42, 43, 44, 45, 46, 47, 48, 49, 50, 51, 52, 53, 54, 55, 56, 57, 58, 59, 60, 61, 62, 63, 64, 65, 66]), (7, [0, 3, 4, 13, 14, 15, 67]), (8, [4, 67, 68, 69, 70, 71]), (9, [3, 5, 6, 72, 73, 74, 75, 76, 77, 78, 79, 80, 81, 82, 83, 84, 85, 86, 87, 88, 89, 90, 91, 92, 93, 94, 95, 96, 97, 98, 99, 100, 101, 102, 103, 104, 105, 106, 107, 108, 109, 110, 111, 112, 113, 114, 115, 116, 117, 118, 119, 120, 121, 122, 123, 124, 125, 126, 127, 128]), (10, [0, 13, 14, 15, 129]), (11, [129, 130]), (12, [0, 13, 14, 15, 16])]⟩),
  (21, ⟨true, [], [(0, [2]), (1, [4, 5, 6, 7, 8, 9, 10]), (2, [0, 11, 12, 13, 14]), (3, [15, 16, 17, 18, 19]), (4, [3, 20, 21, 22, 23])]⟩),
  (22, ⟨true, [], [(0, [6, 7, 8, 9]), (1, [2]), (2, [0, 1, 10, 11, 12, 13, 14]), (3, [0, 1, 10, 15, 16, 17, 18])]⟩),
  (23, ⟨true, [], [(0, [2]), (1, [3, 4, 5, 6, 7, 8, 9, 10]), (2, [11, 12, 13, 14, 15]), (3, [0, 11, 16])]⟩),
  (24, ⟨true, [], [(0, [2]), (2, [3, 8, 9]), (1, [4, 5, 6, 7])]⟩),
  (25, ⟨true, [], [(0, [5, 6, 7, 8]), (1, [0, 9, 10, 11, 12]), (2, [13, 14, 15, 16, 17]), (3, [18, 19, 20, 21, 22, 23, 24, 25]), (4, [26, 27, 28, 29]), (5, [30, 31, 32, 33, 34, 35, 36, 37]), (6, [30, 38, 39, 40, 41]), (7, [18, 42, 43, 44, 45, 46, 47, 48]), (8, [49, 50, 51, 52]), (9, [53, 54, 55, 56, 57, 58, 59, 60]), (10, [53, 61, 62, 63, 64]), (11, [65, 66, 67, 68]), (12, [4, 69, 70]), (13, [1, 71, 72])]⟩),
  (26, ⟨true, [], [(0, [2]), (1, [3]), (2, [0, 4]), (3, [0, 4, 5, 6, 7, 8])]⟩),
  (27, ⟨true, [2, 3], [(1, [4]), (2, [0, 5]), (3, [3, 6]), (4, [0, 5, 7, 8, 9, 10])]⟩),
  (28, ⟨true, [], [(0, [6]), (2, [10]), (3, [11, 12, 13, 14, 15, 16, 17, 18]), (4, [7, 11, 19, 20, 21, 22, 23, 24, 25, 26]), (5, [27]), (6, [0, 1, 2, 8, 28]), (7, [28, 29, 30, 31, 32, 33, 34, 35, 36, 37]), (8, [8, 9, 38, 39, 40, 41, 42, 43, 44, 45, 46, 47, 48, 49, 50, 51, 52]), (9, [0, 1, 2, 53, 54, 55, 56, 57, 58, 59, 60, 61, 62, 63])]⟩),
  (29, ⟨true, [5], [(0, [0, 2]), (1, [5, 6, 7, 8, 9]), (2, [1, 10, 11])]⟩),
  (30, ⟨true, [], [(0, [6]), (2, [0, 8, 9, 10]), (3, [1, 2, 11, 12, 13, 14]), (4, [7, 15])]⟩),
  (31, ⟨true, [], [(0, [5, 6, 7, 8, 9, 10, 11, 12, 13, 14, 15, 16, 17, 18, 19, 20, 21, 22, 23, 24, 25, 26, 27, 28, 29, 30, 31, 32, 33]), (1, [4, 34, 35, 36, 37, 38, 39]), (2, [4, 41, 42, 43, 44, 45]), (3, [40, 46, 47, 48, 49, 50, 51]), (4, [0, 40, 52, 53, 54]), (5, [55, 56, 57, 58, 59]), (6, [1, 60, 61, 62])]⟩),
  (32, ⟨true, [], [(0, [4]), (2, [6, 7, 8, 9, 10]), (3, [0, 1, 5, 11, 12, 13, 14, 15, 16])]⟩),
  (33, ⟨true, [], [(0, [2]), (1, [3, 4, 5, 6, 7, 8, 9, 10, 11, 12, 13, 14, 15, 16, 17, 18, 19, 20, 21, 22, 23, 24, 25, 26, 27, 28, 29, 30, 31, 32, 33, 34, 35, 36, 37, 38, 39, 40, 41, 42, 43, 44, 45, 46, 47]), (2, [0, 48]), (3, [48, 49, 50, 51, 52, 53]), (4, [0, 54, 55, 56, 57, 58, 59, 60, 61, 62, 63, 64, 65, 66, 67, 68]), (5, [0, 54, 69, 70, 71, 72, 73, 74, 75, 76, 77, 78, 79, 80, 81, 82, 83, 84, 85, 86, 87, 88, 89, 90, 91, 92, 93, 94, 95, 96, 97, 98, 99, 100])]⟩),
  (34, ⟨true, [2], [(1, [0, 3, 4, 5, 6])]⟩),
  (35, ⟨true, [], [(0, [4]), (1, [7, 8, 9, 10]), (2, [0, 11, 12, 13, 14, 15, 16, 17]), (3, [1, 5, 18]), (4, [18, 19, 20, 21, 22, 23]), (5, [24, 25]), (6, [6, 26, 27, 28, 29, 30]), (7, [26, 31, 32]), (8, [6, 33, 34, 35, 36, 37, 38, 39, 40, 41]), (9, [1, 5, 6, 33, 42])]⟩),
  (36, ⟨true, [], [(0, [2]), (1, [3, 4, 5, 6]), (2, [0, 7, 8, 9, 10, 11, 12]), (3, [7, 13, 14, 15, 16, 17, 18, 19, 20, 21, 22, 23, 24, 25, 26, 27]), (4, [28, 29, 30, 31, 32]), (5, [0, 28, 33, 34, 35, 36])]⟩),
  (37, ⟨true, [], [(0, [2, 3, 4, 5, 6, 7, 8, 9, 10, 11, 12, 13, 14, 15, 16]), (1, [0, 17, 18, 19, 20, 21, 22, 23, 24, 25, 26, 27, 28, 29, 30, 31, 32, 33, 34, 35, 36, 37, 38, 39])]⟩),
  (38, ⟨true, [], [(0, [7, 8, 9, 10]), (1, [11]), (2, [12, 13, 14, 15, 16]), (4, [12, 22, 23]), (5, [0, 1, 2, 6, 21, 24, 25, 26, 27]), (6, [0, 1, 21, 29, 30, 31, 32, 33, 34]), (7, [2, 6, 28, 35, 36, 37, 38]), (3, [2, 6, 17, 18, 19, 20, 28])]⟩),
  (39, ⟨true, [], [(0, [6]), (2, [8, 9, 10, 11, 12]), (3, [2, 13, 14, 15, 16]), (4, [0, 1, 7, 17, 18, 19, 20, 21])]⟩),
  (40, ⟨true, [], [(0, [2]), (1, [0, 3, 4, 5, 6, 7])]⟩),
  (41, ⟨true, [], [(0, [2]), (1, [3, 4, 5, 6, 7, 8, 9, 10]), (2, [11, 12, 13, 14, 15]), (3, [0, 11, 16])]⟩),
  (57, ⟨true, [1, 2], [(0, [0]), (1, [1, 3, 4, 5])]⟩),
  (58, ⟨true, [2, 3, 4], [(0, [0, 1]), (1, [2, 3, 5, 6, 7, 8, 9, 10])]⟩)]
def eqL : Nat → Bool := fun t => ([] : List Nat).contains t
noncomputable def cfg : Cfg := ⟨Try.prog, annOf annL, eqL, fun _ => none, fun _ => none⟩
theorem okAll : annL.all (fnOk Try.prog) = true := by kernel_rfl
theorem eqsAll : ∀ t, eqL t = true → Try.prog.stoodInHeld t = false ∧ Try.prog.eqGuardType Try.prog.depth t = false := by
  intro t h; simp [eqL] at h
theorem sureC : SureC cfg := ⟨eqsAll, code_of okAll, (fun F _ _ f g h => by cases h), Try.checked.mixed⟩
theorem covAll : coverAll Try.prog = true := by kernel_rfl
noncomputable def cfgR (ro : Nat → Option (List AVal)) : Cfg := { cfg with ro := ro }
section
variable {ro : Nat → Option (List AVal)}
@[simp] theorem cfgP : (cfgR ro).P = Try.prog := rfl
@[simp] theorem cfgRo : (cfgR ro).ro = ro := rfl
@[simp] theorem cfgEq : (cfgR ro).eqOk = eqL := rfl
theorem cfgPrim (f : Nat) : (cfgR ro).prim f = none := rfl
@[simp] theorem ann2 : (cfgR ro).ann 2 = ⟨true, [], [(0, [0])]⟩ := rfl
@[simp] theorem ann3 : (cfgR ro).ann 3 = ⟨true, [], [(0, [4]), (1, [12]), (2, [0, 1, 13]), (3, [13, 14, 15, 16, 17, 18]), (4, [0, 1, 19]), (5, [19, 20, 21]), (10, [24, 25, 26, 27, 28]), (11, [29]), (12, [0, 1, 5, 6, 7, 8, 22, 23, 30]), (13, [30, 31, 32, 33, 34]), (14, [35]), (15, [8, 36, 37]), (16, [8, 36, 38]), (17, [6, 22, 23, 24, 39, 40]), (20, [43, 44]), (21, [45, 46, 47, 48]), (23, [49, 50, 51, 52, 53, 54, 55, 56]), (24, [10, 11, 49, 57, 58, 59, 60, 61, 62, 63, 64, 65, 66, 67, 68, 69, 70, 71, 72, 73, 74]), (25, [0, 1, 5, 7, 9, 41, 42, 75]), (26, [75, 76, 77]), (27, [78]), (28, [0, 1, 5, 7, 9, 41, 42, 43, 79, 80, 81, 82, 83, 84, 85, 86, 87, 88, 89, 90, 91, 92, 93, 94])]⟩ := rfl
@[simp] theorem ann4 : (cfgR ro).ann 4 = ⟨true, [7, 9], [(0, [1, 4]), (1, [11]), (2, [0, 3, 12]), (3, [12, 13, 14, 15, 16, 17, 18]), (4, [0, 3, 19]), (5, [19, 20, 21, 22, 23]), (6, [0]), (8, [27, 28, 29]), (9, [7, 30, 31, 32]), (10, [3, 5, 24, 25, 26, 33]), (11, [33, 34]), (12, [24, 25, 26, 27, 35, 36, 37, 38, 39, 40, 41, 42, 43]), (13, [3, 44, 45, 46, 47, 48, 49]), (14, [50]), (15, [5, 8, 9, 10, 51, 52, 53, 54, 55, 56, 57, 58, 59, 60, 61, 62, 63]), (16, [5, 8, 9, 10, 51, 64, 65, 66, 67, 68, 69, 70, 71, 72, 73, 74, 75, 76, 77, 78, 79, 80, 81, 82, 83, 84])]⟩ := rfl
@[simp] theorem ann5 : (cfgR ro).ann 5 = ⟨true, [5], [(0, [2]), (1, [6]), (2, [0, 7]), (3, [7, 8, 9]), (4, [0, 10]), (5, [10, 11, 12, 13, 14]), (6, [0]), (8, [18, 19, 20]), (9, [5, 21, 22, 23, 24, 25, 26, 27, 28]), (10, [3, 15, 16, 17, 29]), (11, [29, 30]), (12, [3, 15, 16, 17, 18])]⟩ := rfl
@[simp] theorem ann6 : (cfgR ro).ann 6 = ⟨true, [], [(0, [0]), (1, [5, 6]), (2, [7, 8, 9]), (3, [10]), (4, [1, 2, 11]), (5, [11, 12, 13, 14, 15]), (6, [2, 16, 17, 18, 19]), (7, [1, 3, 4, 20, 21, 22, 23, 24, 25, 26, 27, 28, 29, 30, 31, 32, 33, 34, 35, 36, 37, 38])]⟩ := rfl
@[simp] theorem ann7 : (cfgR ro).ann 7 = ⟨true, [5], [(0, [2, 6]), (1, [5, 8, 9, 10, 11, 12]), (3, [21, 22, 23, 24, 25]), (4, [1, 20, 26, 27, 28, 29]), (5, [20, 31, 32]), (6, [1, 30, 33, 34, 35, 36]), (7, [30, 38, 39, 40, 41, 42]), (8, [1, 37, 43, 44, 45]), (2, [1, 13, 14, 15, 16, 17, 18, 19, 37]), (9, [46, 47]), (10, [48, 49, 50, 51, 52, 53, 54, 55, 56, 57, 58, 59, 60, 61, 62, 63, 64, 65]), (11, [66, 67, 68, 69]), (12, [0, 7, 66, 70])]⟩ := rfl
@[simp] theorem ann8 : (cfgR ro).ann 8 = ⟨true, [], [(0, [2]), (1, [0, 3, 4, 5, 6, 7])]⟩ := rfl
@[simp] theorem ann9 : (cfgR ro).ann 9 = ⟨true, [], [(0, [0, 4]), (1, [6, 7, 8, 9, 10]), (2, [11, 12, 13, 14]), (4, [15, 20, 21, 22, 23, 24, 25, 26, 27]), (5, [28, 29, 30, 31, 32, 33, 34, 35, 36, 37, 38, 39]), (3, [16, 17, 18, 19, 28]), (6, [1, 5, 15, 40])]⟩ := rfl
@[simp] theorem ann10 : (cfgR ro).ann 10 = ⟨true, [4, 5], [(0, [0]), (1, [6, 7, 8, 9, 10]), (2, [11, 12, 13, 14]), (4, [15, 20, 21, 22, 23, 24, 25, 26, 27]), (5, [28, 29, 30, 31, 32, 33, 34, 35, 36, 37, 38, 39, 40, 41, 42, 43, 44, 45, 46, 47, 48, 49, 50]), (3, [16, 17, 18, 19, 28]), (6, [1, 5, 15, 51])]⟩ := rfl
@[simp] theorem ann11 : (cfgR ro).ann 11 = ⟨true, [], [(0, [2]), (1, [3, 4, 5, 6]), (2, [0, 7, 8, 9, 10, 11, 12]), (3, [7, 13, 14, 15, 16, 17, 18, 19, 20, 21, 22, 23, 24, 25, 26, 27]), (4, [28, 29, 30, 31, 32]), (5, [0, 28, 33, 34, 35, 36])]⟩ := rfl
@[simp] theorem ann12 : (cfgR ro).ann 12 = ⟨true, [], [(0, [2]), (1, [0, 3, 4, 5, 6, 7])]⟩ := rfl
@[simp] theorem ann13 : (cfgR ro).ann 13 = ⟨true, [2], [(1, [0, 3, 4, 5, 6, 7])]⟩ := rfl
@[simp] theorem ann14 : (cfgR ro).ann 14 = ⟨true, [4], [(0, [2]), (3, [8, 9, 10]), (4, [4, 11, 12, 13]), (5, [0, 5, 6, 7, 14]), (6, [14, 15]), (7, [0, 5, 6, 7, 8, 16, 17, 18])]⟩ := rfl
@[simp] theorem ann15 : (cfgR ro).ann 15 = ⟨true, [3], [(0, [1, 4]), (1, [5, 6, 7, 8, 9, 10, 11, 12, 13, 14, 15, 16, 17, 18, 19, 20, 21]), (2, [0, 3, 22, 23, 24, 25, 26, 27, 28]), (3, [22, 29, 30, 31, 32, 33, 34, 35, 36, 37, 38, 39, 40]), (4, [0, 3, 41]), (5, [41, 42]), (6, [45]), (7, [43, 44, 46, 47, 48, 49, 50, 51, 52, 53, 54, 55, 56, 57, 58, 59, 60, 61]), (8, [0, 3, 62, 63, 64, 65, 66, 67, 68, 69, 70, 71, 72, 73]), (9, [43, 44, 75]), (10, [74, 76, 77, 78, 79, 80, 81, 82, 83, 84, 85, 86, 87, 88]), (11, [89, 90, 91, 92, 93, 94, 95, 96, 97, 98, 99, 100, 101, 102, 103, 104, 105, 106, 107, 108, 109]), (12, [0, 3, 110, 111, 112, 113, 114, 115, 116, 117, 118, 119]), (13, [0, 3, 74])]⟩ := rfl
@[simp] theorem ann16 : (cfgR ro).ann 16 = ⟨true, [5, 6, 8, 9], [(0, [4]), (2, [10, 11, 12, 13]), (3, [14, 15, 16, 17, 18, 19, 20, 21, 22, 23]), (4, [0, 1, 6, 7, 24, 25, 26]), (5, [0, 24, 27, 28, 29, 30, 31, 32, 33, 34]), (6, [35, 36, 37, 38, 39, 40, 41, 42, 43]), (7, [8, 44, 45, 46, 47, 48]), (8, [44, 49, 50, 51, 52, 53, 54, 55, 56, 57]), (9, [58, 59, 60]), (10, [8, 9, 61, 62, 63, 64, 65, 66]), (11, [1, 6, 7, 8, 9, 61, 67, 68])]⟩ := rfl
@[simp] theorem ann17 : (cfgR ro).ann 17 = ⟨true, [2], [(0, [0, 3]), (1, [1, 2, 4, 5, 6, 7, 8])]⟩ := rfl
@[simp] theorem ann18 : (cfgR ro).ann 18 = ⟨true, [], [(0, [4]), (3, [7, 8, 9]), (5, [10, 13, 14, 15, 16, 17, 18, 19]), (6, [20, 21]), (7, [0, 1, 5, 6, 22, 23]), (4, [11, 12, 22]), (8, [0, 1, 5, 6, 10])]⟩ := rfl
@[simp] theorem ann19 : (cfgR ro).ann 19 = ⟨true, [], [(0, [2]), (3, [5, 6, 7]), (5, [8, 11, 12, 13, 14, 15, 16]), (4, [9, 10]), (6, [0, 3, 4, 8, 17])]⟩ := rfl
@[simp] theorem ann20 : (cfgR ro).ann 20 = ⟨true, [], [(0, [2]), (1, [7, 8]), (2, [0, 9]), (3, [9, 10, 11, 12]), (5, [16, 17, 18, 19]), (6, [20, 21, 22, 23, 24, 25, 26, 27, 28, 29, 30, 31, 32, 33, 34, 35, 36, 37, 38, 39, 40, 41, 42, 43, 44, 45, 46, 47, 48, 49, 50, 51, 52, 53, 54, 55, 56, 57, 58, 59, 60, 61, 62, 63, 64, 65, 66]), (7, [0, 3, 4, 13, 14, 15, 67]), (8, [4, 67, 68, 69, 70, 71]), (9, [3, 5, 6, 72, 73, 74, 75, 76, 77, 78, 79, 80, 81, 82, 83, 84, 85, 86, 87, 88, 89, 90, 91, 92, 93, 94, 95, 96, 97, 98, 99, 100, 101, 102, 103, 104, 105, 106, 107, 108, 109, 110, 111, 112, 113, 114, 115, 116, 117, 118, 119, 120, 121, 122, 123, 124, 125, 126, 127, 128]), (10, [0, 13, 14, 15, 129]), (11, [129, 130]), (12, [0, 13, 14, 15, 16])]⟩ := rfl
@[simp] theorem ann21 : (cfgR ro).ann 21 = ⟨true, [], [(0, [2]), (1, [4, 5, 6, 7, 8, 9, 10]), (2, [0, 11, 12, 13, 14]), (3, [15, 16, 17, 18, 19]), (4, [3, 20, 21, 22, 23])]⟩ := rfl
@[simp] theorem ann22 : (cfgR ro).ann 22 = ⟨true, [], [(0, [6, 7, 8, 9]), (1, [2]), (2, [0, 1, 10, 11, 12, 13, 14]), (3, [0, 1, 10, 15, 16, 17, 18])]⟩ := rfl
@[simp] theorem ann23 : (cfgR ro).ann 23 = ⟨true, [], [(0, [2]), (1, [3, 4, 5, 6, 7, 8, 9, 10]), (2, [11, 12, 13, 14, 15]), (3, [0, 11, 16])]⟩ := rfl
@[simp] theorem ann24 : (cfgR ro).ann 24 = ⟨true, [], [(0, [2]), (2, [3, 8, 9]), (1, [4, 5, 6, 7])]⟩ := rfl
@[simp] theorem ann25 : (cfgR ro).ann 25 = ⟨true, [], [(0, [5, 6, 7, 8]), (1, [0, 9, 10, 11, 12]), (2, [13, 14, 15, 16, 17]), (3, [18, 19, 20, 21, 22, 23, 24, 25]), (4, [26, 27, 28, 29]), (5, [30, 31, 32, 33, 34, 35, 36, 37]), (6, [30, 38, 39, 40, 41]), (7, [18, 42, 43, 44, 45, 46, 47, 48]), (8, [49, 50, 51, 52]), (9, [53, 54, 55, 56, 57, 58, 59, 60]), (10, [53, 61, 62, 63, 64]), (11, [65, 66, 67, 68]), (12, [4, 69, 70]), (13, [1, 71, 72])]⟩ := rfl
@[simp] theorem ann26 : (cfgR ro).ann 26 = ⟨true, [], [(0, [2]), (1, [3]), (2, [0, 4]), (3, [0, 4, 5, 6, 7, 8])]⟩ := rfl
@[simp] theorem ann27 : (cfgR ro).ann 27 = ⟨true, [2, 3], [(1, [4]), (2, [0, 5]), (3, [3, 6]), (4, [0, 5, 7, 8, 9, 10])]⟩ := rfl
@[simp] theorem ann28 : (cfgR ro).ann 28 = ⟨true, [], [(0, [6]), (2, [10]), (3, [11, 12, 13, 14, 15, 16, 17, 18]), (4, [7, 11, 19, 20, 21, 22, 23, 24, 25, 26]), (5, [27]), (6, [0, 1, 2, 8, 28]), (7, [28, 29, 30, 31, 32, 33, 34, 35, 36, 37]), (8, [8, 9, 38, 39, 40, 41, 42, 43, 44, 45, 46, 47, 48, 49, 50, 51, 52]), (9, [0, 1, 2, 53, 54, 55, 56, 57, 58, 59, 60, 61, 62, 63])]⟩ := rfl
@[simp] theorem ann29 : (cfgR ro).ann 29 = ⟨true, [5], [(0, [0, 2]), (1, [5, 6, 7, 8, 9]), (2, [1, 10, 11])]⟩ := rfl
@[simp] theorem ann30 : (cfgR ro).ann 30 = ⟨true, [], [(0, [6]), (2, [0, 8, 9, 10]), (3, [1, 2, 11, 12, 13, 14]), (4, [7, 15])]⟩ := rfl
@[simp] theorem ann31 : (cfgR ro).ann 31 = ⟨true, [], [(0, [5, 6, 7, 8, 9, 10, 11, 12, 13, 14, 15, 16, 17, 18, 19, 20, 21, 22, 23, 24, 25, 26, 27, 28, 29, 30, 31, 32, 33]), (1, [4, 34, 35, 36, 37, 38, 39]), (2, [4, 41, 42, 43, 44, 45]), (3, [40, 46, 47, 48, 49, 50, 51]), (4, [0, 40, 52, 53, 54]), (5, [55, 56, 57, 58, 59]), (6, [1, 60, 61, 62])]⟩ := rfl
@[simp] theorem ann32 : (cfgR ro).ann 32 = ⟨true, [], [(0, [4]), (2, [6, 7, 8, 9, 10]), (3, [0, 1, 5, 11, 12, 13, 14, 15, 16])]⟩ := rfl
@[simp] theorem ann33 : (cfgR ro).ann 33 = ⟨true, [], [(0, [2]), (1, [3, 4, 5, 6, 7, 8, 9, 10, 11, 12, 13, 14, 15, 16, 17, 18, 19, 20, 21, 22, 23, 24, 25, 26, 27, 28, 29, 30, 31, 32, 33, 34, 35, 36, 37, 38, 39, 40, 41, 42, 43, 44, 45, 46, 47]), (2, [0, 48]), (3, [48, 49, 50, 51, 52, 53]), (4, [0, 54, 55, 56, 57, 58, 59, 60, 61, 62, 63, 64, 65, 66, 67, 68]), (5, [0, 54, 69, 70, 71, 72, 73, 74, 75, 76, 77, 78, 79, 80, 81, 82, 83, 84, 85, 86, 87, 88, 89, 90, 91, 92, 93, 94, 95, 96, 97, 98, 99, 100])]⟩ := rfl
@[simp] theorem ann34 : (cfgR ro).ann 34 = ⟨true, [2], [(1, [0, 3, 4, 5, 6])]⟩ := rfl
@[simp] theorem ann35 : (cfgR ro).ann 35 = ⟨true, [], [(0, [4]), (1, [7, 8, 9, 10]), (2, [0, 11, 12, 13, 14, 15, 16, 17]), (3, [1, 5, 18]), (4, [18, 19, 20, 21, 22, 23]), (5, [24, 25]), (6, [6, 26, 27, 28, 29, 30]), (7, [26, 31, 32]), (8, [6, 33, 34, 35, 36, 37, 38, 39, 40, 41]), (9, [1, 5, 6, 33, 42])]⟩ := rfl
@[simp] theorem ann36 : (cfgR ro).ann 36 = ⟨true, [], [(0, [2]), (1, [3, 4, 5, 6]), (2, [0, 7, 8, 9, 10, 11, 12]), (3, [7, 13, 14, 15, 16, 17, 18, 19, 20, 21, 22, 23, 24, 25, 26, 27]), (4, [28, 29, 30, 31, 32]), (5, [0, 28, 33, 34, 35, 36])]⟩ := rfl
@[simp] theorem ann37 : (cfgR ro).ann 37 = ⟨true, [], [(0, [2, 3, 4, 5, 6, 7, 8, 9, 10, 11, 12, 13, 14, 15, 16]), (1, [0, 17, 18, 19, 20, 21, 22, 23, 24, 25, 26, 27, 28, 29, 30, 31, 32, 33, 34, 35, 36, 37, 38, 39])]⟩ := rfl
@[simp] theorem ann38 : (cfgR ro).ann 38 = ⟨true, [], [(0, [7, 8, 9, 10]), (1, [11]), (2, [12, 13, 14, 15, 16]), (4, [12, 22, 23]), (5, [0, 1, 2, 6, 21, 24, 25, 26, 27]), (6, [0, 1, 21, 29, 30, 31, 32, 33, 34]), (7, [2, 6, 28, 35, 36, 37, 38]), (3, [2, 6, 17, 18, 19, 20, 28])]⟩ := rfl
@[simp] theorem ann39 : (cfgR ro).ann 39 = ⟨true, [], [(0, [6]), (2, [8, 9, 10, 11, 12]), (3, [2, 13, 14, 15, 16]), (4, [0, 1, 7, 17, 18, 19, 20, 21])]⟩ := rfl
@[simp] theorem ann40 : (cfgR ro).ann 40 = ⟨true, [], [(0, [2]), (1, [0, 3, 4, 5, 6, 7])]⟩ := rfl
@[simp] theorem ann41 : (cfgR ro).ann 41 = ⟨true, [], [(0, [2]), (1, [3, 4, 5, 6, 7, 8, 9, 10]), (2, [11, 12, 13, 14, 15]), (3, [0, 11, 16])]⟩ := rfl
@[simp] theorem ann57 : (cfgR ro).ann 57 = ⟨true, [1, 2], [(0, [0]), (1, [1, 3, 4, 5])]⟩ := rfl
@[simp] theorem ann58 : (cfgR ro).ann 58 = ⟨true, [2, 3, 4], [(0, [0, 1]), (1, [2, 3, 5, 6, 7, 8, 9, 10])]⟩ := rfl
end
@[simp] theorem sz3 : sizeR Try.prog 3 = .ok 1 := by kernel_rfl
@[simp] theorem ag3 : isAggR Try.prog 3 = .ok false := by kernel_rfl
@[simp] theorem zv3 : zeroV Try.prog 3 = .ok (.int .i64 0) := by kernel_rfl
@[simp] theorem zc3 : zeroCellsR Try.prog 3 = .ok [.int .i64 0] := by kernel_rfl
@[simp] theorem un3 : undR Try.prog 3 = .ok (.int .i64) := by kernel_rfl
@[simp] theorem sz4 : sizeR Try.prog 4 = .ok 1 := by kernel_rfl
@[simp] theorem ag4 : isAggR Try.prog 4 = .ok false := by kernel_rfl
@[simp] theorem zv4 : zeroV Try.prog 4 = .ok (.bool false) := by kernel_rfl
@[simp] theorem zc4 : zeroCellsR Try.prog 4 = .ok [.bool false] := by kernel_rfl
@[simp] theorem un4 : undR Try.prog 4 = .ok .bool := by kernel_rfl
@[simp] theorem nm4 : notMake Try.prog (some 4) = .ok () := by kernel_rfl
@[simp] theorem sz9 : sizeR Try.prog 9 = .ok 1 := by kernel_rfl
@[simp] theorem ag9 : isAggR Try.prog 9 = .ok false := by kernel_rfl
@[simp] theorem zv9 : zeroV Try.prog 9 = .ok (.str []) := by kernel_rfl
@[simp] theorem zc9 : zeroCellsR Try.prog 9 = .ok [.str []] := by kernel_rfl
@[simp] theorem un9 : undR Try.prog 9 = .ok .string := by kernel_rfl
@[simp] theorem nm9 : notMake Try.prog (some 9) = .ok () := by kernel_rfl
@[simp] theorem sz20 : sizeR Try.prog 20 = .ok 1 := by kernel_rfl
@[simp] theorem ag20 : isAggR Try.prog 20 = .ok false := by kernel_rfl
@[simp] theorem zv20 : zeroV Try.prog 20 = .ok (.nili) := by kernel_rfl
@[simp] theorem zc20 : zeroCellsR Try.prog 20 = .ok [.nili] := by kernel_rfl
@[simp] theorem nm20 : notMake Try.prog (some 20) = .ok () := by kernel_rfl
@[simp] theorem sz23 : sizeR Try.prog 23 = .ok 1 := by kernel_rfl
@[simp] theorem ag23 : isAggR Try.prog 23 = .ok false := by kernel_rfl
@[simp] theorem zv23 : zeroV Try.prog 23 = .ok (.nilp) := by kernel_rfl
@[simp] theorem zc23 : zeroCellsR Try.prog 23 = .ok [.nilp] := by kernel_rfl
@[simp] theorem un23 : undR Try.prog 23 = .ok (.pointer 27) := by kernel_rfl
@[simp] theorem nm23 : notMake Try.prog (some 23) = .ok () := by kernel_rfl
@[simp] theorem sz24 : sizeR Try.prog 24 = .ok 1 := by kernel_rfl
@[simp] theorem ag24 : isAggR Try.prog 24 = .ok false := by kernel_rfl
@[simp] theorem zv24 : zeroV Try.prog 24 = .ok (.nilp) := by kernel_rfl
@[simp] theorem zc24 : zeroCellsR Try.prog 24 = .ok [.nilp] := by kernel_rfl
@[simp] theorem un24 : undR Try.prog 24 = .ok (.pointer 56) := by kernel_rfl
@[simp] theorem nm24 : notMake Try.prog (some 24) = .ok () := by kernel_rfl
@[simp] theorem sz25 : sizeR Try.prog 25 = .ok 1 := by kernel_rfl
@[simp] theorem ag25 : isAggR Try.prog 25 = .ok false := by kernel_rfl
@[simp] theorem zv25 : zeroV Try.prog 25 = .ok (.int .u64 0) := by kernel_rfl
@[simp] theorem zc25 : zeroCellsR Try.prog 25 = .ok [.int .u64 0] := by kernel_rfl
@[simp] theorem un25 : undR Try.prog 25 = .ok (.int .u64) := by kernel_rfl
@[simp] theorem sz27 : sizeR Try.prog 27 = .ok 2 := by kernel_rfl
@[simp] theorem ag27 : isAggR Try.prog 27 = .ok true := by kernel_rfl
@[simp] theorem zv27 : zeroV Try.prog 27 = .ok (.agg [.nilp, .int .u64 0]) := by kernel_rfl
@[simp] theorem zc27 : zeroCellsR Try.prog 27 = .ok [.nilp, .int .u64 0] := by kernel_rfl
@[simp] theorem nm27 : notMake Try.prog (some 27) = .ok () := by kernel_rfl
@[simp] theorem sz28 : sizeR Try.prog 28 = .ok 1 := by kernel_rfl
@[simp] theorem ag28 : isAggR Try.prog 28 = .ok false := by kernel_rfl
@[simp] theorem zv28 : zeroV Try.prog 28 = .ok (.nils) := by kernel_rfl
@[simp] theorem zc28 : zeroCellsR Try.prog 28 = .ok [.nils] := by kernel_rfl
@[simp] theorem un28 : undR Try.prog 28 = .ok (.slice 24) := by kernel_rfl
@[simp] theorem el28 : elemSl Try.prog 28 = .ok 24 := by kernel_rfl
@[simp] theorem nm28 : notMake Try.prog (some 28) = .ok () := by kernel_rfl
@[simp] theorem sz31 : sizeR Try.prog 31 = .ok 1 := by kernel_rfl
@[simp] theorem ag31 : isAggR Try.prog 31 = .ok true := by kernel_rfl
@[simp] theorem zv31 : zeroV Try.prog 31 = .ok (.agg [.str []]) := by kernel_rfl
@[simp] theorem zc31 : zeroCellsR Try.prog 31 = .ok [.str []] := by kernel_rfl
@[simp] theorem nm31 : notMake Try.prog (some 31) = .ok () := by kernel_rfl
@[simp] theorem sz32 : sizeR Try.prog 32 = .ok 1 := by kernel_rfl
@[simp] theorem ag32 : isAggR Try.prog 32 = .ok true := by kernel_rfl
@[simp] theorem zv32 : zeroV Try.prog 32 = .ok (.agg [.str []]) := by kernel_rfl
@[simp] theorem zc32 : zeroCellsR Try.prog 32 = .ok [.str []] := by kernel_rfl
@[simp] theorem nm32 : notMake Try.prog (some 32) = .ok () := by kernel_rfl
@[simp] theorem sz39 : sizeR Try.prog 39 = .ok 1 := by kernel_rfl
@[simp] theorem ag39 : isAggR Try.prog 39 = .ok false := by kernel_rfl
@[simp] theorem zv39 : zeroV Try.prog 39 = .ok (.nils) := by kernel_rfl
@[simp] theorem zc39 : zeroCellsR Try.prog 39 = .ok [.nils] := by kernel_rfl
@[simp] theorem un39 : undR Try.prog 39 = .ok (.slice 46) := by kernel_rfl
@[simp] theorem el39 : elemSl Try.prog 39 = .ok 46 := by kernel_rfl
@[simp] theorem nm39 : notMake Try.prog (some 39) = .ok () := by kernel_rfl
@[simp] theorem sz41 : sizeR Try.prog 41 = .ok 1 := by kernel_rfl
@[simp] theorem ag41 : isAggR Try.prog 41 = .ok false := by kernel_rfl
@[simp] theorem zv41 : zeroV Try.prog 41 = .ok (.nilp) := by kernel_rfl
@[simp] theorem zc41 : zeroCellsR Try.prog 41 = .ok [.nilp] := by kernel_rfl
@[simp] theorem un41 : undR Try.prog 41 = .ok (.pointer 44) := by kernel_rfl
@[simp] theorem nm41 : notMake Try.prog (some 41) = .ok () := by kernel_rfl
@[simp] theorem sz42 : sizeR Try.prog 42 = .ok 1 := by kernel_rfl
@[simp] theorem ag42 : isAggR Try.prog 42 = .ok false := by kernel_rfl
@[simp] theorem zv42 : zeroV Try.prog 42 = .ok (.nils) := by kernel_rfl
@[simp] theorem zc42 : zeroCellsR Try.prog 42 = .ok [.nils] := by kernel_rfl
@[simp] theorem un42 : undR Try.prog 42 = .ok (.slice 9) := by kernel_rfl
@[simp] theorem el42 : elemSl Try.prog 42 = .ok 9 := by kernel_rfl
@[simp] theorem nm42 : notMake Try.prog (some 42) = .ok () := by kernel_rfl
@[simp] theorem sz44 : sizeR Try.prog 44 = .ok 3 := by kernel_rfl
@[simp] theorem ag44 : isAggR Try.prog 44 = .ok true := by kernel_rfl
@[simp] theorem zv44 : zeroV Try.prog 44 = .ok (.agg [.nilp, .nils, .nils]) := by kernel_rfl
@[simp] theorem zc44 : zeroCellsR Try.prog 44 = .ok [.nilp, .nils, .nils] := by kernel_rfl
@[simp] theorem nm44 : notMake Try.prog (some 44) = .ok () := by kernel_rfl
@[simp] theorem sz46 : sizeR Try.prog 46 = .ok 3 := by kernel_rfl
@[simp] theorem ag46 : isAggR Try.prog 46 = .ok true := by kernel_rfl
@[simp] theorem zv46 : zeroV Try.prog 46 = .ok (.agg [.int .i64 0, .int .i64 0, .str []]) := by kernel_rfl
@[simp] theorem zc46 : zeroCellsR Try.prog 46 = .ok [.int .i64 0, .int .i64 0, .str []] := by kernel_rfl
@[simp] theorem nm46 : notMake Try.prog (some 46) = .ok () := by kernel_rfl
@[simp] theorem sz50 : sizeR Try.prog 50 = .ok 1 := by kernel_rfl
@[simp] theorem ag50 : isAggR Try.prog 50 = .ok false := by kernel_rfl
@[simp] theorem zv50 : zeroV Try.prog 50 = .ok (.nilf) := by kernel_rfl
@[simp] theorem zc50 : zeroCellsR Try.prog 50 = .ok [.nilf] := by kernel_rfl
@[simp] theorem nm50 : notMake Try.prog (some 50) = .ok () := by kernel_rfl
@[simp] theorem sz56 : sizeR Try.prog 56 = .ok 7 := by kernel_rfl
@[simp] theorem ag56 : isAggR Try.prog 56 = .ok true := by kernel_rfl
@[simp] theorem zv56 : zeroV Try.prog 56 = .ok (.agg [.nilp, .nilp, .nilp, .int .u64 0, .int .i64 0, .str [], .str []]) := by kernel_rfl
@[simp] theorem zc56 : zeroCellsR Try.prog 56 = .ok [.nilp, .nilp, .nilp, .int .u64 0, .int .i64 0, .str [], .str []] := by kernel_rfl
@[simp] theorem nm56 : notMake Try.prog (some 56) = .ok () := by kernel_rfl
@[simp] theorem co0 : Try.prog.cellsOf 0 = 1 := by kernel_rfl
@[simp] theorem co3 : Try.prog.cellsOf 3 = 1 := by kernel_rfl
@[simp] theorem co4 : Try.prog.cellsOf 4 = 1 := by kernel_rfl
@[simp] theorem co9 : Try.prog.cellsOf 9 = 1 := by kernel_rfl
@[simp] theorem co20 : Try.prog.cellsOf 20 = 1 := by kernel_rfl
@[simp] theorem co23 : Try.prog.cellsOf 23 = 1 := by kernel_rfl
@[simp] theorem co24 : Try.prog.cellsOf 24 = 1 := by kernel_rfl
@[simp] theorem co25 : Try.prog.cellsOf 25 = 1 := by kernel_rfl
@[simp] theorem co27 : Try.prog.cellsOf 27 = 2 := by kernel_rfl
@[simp] theorem co28 : Try.prog.cellsOf 28 = 1 := by kernel_rfl
@[simp] theorem co31 : Try.prog.cellsOf 31 = 1 := by kernel_rfl
@[simp] theorem co32 : Try.prog.cellsOf 32 = 1 := by kernel_rfl
@[simp] theorem co39 : Try.prog.cellsOf 39 = 1 := by kernel_rfl
@[simp] theorem co41 : Try.prog.cellsOf 41 = 1 := by kernel_rfl
@[simp] theorem co42 : Try.prog.cellsOf 42 = 1 := by kernel_rfl
@[simp] theorem co44 : Try.prog.cellsOf 44 = 3 := by kernel_rfl
@[simp] theorem co46 : Try.prog.cellsOf 46 = 3 := by kernel_rfl
@[simp] theorem co48 : Try.prog.cellsOf 48 = 1 := by kernel_rfl
@[simp] theorem co50 : Try.prog.cellsOf 50 = 1 := by kernel_rfl
@[simp] theorem co56 : Try.prog.cellsOf 56 = 7 := by kernel_rfl
@[simp] theorem nmN : notMake Try.prog none = .ok () := rfl
@[simp] theorem fa27_0 (x : AVal) : fieldAddrR Try.prog 27 x 0 = addOff x 0 := by kernel_rfl
@[simp] theorem so27_0 : ((fieldOf Try.prog 27 0).bind fun fd => (sizeR Try.prog fd.type).bind fun n => if n = 0 then .err 191 else .ok fd.offset) = .ok 0 := by kernel_rfl
@[simp] theorem fi27_0 (vs : List AVal) : fieldR Try.prog 27 (.agg vs) 0 = partR Try.prog 24 vs 0 := by kernel_rfl
@[simp] theorem fa27_1 (x : AVal) : fieldAddrR Try.prog 27 x 1 = addOff x 1 := by kernel_rfl
@[simp] theorem so27_1 : ((fieldOf Try.prog 27 1).bind fun fd => (sizeR Try.prog fd.type).bind fun n => if n = 0 then .err 191 else .ok fd.offset) = .ok 1 := by kernel_rfl
@[simp] theorem fi27_1 (vs : List AVal) : fieldR Try.prog 27 (.agg vs) 1 = partR Try.prog 25 vs 1 := by kernel_rfl
@[simp] theorem fa31_0 (x : AVal) : fieldAddrR Try.prog 31 x 0 = addOff x 0 := by kernel_rfl
@[simp] theorem so31_0 : ((fieldOf Try.prog 31 0).bind fun fd => (sizeR Try.prog fd.type).bind fun n => if n = 0 then .err 191 else .ok fd.offset) = .ok 0 := by kernel_rfl
@[simp] theorem fi31_0 (vs : List AVal) : fieldR Try.prog 31 (.agg vs) 0 = partR Try.prog 9 vs 0 := by kernel_rfl
@[simp] theorem fa32_0 (x : AVal) : fieldAddrR Try.prog 32 x 0 = addOff x 0 := by kernel_rfl
@[simp] theorem so32_0 : ((fieldOf Try.prog 32 0).bind fun fd => (sizeR Try.prog fd.type).bind fun n => if n = 0 then .err 191 else .ok fd.offset) = .ok 0 := by kernel_rfl
@[simp] theorem fi32_0 (vs : List AVal) : fieldR Try.prog 32 (.agg vs) 0 = partR Try.prog 9 vs 0 := by kernel_rfl
@[simp] theorem fa44_0 (x : AVal) : fieldAddrR Try.prog 44 x 0 = addOff x 0 := by kernel_rfl
@[simp] theorem so44_0 : ((fieldOf Try.prog 44 0).bind fun fd => (sizeR Try.prog fd.type).bind fun n => if n = 0 then .err 191 else .ok fd.offset) = .ok 0 := by kernel_rfl
@[simp] theorem fi44_0 (vs : List AVal) : fieldR Try.prog 44 (.agg vs) 0 = partR Try.prog 23 vs 0 := by kernel_rfl
@[simp] theorem fa44_1 (x : AVal) : fieldAddrR Try.prog 44 x 1 = addOff x 1 := by kernel_rfl
@[simp] theorem so44_1 : ((fieldOf Try.prog 44 1).bind fun fd => (sizeR Try.prog fd.type).bind fun n => if n = 0 then .err 191 else .ok fd.offset) = .ok 1 := by kernel_rfl
@[simp] theorem fi44_1 (vs : List AVal) : fieldR Try.prog 44 (.agg vs) 1 = partR Try.prog 28 vs 1 := by kernel_rfl
@[simp] theorem fa44_2 (x : AVal) : fieldAddrR Try.prog 44 x 2 = addOff x 2 := by kernel_rfl
@[simp] theorem so44_2 : ((fieldOf Try.prog 44 2).bind fun fd => (sizeR Try.prog fd.type).bind fun n => if n = 0 then .err 191 else .ok fd.offset) = .ok 2 := by kernel_rfl
@[simp] theorem fi44_2 (vs : List AVal) : fieldR Try.prog 44 (.agg vs) 2 = partR Try.prog 42 vs 2 := by kernel_rfl
@[simp] theorem fa46_0 (x : AVal) : fieldAddrR Try.prog 46 x 0 = addOff x 0 := by kernel_rfl
@[simp] theorem so46_0 : ((fieldOf Try.prog 46 0).bind fun fd => (sizeR Try.prog fd.type).bind fun n => if n = 0 then .err 191 else .ok fd.offset) = .ok 0 := by kernel_rfl
@[simp] theorem fi46_0 (vs : List AVal) : fieldR Try.prog 46 (.agg vs) 0 = partR Try.prog 3 vs 0 := by kernel_rfl
@[simp] theorem fa46_1 (x : AVal) : fieldAddrR Try.prog 46 x 1 = addOff x 1 := by kernel_rfl
@[simp] theorem so46_1 : ((fieldOf Try.prog 46 1).bind fun fd => (sizeR Try.prog fd.type).bind fun n => if n = 0 then .err 191 else .ok fd.offset) = .ok 1 := by kernel_rfl
@[simp] theorem fi46_1 (vs : List AVal) : fieldR Try.prog 46 (.agg vs) 1 = partR Try.prog 3 vs 1 := by kernel_rfl
@[simp] theorem fa46_2 (x : AVal) : fieldAddrR Try.prog 46 x 2 = addOff x 2 := by kernel_rfl
@[simp] theorem so46_2 : ((fieldOf Try.prog 46 2).bind fun fd => (sizeR Try.prog fd.type).bind fun n => if n = 0 then .err 191 else .ok fd.offset) = .ok 2 := by kernel_rfl
@[simp] theorem fi46_2 (vs : List AVal) : fieldR Try.prog 46 (.agg vs) 2 = partR Try.prog 9 vs 2 := by kernel_rfl
@[simp] theorem fa56_0 (x : AVal) : fieldAddrR Try.prog 56 x 0 = addOff x 0 := by kernel_rfl
@[simp] theorem so56_0 : ((fieldOf Try.prog 56 0).bind fun fd => (sizeR Try.prog fd.type).bind fun n => if n = 0 then .err 191 else .ok fd.offset) = .ok 0 := by kernel_rfl
@[simp] theorem fi56_0 (vs : List AVal) : fieldR Try.prog 56 (.agg vs) 0 = partR Try.prog 24 vs 0 := by kernel_rfl
@[simp] theorem fa56_1 (x : AVal) : fieldAddrR Try.prog 56 x 1 = addOff x 1 := by kernel_rfl
@[simp] theorem so56_1 : ((fieldOf Try.prog 56 1).bind fun fd => (sizeR Try.prog fd.type).bind fun n => if n = 0 then .err 191 else .ok fd.offset) = .ok 1 := by kernel_rfl
@[simp] theorem fi56_1 (vs : List AVal) : fieldR Try.prog 56 (.agg vs) 1 = partR Try.prog 24 vs 1 := by kernel_rfl
@[simp] theorem fa56_2 (x : AVal) : fieldAddrR Try.prog 56 x 2 = addOff x 2 := by kernel_rfl
@[simp] theorem so56_2 : ((fieldOf Try.prog 56 2).bind fun fd => (sizeR Try.prog fd.type).bind fun n => if n = 0 then .err 191 else .ok fd.offset) = .ok 2 := by kernel_rfl
@[simp] theorem fi56_2 (vs : List AVal) : fieldR Try.prog 56 (.agg vs) 2 = partR Try.prog 24 vs 2 := by kernel_rfl
@[simp] theorem fa56_3 (x : AVal) : fieldAddrR Try.prog 56 x 3 = addOff x 3 := by kernel_rfl
@[simp] theorem so56_3 : ((fieldOf Try.prog 56 3).bind fun fd => (sizeR Try.prog fd.type).bind fun n => if n = 0 then .err 191 else .ok fd.offset) = .ok 3 := by kernel_rfl
@[simp] theorem fi56_3 (vs : List AVal) : fieldR Try.prog 56 (.agg vs) 3 = partR Try.prog 25 vs 3 := by kernel_rfl
@[simp] theorem fa56_4 (x : AVal) : fieldAddrR Try.prog 56 x 4 = addOff x 4 := by kernel_rfl
@[simp] theorem so56_4 : ((fieldOf Try.prog 56 4).bind fun fd => (sizeR Try.prog fd.type).bind fun n => if n = 0 then .err 191 else .ok fd.offset) = .ok 4 := by kernel_rfl
@[simp] theorem fi56_4 (vs : List AVal) : fieldR Try.prog 56 (.agg vs) 4 = partR Try.prog 3 vs 4 := by kernel_rfl
@[simp] theorem fa56_5 (x : AVal) : fieldAddrR Try.prog 56 x 5 = addOff x 5 := by kernel_rfl
@[simp] theorem so56_5 : ((fieldOf Try.prog 56 5).bind fun fd => (sizeR Try.prog fd.type).bind fun n => if n = 0 then .err 191 else .ok fd.offset) = .ok 5 := by kernel_rfl
@[simp] theorem fi56_5 (vs : List AVal) : fieldR Try.prog 56 (.agg vs) 5 = partR Try.prog 31 vs 5 := by kernel_rfl
@[simp] theorem fa56_6 (x : AVal) : fieldAddrR Try.prog 56 x 6 = addOff x 6 := by kernel_rfl
@[simp] theorem so56_6 : ((fieldOf Try.prog 56 6).bind fun fd => (sizeR Try.prog fd.type).bind fun n => if n = 0 then .err 191 else .ok fd.offset) = .ok 6 := by kernel_rfl
@[simp] theorem fi56_6 (vs : List AVal) : fieldR Try.prog 56 (.agg vs) 6 = partR Try.prog 32 vs 6 := by kernel_rfl
@[simp] theorem bu27 (l : List (Nat × AVal)) : buildR Try.prog 27 l = (fillR (fun i => [(0, 1), (1, 1)][i]?) [.nilp, .int .u64 0] l).bind fun cs => .ok (.agg cs) := by kernel_rfl
@[simp] theorem bu31 (l : List (Nat × AVal)) : buildR Try.prog 31 l = (fillR (fun i => [(0, 1)][i]?) [.str []] l).bind fun cs => .ok (.agg cs) := by kernel_rfl
@[simp] theorem bu32 (l : List (Nat × AVal)) : buildR Try.prog 32 l = (fillR (fun i => [(0, 1)][i]?) [.str []] l).bind fun cs => .ok (.agg cs) := by kernel_rfl
@[simp] theorem bu44 (l : List (Nat × AVal)) : buildR Try.prog 44 l = (fillR (fun i => [(0, 1), (1, 1), (2, 1)][i]?) [.nilp, .nils, .nils] l).bind fun cs => .ok (.agg cs) := by kernel_rfl
@[simp] theorem bu56 (l : List (Nat × AVal)) : buildR Try.prog 56 l = (fillR (fun i => [(0, 1), (1, 1), (2, 1), (3, 1), (4, 1), (5, 1), (6, 1)][i]?) [.nilp, .nilp, .nilp, .int .u64 0, .int .i64 0, .str [], .str []] l).bind fun cs => .ok (.agg cs) := by kernel_rfl
theorem inf28 : ∃ i, infoR Try.prog 24 = .ok i ∧ i.size = 1 ∧ i.bytes = 8 := ⟨_, rfl, by kernel_rfl, by kernel_rfl⟩
@[simp] theorem ap28 {ro} (h : AHeap) (xt : Option Nat) (s x : AVal) : appendR (cfgR ro) h 28 xt s x = (notMake Try.prog xt).bind fun _ => (lenA x).bind fun n => (readSl (cfgR ro) h 1 n x).bind fun new => appCore 1 8 h s n new := by
  obtain ⟨i, h1, h2, h3⟩ := inf28
  exact append_core xt s x el28 h1 zc24 h2 h3 (by decide) (by decide) rfl
theorem inf42 : ∃ i, infoR Try.prog 9 = .ok i ∧ i.size = 1 ∧ i.bytes = 16 := ⟨_, rfl, by kernel_rfl, by kernel_rfl⟩
@[simp] theorem ap42 {ro} (h : AHeap) (xt : Option Nat) (s x : AVal) : appendR (cfgR ro) h 42 xt s x = (notMake Try.prog xt).bind fun _ => (lenA x).bind fun n => (readSl (cfgR ro) h 1 n x).bind fun new => appCore 1 16 h s n new := by
  obtain ⟨i, h1, h2, h3⟩ := inf42
  exact append_core xt s x el42 h1 zc9 h2 h3 (by decide) (by decide) rfl
theorem eq24 {ro} (h : AHeap) (x y : AVal) : eqIn (cfgR ro) h 10000 24 x y = eqFlat Try.prog h (.pointer 56) x y := by kernel_rfl
@[simp] theorem en24 {ro} (h : AHeap) : eqIn (cfgR ro) h 10000 24 .nilp .nilp = .ok true := by rw [eq24]; rfl
@[simp] theorem ep24 {ro} (h : AHeap) (o f : Nat) : eqIn (cfgR ro) h 10000 24 (.ptr o f) .nilp = .ok false := by rw [eq24]; rfl
@[simp] theorem eq24_np {ro} (h : AHeap) (o f : Nat) : eqIn (cfgR ro) h 10000 24 .nilp (.ptr o f) = .ok false := by rw [eq24]; rfl
@[simp] theorem eq24_pp {ro} (h : AHeap) (o f o1 f1 : Nat) : eqIn (cfgR ro) h 10000 24 (.ptr o f) (.ptr o1 f1) = ptrEq h o f o1 f1 := by
  have hz : sizeNonzero Try.prog 56 = true := by kernel_rfl
  rw [eq24]
  show (if sizeNonzero Try.prog 56 = true then eq1 h (.ptr o f) (.ptr o1 f1) else Res.err 65) = _
  rw [if_pos hz]; rfl
end Go.Proofs.Ytbnlhhfobgjeaaa
