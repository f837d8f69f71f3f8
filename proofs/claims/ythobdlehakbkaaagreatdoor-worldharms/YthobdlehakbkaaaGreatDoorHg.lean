/-
  A part of the proof of WorldHarms, over the seat YthobdlehakbkaaaGreatDoor: for every input the law returns true, and the input reads as it did.
-/
import Derived.Test.YthobdlehakbkaaaGreatDoorGq
import Derived.Test.YthobdlehakbkaaaGreatDoorGt
import Derived.Test.YthobdlehakbkaaaGreatDoorHe
import Derived.Test.YthobdlehakbkaaaGreatDoorHf
set_option linter.all false
set_option linter.all false
set_option maxRecDepth 1000000
set_option maxHeartbeats 0
namespace Go.Proofs.YthobdlehakbkaaaGreatDoor
open Go Go.RowKit Go.Proofs
def isTrueR : Res (AVal × AHeap) → Bool
  | .ok (.bool true, _) => true
  | _ => false
theorem isTrueR_ok {r : Res (AVal × AHeap)} (h : isTrueR r = true) : ∃ h', r = .ok (.bool true, h') := by
  unfold isTrueR at h
  split at h
  · exact ⟨_, rfl⟩
  · cases h
section
variable {ro : Nat → Option (List AVal)}
theorem anchor_r : isTrueR (callM (cfgR (roP ro)) (tabOf [kStep1, kStep2, kSettle, kSettled]) 400 4 [] heap0) = true := by kernel_rfl
theorem anchorP : ∃ h', Run (cfgR (roP ro)) 4 [] heap0 (.bool true) h' := by
  obtain ⟨h', e⟩ := isTrueR_ok (anchor_r (ro := ro))
  refine ⟨h', 400 + 2400, memo_ok (fun e he => ?_) e⟩
  simp only [List.mem_cons, List.not_mem_nil, or_false] at he
  rcases he with rfl | rfl | rfl | rfl
  · exact kStep1_ok.le (by decide)
  · exact kStep2_ok.le (by decide)
  · exact kSettle_ok.le (by decide)
  · exact kSettled_ok.le (by decide)
theorem anchor4 (h2 : ro 0 = some [.int .u16 0, .int .u32 0]) : ∃ h', Run (cfgR ro) 4 [] heap0 (.bool true) h' := by
  have := anchorP (ro := ro)
  rw [roP_eq h2] at this
  exact this
end
end Go.Proofs.YthobdlehakbkaaaGreatDoor
