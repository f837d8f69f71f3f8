/-
  A part of the proof of ConsoleParses, over the seat YtofnbldbggddmaaGreatDoor: for every input the law returns true, and the input reads as it did.
-/
import Derived.Test.YtofnbldbggddmaaGreatDoorGk
import Derived.Test.YtofnbldbggddmaaGreatDoorGn
import Derived.Test.YtofnbldbggddmaaGreatDoorGq
set_option linter.all false
set_option linter.all false
set_option maxRecDepth 1000000
set_option maxHeartbeats 0
namespace Go.Proofs.YtofnbldbggddmaaGreatDoor
open Go Go.RowKit Go.Proofs
def isTrueR : Res (AVal × AHeap) → Bool
  | .ok (.bool true, _) => true
  | _ => false
theorem isTrueR_ok {r : Res (AVal × AHeap)} (h : isTrueR r = true) : ∃ h', r = .ok (.bool true, h') := by
  unfold isTrueR at h
  split at h
  · exact ⟨_, rfl⟩
  · cases h
section
variable {ro : Nat → Option (List AVal)}
theorem up1200 {e : Known} (h : okK ro e) : callF (cfgR (roP ro)) 1200 e.f e.args e.h = .ok (e.v, e.h') := callF_le (by decide) _ _ _ _ h
theorem anchor_r : isTrueR (callM (cfgR (roP ro)) (tabOf [kLine1, kLine2, kLine3, kLine4]) 200 6 [] heap0) = true := by kernel_rfl
theorem anchorP : ∃ h', Run (cfgR (roP ro)) 6 [] heap0 (.bool true) h' := by
  obtain ⟨h', e⟩ := isTrueR_ok (anchor_r (ro := ro))
  refine ⟨h', 200 + 1200, memo_ok (fun e he => ?_) e⟩
  simp only [List.mem_cons, List.not_mem_nil, or_false] at he
  rcases he with rfl | rfl | rfl | rfl
  · exact up1200 kLine1_ok
  · exact kLine2_m
  · exact kLine3_m
  · exact up1200 kLine4_ok
theorem anchor30 (h1 : ro 0 = some [.str [], .str [100, 111], .str [117, 110, 100, 111], .str [114, 101, 100, 111], .str [99, 111, 109, 101], .str [97, 115, 107], .str [115, 116, 111, 114, 101]]) (h2 : ro 9 = some [.int .u16 0, .int .u32 0]) : ∃ h', Run (cfgR ro) 6 [] heap0 (.bool true) h' := by
  have := anchorP (ro := ro)
  rw [roP_eq h1 h2] at this
  exact this
end
end Go.Proofs.YtofnbldbggddmaaGreatDoor
