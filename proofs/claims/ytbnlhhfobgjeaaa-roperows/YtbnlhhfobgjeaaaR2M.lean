/-
  A part of the proof of RopeRows, over the seat Ytbnlhhfobgjeaaa: for every input the law returns true, and the input reads as it did.
-/
import Derived.Test.YtbnlhhfobgjeaaaR2L
import Derived.Test.YtbnlhhfobgjeaaaRows
import Derived.ProofKit
set_option linter.all false
set_option maxRecDepth 100000
set_option maxHeartbeats 4000000
namespace Go.Proofs.Ytbnlhhfobgjeaaa
open Go Go.RowKit Go.Proofs Go.ChangeShapes Go.WideShapes Go.ChangeAt

theorem own : ownKnob Try.prog.godebug = none := by kernel_rfl
theorem laidOut : laidOutB Try.prog = true := by kernel_rfl
theorem law3 {ro : Nat → Option (List AVal)} {n : Int} {b : Bool} {h : AHeap} : Ev (cfgR ro) 3 [.int .i64 n, .bool b] h (fun v h => v = .bool true) := rows3 (fun _ _ => rfl)

theorem rows_lifted (os : Os) (started : os.Started) (H : Type) (enc : TypeId × Value → H) :
    ReturnsInHanded {} Try.checked os 3 .any (Ytbnlhhfobgjeaaa.Rows.ropeRowsSpec.pre6 enc Try.prog Try.f3 Ytbnlhhfobgjeaaa.Rows.ropeRowsRow.domain false) (Ytbnlhhfobgjeaaa.Rows.ropeRowsSpec.post enc Try.prog Try.f3 false true false false) := by
  refine returnsInHanded_of_change (C := Try.checked) own started (by kernel_rfl) Try.func3
    (ChangeSpec.witness6 (enc := enc) (C := Try.checked) false ⟨#[], #[.int .i64 0, .bool false], []⟩ 8 (by kernel_rfl) (by kernel_rfl) (by kernel_rfl) (by kernel_rfl)) ?_
  intro W base args ds gs before hval0 hW hcnd _
  have hval : ∀ (j : Nat) t v, Try.f3.params[j]? = some t → args[j]? = some v → Value.okWide Try.prog W .any base t v := hval0
  have hW' := hW
  have hlt := hW.lt
  obtain ⟨p, q, hA0, hV, rfl, hfz, hnd⟩ := hW
  have hA : DataW.TrodAll enc Try.prog W 0 (fun _ => true) true Try.f3.params.toList args.toList ds p := hA0
  have hA1 := hA
  rw [Try.params3] at hA hval
  obtain ⟨v0, v1, d0, d1, p0, p1, rfl, rfl, rfl, h0, h1⟩ := trodAll_two hA
  obtain ⟨rfl, rfl⟩ := trodVars_none hV
  obtain ⟨s, e0, hs⟩ := argInt Try.underlying3 (hval 0 3 v0 rfl rfl)
  obtain ⟨b, e1⟩ := argBool Try.underlying4 (hval 1 4 v1 rfl rfl)
  obtain ⟨k, v, h', hq, rfl⟩ := law3 (ro := roW W) (n := s) (b := b) (h := heap0)
  refine (entry (c := cfg) sureC (W := W) (args := #[v0, v1]) (k := k) (v := .bool true) (h' := h') Try.func3 rfl rfl (by rw [show (#[v0, v1] : Array Value).toList.map absV = [absV v0, absV v1] from rfl, e0, e1]; exact hq)).mono fun e W' ⟨u, ι, he, hv, hb⟩ => ?_
  have hu : u = .bool true := hv
  subst hu
  refine ⟨_, he, post_below hW' (fun b sp hd => trodAll_mk1 (shut_bool Try.underlying4 true)) (trodAll_below laidOut hb (by kernel_rfl) hA1 (fun x hx => hlt x (by simpa using hx))) (by exact rfl) hb⟩

theorem rows_holds : Ytbnlhhfobgjeaaa.Rows.RopeRowsSaid :=
  OpenClaim.holds_of_wide 3 Try.f3 rfl rfl rfl rfl rfl rfl rfl ⟨rfl, rfl, rfl, rfl, rfl⟩ rfl rfl rfl rfl rfl (by kernel_rfl) Try.func3 (by kernel_rfl)
    (of_decide_eq_true (by kernel_rfl)) (by unfold Func.isWrapper; first | (rw [if_pos (by decide +kernel)]; kernel_rfl) | (rw [if_neg (by decide +kernel)]; exact ⟨rfl, rfl⟩))
    (fun os started H enc _ => rows_lifted os started H enc)
end Go.Proofs.Ytbnlhhfobgjeaaa
