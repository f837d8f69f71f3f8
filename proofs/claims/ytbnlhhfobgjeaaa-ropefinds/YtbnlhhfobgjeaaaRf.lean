/-
  A part of the proof of RopeFinds, over the seat Ytbnlhhfobgjeaaa: for every input the law returns true, and the input reads as it did.
-/
import Derived.Test.YtbnlhhfobgjeaaaRe
import Derived.Test.YtbnlhhfobgjeaaaRows
import Derived.ProofKit
set_option linter.all false
set_option linter.all false
set_option maxRecDepth 100000
set_option maxHeartbeats 4000000
namespace Go.Proofs.Ytbnlhhfobgjeaaa
open Go Go.RowKit Go.Proofs Go.ChangeShapes Go.WideShapes Go.ChangeAt

theorem op_of {ro n} {x : List AVal} (h : Rdg Try.prog ro n 46 x) : ∃ e : OpS, x = e.cells := by
  obtain ⟨hl, m, hf⟩ := rdg_struct Try.underlying46 h
  rw [co46] at hl
  obtain ⟨a, b, c, rfl⟩ : ∃ a b c, x = [a, b, c] := by
    match x, hl with
    | [a, b, c], _ => exact ⟨a, b, c, rfl⟩
  obtain ⟨i0, h0, _⟩ := rdg_int Try.underlying3 (hf 0 _ rfl)
  obtain ⟨i1, h1, _⟩ := rdg_int Try.underlying3 (hf 1 _ rfl)
  obtain ⟨i2, h2, _⟩ := rdg_str Try.underlying9 (hf 2 _ rfl)
  simp at h0 h1 h2
  exact ⟨⟨i0, i1, i2⟩, by simp [OpS.cells, h0, h1, h2]⟩
theorem ops_of : ∀ {ess : List (List AVal)}, (∀ x ∈ ess, ∃ e : OpS, x = e.cells) → ∃ l : List OpS, ess = l.map OpS.cells
  | [], _ => ⟨[], rfl⟩
  | x :: ess, h => by
    obtain ⟨e, rfl⟩ := h x (by simp)
    obtain ⟨l, rfl⟩ := ops_of (ess := ess) (fun y hy => h y (by simp [hy]))
    exact ⟨e :: l, rfl⟩

theorem own : ownKnob Try.prog.godebug = none := by kernel_rfl
theorem laidOut : laidOutB Try.prog = true := by kernel_rfl

theorem finds_lifted (os : Os) (started : os.Started) (H : Type) (enc : TypeId × Value → H) :
    ReturnsInHanded {} Try.checked os 4 .any (Ytbnlhhfobgjeaaa.Rows.ropeFindsSpec.pre6 enc Try.prog Try.f4 Ytbnlhhfobgjeaaa.Rows.ropeFindsRow.domain false) (Ytbnlhhfobgjeaaa.Rows.ropeFindsSpec.post enc Try.prog Try.f4 false true false false) := by
  refine returnsInHanded_of_change (C := Try.checked) own started (by kernel_rfl) Try.func4
    (ChangeSpec.witness6 (enc := enc) (C := Try.checked) false ⟨#[], #[.slice none 0 0, .int .i64 0], []⟩ 8 (by kernel_rfl) (by kernel_rfl) (by kernel_rfl) (by kernel_rfl)) ?_
  intro W base args ds gs before hval0 hW hcnd _
  have hval : ∀ (j : Nat) t v, Try.f4.params[j]? = some t → args[j]? = some v → Value.okWide Try.prog W .any base t v := hval0
  have hW' := hW
  have hlt := hW.lt
  obtain ⟨p, q, hA0, hV, rfl, hfz, hnd⟩ := hW
  have hA : DataW.TrodAll enc Try.prog W 0 (fun _ => true) true Try.f4.params.toList args.toList ds p := hA0
  have hA1 := hA
  rw [Try.params4] at hA hval
  obtain ⟨v0, v1, d0, d1, p0, p1, rfl, rfl, rfl, h0, h1⟩ := trodAll_two hA
  obtain ⟨rfl, rfl⟩ := trodVars_none hV
  obtain ⟨s, e0, hs⟩ := argInt Try.underlying3 (hval 1 3 v1 rfl rfl)
  obtain ⟨ess, n, hx, hn, hsl⟩ := argSlice covAll (of_decide_eq_true (by kernel_rfl)) Try.underlying39 (by rw [co46]; decide) (hval 0 39 v0 rfl rfl) h0
  obtain ⟨l, rfl⟩ := ops_of (fun x hm => op_of (hx x hm).2)
  have hE : OpsAt (cfgR (roW W)) heap0 (absV v0) l := by
    have := hsl (cfgR (roW W)) heap0 rfl
    rw [co46] at this
    exact this
  obtain ⟨k, v, h', hq, rfl⟩ := finds4 (b := s) (Q := fun v _ => v = .bool true) hE (by simpa using hn) (fun _ _ => rfl)
  refine (entry (c := cfg) sureC (W := W) (args := #[v0, v1]) (k := k) (v := .bool true) (h' := h') Try.func4 rfl rfl (by rw [show (#[v0, v1] : Array Value).toList.map absV = [absV v0, absV v1] from rfl, e0]; exact hq)).mono fun e W' ⟨u, ι, he, hv, hb⟩ => ?_
  have hu : u = .bool true := hv
  subst hu
  refine ⟨_, he, post_below hW' (fun b sp hd => trodAll_mk1 (shut_bool Try.underlying4 true)) (trodAll_below laidOut hb (by kernel_rfl) hA1 (fun x hx => hlt x (by simpa using hx))) (by exact rfl) hb⟩

theorem finds_holds : Ytbnlhhfobgjeaaa.Rows.RopeFindsSaid :=
  OpenClaim.holds_of_wide 4 Try.f4 rfl rfl rfl rfl rfl rfl rfl ⟨rfl, rfl, rfl, rfl, rfl⟩ rfl rfl rfl rfl rfl (by kernel_rfl) Try.func4 (by kernel_rfl)
    (of_decide_eq_true (by kernel_rfl)) (by unfold Func.isWrapper; first | (rw [if_pos (by decide +kernel)]; kernel_rfl) | (rw [if_neg (by decide +kernel)]; exact ⟨rfl, rfl⟩))
    (fun os started H enc _ => finds_lifted os started H enc)
end Go.Proofs.Ytbnlhhfobgjeaaa
