/-
  A part of the proof of PlanChecks, over the seat Ytbcjancmcajpbaa: for every input the law returns true, and the input reads as it did.
-/
import Derived.Test.YtbcjancmcajpbaaR1J
import Derived.Test.YtbcjancmcajpbaaRows
import Derived.ProofKit
set_option linter.all false
set_option maxRecDepth 100000
set_option maxHeartbeats 4000000
namespace Go.Proofs.Ytbcjancmcajpbaa
open Go Go.RowKit Go.Proofs Go.ChangeShapes Go.WideShapes Go.ChangeAt

theorem ed_of {ro n} {x : List AVal} (h : Rdg Try.prog ro n 33 x) : ∃ e : Ed, x = e.cells := by
  obtain ⟨hl, m, hf⟩ := rdg_struct Try.underlying33 h
  rw [co33] at hl
  obtain ⟨a, b, c, d, e, rfl⟩ : ∃ a b c d e, x = [a, b, c, d, e] := by
    match x, hl with
    | [a, b, c, d, e], _ => exact ⟨a, b, c, d, e, rfl⟩
  obtain ⟨i0, h0, _⟩ := rdg_int Try.underlying3 (hf 0 _ rfl)
  obtain ⟨i1, h1, _⟩ := rdg_int Try.underlying3 (hf 1 _ rfl)
  obtain ⟨i2, h2, _⟩ := rdg_int Try.underlying3 (hf 2 _ rfl)
  obtain ⟨i3, h3, _⟩ := rdg_int Try.underlying3 (hf 3 _ rfl)
  obtain ⟨i4, h4, _⟩ := rdg_str Try.underlying9 (hf 4 _ rfl)
  simp at h0 h1 h2 h3 h4
  exact ⟨⟨i0, i1, i2, i3, i4⟩, by simp [Ed.cells, h0, h1, h2, h3, h4]⟩
theorem eds_of : ∀ {ess : List (List AVal)}, (∀ x ∈ ess, ∃ e : Ed, x = e.cells) → ∃ l : List Ed, ess = l.map Ed.cells
  | [], _ => ⟨[], rfl⟩
  | x :: ess, h => by
    obtain ⟨e, rfl⟩ := h x (by simp)
    obtain ⟨l, rfl⟩ := eds_of (ess := ess) (fun y hy => h y (by simp [hy]))
    exact ⟨e :: l, rfl⟩

theorem own : ownKnob Try.prog.godebug = none := by kernel_rfl
theorem laidOut : laidOutB Try.prog = true := by kernel_rfl

theorem texts_lifted (os : Os) (started : os.Started) (H : Type) (enc : TypeId × Value → H) :
    ReturnsInHanded {} Try.checked os 3 .any (Ytbcjancmcajpbaa.Rows.planTextsSpec.pre6 enc Try.prog Try.f3 Ytbcjancmcajpbaa.Rows.planTextsRow.domain false) (Ytbcjancmcajpbaa.Rows.planTextsSpec.post enc Try.prog Try.f3 false true false false) := by
  refine returnsInHanded_of_change (C := Try.checked) own started (by kernel_rfl) Try.func3
    (ChangeSpec.witness6 (enc := enc) (C := Try.checked) false ⟨#[], #[.string ⟨#[]⟩, .slice none 0 0], []⟩ 8 (by kernel_rfl) (by kernel_rfl) (by kernel_rfl) (by kernel_rfl)) ?_
  intro W base args ds gs before hval0 hW hcnd _
  have hval : ∀ (j : Nat) t v, Try.f3.params[j]? = some t → args[j]? = some v → Value.okWide Try.prog W .any base t v := hval0
  have hW' := hW
  have hlt := hW.lt
  obtain ⟨p, q, hA0, hV, rfl, hfz, hnd⟩ := hW
  have hA : DataW.TrodAll enc Try.prog W 0 (fun _ => true) true Try.f3.params.toList args.toList ds p := hA0
  have hA1 := hA
  rw [Try.params3] at hA hval
  obtain ⟨v0, v1, d0, d1, p0, p1, rfl, rfl, rfl, h0, h1⟩ := trodAll_two hA
  obtain ⟨rfl, rfl⟩ := trodVars_none hV
  obtain ⟨s, e0, hs⟩ := argStr Try.underlying9 (hval 0 9 v0 rfl rfl)
  obtain ⟨ess, n, hx, hn, hsl⟩ := argSlice covAll (of_decide_eq_true (by kernel_rfl)) Try.underlying22 (by rw [co33]; decide) (hval 1 22 v1 rfl rfl) h1
  obtain ⟨l, rfl⟩ := eds_of (fun x hm => ed_of (hx x hm).2)
  have hE : Eds (cfgR (roW W)) heap0 (absV v1) l := by
    have := hsl (cfgR (roW W)) heap0 rfl
    rw [co33] at this
    exact this
  obtain ⟨k, v, h', hq, rfl⟩ := law3 (s := s) hE (by simpa using hn)
  refine (entry (c := cfg) sureC (W := W) (args := #[v0, v1]) (k := k) (v := .bool true) (h' := h') Try.func3 rfl rfl (by rw [show (#[v0, v1] : Array Value).toList.map absV = [absV v0, absV v1] from rfl, e0]; exact hq)).mono fun e W' ⟨u, ι, he, hv, hb⟩ => ?_
  have hu : u = .bool true := hv
  subst hu
  refine ⟨_, he, post_below hW' (fun b sp hd => trodAll_mk1 (shut_bool Try.underlying4 true)) (trodAll_below laidOut hb (by kernel_rfl) hA1 (fun x hx => hlt x (by simpa using hx))) (by exact rfl) hb⟩

theorem texts_holds : Ytbcjancmcajpbaa.Rows.PlanTextsSaid :=
  OpenClaim.holds_of_wide 3 Try.f3 rfl rfl rfl rfl rfl rfl rfl ⟨rfl, rfl, rfl, rfl, rfl⟩ rfl rfl rfl rfl rfl (by kernel_rfl) Try.func3 (by kernel_rfl)
    (of_decide_eq_true (by kernel_rfl)) (by unfold Func.isWrapper; first | (rw [if_pos (by decide +kernel)]; kernel_rfl) | (rw [if_neg (by decide +kernel)]; exact ⟨rfl, rfl⟩))
    (fun os started H enc _ => texts_lifted os started H enc)
end Go.Proofs.Ytbcjancmcajpbaa
