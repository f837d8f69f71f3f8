/-
  A part of the proof of ConsoleParses, over the seat YtofnbldbggddmaaGreatDoor: for every input the law returns true, and the input reads as it did.
-/
import Derived.Test.YtofnbldbggddmaaGreatDoorGt
import Derived.Test.YtofnbldbggddmaaGreatDoorGv
set_option linter.all false
set_option linter.all false
set_option maxRecDepth 1000000
set_option maxHeartbeats 4000000
namespace Go.Proofs.YtofnbldbggddmaaGreatDoor
open Go Go.RowKit Go.Proofs Go.ChangeShapes Go.WideShapes Go.ChangeAt

theorem consoleParses_lifted (os : Os) (started : os.Started) (H : Type) (enc : TypeId × Value → H) :
    ReturnsInHanded {} Tryz.checked os 5 .any (fun w args => (YtofnbldbggddmaaGreatDoor.Rows.consoleParsesSpec.pre enc Tryz.prog Tryz.f5 [] false w args ∧ laidMetH Tryz.prog laidL w) ∧ sizedMet enc Tryz.prog Tryz.f5 (OpenSpec.ofChange YtofnbldbggddmaaGreatDoor.Rows.consoleParsesSpec) false w args) (YtofnbldbggddmaaGreatDoor.Rows.consoleParsesSpec.post enc Tryz.prog Tryz.f5 false true false false) := by
  refine returnsInHanded_of_change_and (C := Tryz.checked) (X := fun w _ => laidMetH Tryz.prog laidL w) (fun _ _ _ hh h => h.of_heap hh) own started (by kernel_rfl) Tryz.func5
    (ChangeSpec.witness_at (enc := enc) (C := Tryz.checked) (os := os) (X := fun w _ => laidMetH Tryz.prog laidL w) false (w0 os) #[.string ByteArray.empty] 8 rfl (by kernel_rfl) (by kernel_rfl) (by kernel_rfl) (by kernel_rfl) (by kernel_rfl) (w0_met os _)) ?_
  intro W base args ds gs before hval0 hW hcnd hsz hL _
  have hval : ∀ (j : Nat) t v, Tryz.f5.params[j]? = some t → args[j]? = some v → Value.okWide Tryz.prog W .any base t v := hval0
  have hW' := hW
  have hlt := hW.lt
  obtain ⟨p, q, hA0, hV, rfl, hfz, hnd⟩ := hW
  have hA : DataW.TrodAll enc Tryz.prog W 0 (fun _ => true) true Tryz.f5.params.toList args.toList ds p := hA0
  have hA1 := hA
  rw [Tryz.params5] at hA hval
  obtain ⟨v0, d0, rfl, rfl, h0⟩ := trodAll_one hA
  obtain ⟨rfl, rfl⟩ := trodVars_none hV
  have hro := anchor30 (words_of hL) (root_of hL)
  obtain ⟨s0, e0, hs0⟩ := argStr Tryz.underlying9 (hval 0 9 v0 rfl rfl)
  obtain ⟨k, v, h', hq, rfl⟩ := ConsoleParses_ev (words_of hL) hro s0
  refine (entryG (c := cfg) sureG (gw_of hL) (args := #[v0]) (k := k) (v := .bool true) (h' := h') Tryz.func5 rfl rfl (by rw [show (#[v0] : Array Value).toList.map absV = [absV v0] from rfl, e0]; exact hq)).mono fun e W' ⟨u, ι, he, hv, hb⟩ => ?_
  have hu : u = .bool true := hv
  subst hu
  refine ⟨_, he, post_below hW' (fun b sp hd => trodAll_mk1 (shut_bool Tryz.underlying4 true)) (trodAll_below laidOut hb (by kernel_rfl) hA1 (fun x hx => hlt x (by simpa using hx))) (by exact rfl) hb⟩
end Go.Proofs.YtofnbldbggddmaaGreatDoor
