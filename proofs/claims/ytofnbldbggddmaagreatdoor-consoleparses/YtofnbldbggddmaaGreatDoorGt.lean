/-
  A part of the proof of ConsoleParses, over the seat YtofnbldbggddmaaGreatDoor: for every input the law returns true, and the input reads as it did.
-/
import Derived.Test.YtofnbldbggddmaaGreatDoorGs
set_option linter.all false
set_option linter.all false
set_option maxRecDepth 1000000
set_option maxHeartbeats 4000000
namespace Go.Proofs.YtofnbldbggddmaaGreatDoor
open Go Go.RowKit Go.Proofs Go.ChangeShapes Go.WideShapes Go.ChangeAt
theorem trod_err {P : Program} {w : World} {fuel : Nat} {t : TypeId} {cs : List Value} {d : DataW Unit} {p : List MemPlace} {ms : _} (ht : P.underlying t = some (.interface ms)) (h : DataW.trod (fun _ => ()) P w 0 (fun _ => true) false fuel t cs = some (d, p)) :
    ∃ ev, cs = [ev] ∧ (ev = .nilIface ∨ ∃ te pe, ev = .iface te pe) := by
  cases fuel with
  | zero => simp [DataW.trod] at h
  | succ fuel =>
    simp only [DataW.trod, ht] at h
    split at h
    all_goals first
      | exact ⟨_, rfl, .inl rfl⟩
      | exact ⟨_, rfl, .inr ⟨_, _, rfl⟩⟩
      | (rename_i h1; cases h1; done)
      | (rename_i h1 _; cases h1; done)
      | (rename_i h1 _ _; cases h1; done)
      | (cases h; done)
theorem err_of {W : World} (h : laidMetH Tryz.prog laidL W) {n : String} {d : DataW Unit} {g : Nat} (hm : (n, d) ∈ laidL) (hg : Tryz.prog.globalNamed n = some g) (ht : (Tryz.prog.globals[g]?).map (·.type) = some 60) : ∃ ev, W.cell? ⟨g, 0, none⟩ = some ev ∧ (ev = .nilIface ∨ ∃ te pe, ev = .iface te pe) := by
  rw [laid_plain] at h
  obtain ⟨ps, hv, _, _⟩ := h
  obtain ⟨g', t, cs, fuel, p, e1, e2, e3, e4⟩ := laid_get hv n d hm
  rw [hg] at e1
  cases e1
  rw [ht] at e2
  cases e2
  obtain ⟨ev, h1, h2⟩ := trod_err Tryz.underlying60 e4
  refine ⟨ev, ?_, h2⟩
  have := World.var?_cell hg e3 0
  rw [this, ← Array.getElem?_toList, h1]; rfl
theorem gw_of {W : World} (h : laidMetH Tryz.prog laidL W) : GW W := by
  refine ⟨err_of h (n := "strconv.ErrSyntax") (d := YtofnbldbggddmaaGreatDoor.Rows.laid_strconv_ErrSyntax) (by simp) (by kernel_rfl) (by kernel_rfl), err_of h (n := "strconv.ErrRange") (d := YtofnbldbggddmaaGreatDoor.Rows.laid_strconv_ErrRange) (by simp) (by kernel_rfl) (by kernel_rfl), ?_⟩
  rw [laid_plain] at h
  obtain ⟨ps, hv, _, _⟩ := h
  obtain ⟨g, t, cs, fuel, p, e1, e2, e3, e4⟩ := laid_get hv "internal/strconv.uint64pow10" YtofnbldbggddmaaGreatDoor.Rows.laid_internal_strconv_uint64pow10 (by simp)
  have hg : Tryz.prog.globalNamed "internal/strconv.uint64pow10" = some 6 := by kernel_rfl
  rw [hg] at e1
  cases e1
  have ht : (Tryz.prog.globals[(6 : Nat)]?).map (·.type) = some 264 := by kernel_rfl
  rw [ht] at e2
  cases e2
  unfold Lib.TabIs
  rw [e3]
  have := Lib.cells_of_tab (k := .u64) (zs := Lib.pow10Tab) (n := 20) (e := 110) (by kernel_rfl) (by kernel_rfl) (by kernel_rfl) (by kernel_rfl) e4
  rw [← this]
end Go.Proofs.YtofnbldbggddmaaGreatDoor
