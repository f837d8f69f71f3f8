/-
  What every operation does to the heap's next number: it goes up.
-/
import Derived.Test.YtbnlhhfobgjeaaaZzSlot
set_option linter.all false
namespace Go.Proofs.Ytbnlhhfobgjeaaa
open Go Go.RowKit

def Nx (h : AHeap) (r : Res (AVal × AHeap)) : Prop := ∀ v h', r = .ok (v, h') → h.next ≤ h'.next
def NxH (h : AHeap) (r : Res AHeap) : Prop := ∀ h', r = .ok h' → h.next ≤ h'.next

theorem Nx.err {h : AHeap} {n : Nat} : Nx h (.err n) := fun _ _ hh => by cases hh
theorem Nx.same {h : AHeap} {v : AVal} : Nx h (.ok (v, h)) := fun _ _ hh => by cases hh; exact Nat.le_refl _
theorem Nx.set {h : AHeap} {v : AVal} {o : Nat} {x : AObj} : Nx h (.ok (v, h.set o x)) := fun _ _ hh => by cases hh; exact Nat.le_refl _
theorem Nx.push {h : AHeap} {v : AVal} {x : AObj} : Nx h (.ok (v, h.push x)) := fun _ _ hh => by cases hh; exact Nat.le_succ _
theorem Nx.del {h : AHeap} {v : AVal} {o : Nat} {x : AObj} : Nx h (.ok (v, (h.del o).push x)) := fun _ _ hh => by cases hh; exact Nat.le_succ _
theorem Nx.bind {α : Type} {h : AHeap} {m : Res α} {f : α → Res (AVal × AHeap)} (hf : ∀ a, Nx h (f a)) : Nx h (m.bind f) := fun v h' hh => by
  obtain ⟨a, _, h2⟩ := Res.bind_ok hh; exact hf a v h' h2
theorem Nx.pure {h : AHeap} {r : Res AVal} : Nx h (pureV h r) := Nx.bind fun _ => Nx.same
theorem NxH.err {h : AHeap} {n : Nat} : NxH h (.err n) := fun _ hh => by cases hh
theorem NxH.set {h : AHeap} {o : Nat} {x : AObj} : NxH h (.ok (h.set o x)) := fun _ hh => by cases hh; exact Nat.le_refl _
theorem NxH.bind {α : Type} {h : AHeap} {m : Res α} {f : α → Res AHeap} (hf : ∀ a, NxH h (f a)) : NxH h (m.bind f) := fun h' hh => by
  obtain ⟨a, _, h2⟩ := Res.bind_ok hh; exact hf a h' h2
theorem Nx.of_H {h : AHeap} {m : Res AHeap} {v : AVal} (hm : NxH h m) : Nx h (m.bind fun h' => .ok (v, h')) := fun _ h' hh => by
  obtain ⟨a, h1, h2⟩ := Res.bind_ok hh; cases h2; exact hm _ h1

theorem storeR_next {c : Cfg} {h : AHeap} {t : Nat} {x v : AVal} : NxH h (storeR c h t x v) := by unfold storeR; repeat' (first | exact Nx.err | exact Nx.same | exact Nx.set | exact Nx.push | exact Nx.del | exact Nx.pure | exact NxH.err | exact NxH.set | (with_reducible refine Nx.bind (fun _ => ?_)) | (with_reducible refine NxH.bind (fun _ => ?_)) | split)
theorem mapUpdateR_next {c : Cfg} {h : AHeap} {t : Nat} {x k v : AVal} : NxH h (mapUpdateR c h t x k v) := by unfold mapUpdateR; repeat' (first | exact Nx.err | exact Nx.same | exact Nx.set | exact Nx.push | exact Nx.del | exact Nx.pure | exact NxH.err | exact NxH.set | (with_reducible refine Nx.bind (fun _ => ?_)) | (with_reducible refine NxH.bind (fun _ => ?_)) | split)
theorem boxR_next {h : AHeap} {v : AVal} : Nx h (boxR h v) := by unfold boxR; repeat' (first | exact Nx.err | exact Nx.same | exact Nx.set | exact Nx.push | exact Nx.del | exact Nx.pure | exact NxH.err | exact NxH.set | (with_reducible refine Nx.bind (fun _ => ?_)) | (with_reducible refine NxH.bind (fun _ => ?_)) | split)
theorem buildSliceR_next {P : Program} {h : AHeap} {t n : Nat} {l : List (Nat × AVal)} : Nx h (buildSliceR P h t n l) := by unfold buildSliceR; repeat' (first | exact Nx.err | exact Nx.same | exact Nx.set | exact Nx.push | exact Nx.del | exact Nx.pure | exact NxH.err | exact NxH.set | (with_reducible refine Nx.bind (fun _ => ?_)) | (with_reducible refine NxH.bind (fun _ => ?_)) | split)
theorem makeSliceR_next {P : Program} {h : AHeap} {t : Nat} {l m : AVal} : Nx h (makeSliceR P h t l m) := by unfold makeSliceR; repeat' (first | exact Nx.err | exact Nx.same | exact Nx.set | exact Nx.push | exact Nx.del | exact Nx.pure | exact NxH.err | exact NxH.set | (with_reducible refine Nx.bind (fun _ => ?_)) | (with_reducible refine NxH.bind (fun _ => ?_)) | split)
theorem appendR_next {c : Cfg} {h : AHeap} {t : Nat} {xt : Option Nat} {l m : AVal} : Nx h (appendR c h t xt l m) := by unfold appendR; repeat' (first | exact Nx.err | exact Nx.same | exact Nx.set | exact Nx.push | exact Nx.del | exact Nx.pure | exact NxH.err | exact NxH.set | (with_reducible refine Nx.bind (fun _ => ?_)) | (with_reducible refine NxH.bind (fun _ => ?_)) | split)
theorem copyR_next {c : Cfg} {h : AHeap} {t : Nat} {l m : AVal} : Nx h (copyR c h t l m) := by unfold copyR; repeat' (first | exact Nx.err | exact Nx.same | exact Nx.set | exact Nx.push | exact Nx.del | exact Nx.pure | exact NxH.err | exact NxH.set | (with_reducible refine Nx.bind (fun _ => ?_)) | (with_reducible refine NxH.bind (fun _ => ?_)) | split)
theorem clearR_next {c : Cfg} {h : AHeap} {t : Nat} {l : AVal} : Nx h (clearR c h t l) := by unfold clearR; repeat' (first | exact Nx.err | exact Nx.same | exact Nx.set | exact Nx.push | exact Nx.del | exact Nx.pure | exact NxH.err | exact NxH.set | (with_reducible refine Nx.bind (fun _ => ?_)) | (with_reducible refine NxH.bind (fun _ => ?_)) | split)
theorem deleteR_next {c : Cfg} {h : AHeap} {t : Nat} {l m : AVal} : Nx h (deleteR c h t l m) := by unfold deleteR; repeat' (first | exact Nx.err | exact Nx.same | exact Nx.set | exact Nx.push | exact Nx.del | exact Nx.pure | exact NxH.err | exact NxH.set | (with_reducible refine Nx.bind (fun _ => ?_)) | (with_reducible refine NxH.bind (fun _ => ?_)) | split)
theorem builtinR_next {c : Cfg} {h : AHeap} {b : Builtin} {ts : Array Nat} {l : List AVal} : Nx h (builtinR c h b ts l) := by
  unfold builtinR
  repeat' (first
    | exact appendR_next | exact copyR_next | exact clearR_next | exact deleteR_next
    | exact Nx.err | exact Nx.same | (with_reducible refine Nx.bind (fun _ => ?_)) | split)

theorem opR_next {c : Cfg} {bad : List Nat} {env : List AVal} {h : AHeap} {o : Oper} : Nx h (opR c bad env h o) := by
  unfold opR
  repeat' (first
    | exact Nx.pure | exact boxR_next | exact buildSliceR_next | exact makeSliceR_next | exact builtinR_next | exact Nx.of_H storeR_next | exact Nx.of_H mapUpdateR_next
    | exact Nx.err | exact Nx.same | exact Nx.push | exact Nx.set | (with_reducible refine Nx.bind (fun _ => ?_)) | split)

end Go.Proofs.Ytbnlhhfobgjeaaa
