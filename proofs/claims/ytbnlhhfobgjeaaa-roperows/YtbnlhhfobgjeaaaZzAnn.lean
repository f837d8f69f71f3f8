/-
  A program's reading from a list of annotations.
-/
import Derived.Test.YtbnlhhfobgjeaaaZzEntry
set_option linter.all false
namespace Go.Proofs.Ytbnlhhfobgjeaaa
open Go Go.RowKit

def annOf : List (Nat × FnAnn) → Nat → FnAnn
  | [], _ => {}
  | x :: l, f => match Nat.beq x.1 f with
    | true => x.2
    | false => annOf l f

theorem annOf_mem : ∀ {l : List (Nat × FnAnn)} {f : Nat}, (annOf l f).ok = true → ∃ x ∈ l, x.1 = f ∧ annOf l f = x.2
  | [], f, h => by cases h
  | x :: l, f, h => by
    unfold annOf at h ⊢
    cases hb : Nat.beq x.1 f with
    | true => exact ⟨x, by simp, Nat.eq_of_beq_eq_true hb, rfl⟩
    | false =>
      rw [hb] at h
      obtain ⟨y, h1, h2, h3⟩ := annOf_mem (l := l) h
      exact ⟨y, by simp [h1], h2, h3⟩

/-- the check of one function -/
def fnOk (P : Program) (x : Nat × FnAnn) : Bool :=
  match P.funcs[x.1]? with
  | some fn => match fn.body with
    | some code => codeOk P x.2.locals code && !(fn.name == "runtime.NumGoroutine")
    | none => true
  | none => true

theorem code_of {P : Program} {l : List (Nat × FnAnn)} (h : l.all (fnOk P) = true) : ∀ f fn code, (annOf l f).ok = true → P.funcs[f]? = some fn → fn.body = some code → codeOk P (annOf l f).locals code = true ∧ (fn.name == "runtime.NumGoroutine") = false := by
  intro f fn code h1 h2 h3
  obtain ⟨x, x1, x2, x3⟩ := annOf_mem h1
  have := List.all_eq_true.1 h x x1
  unfold fnOk at this
  rw [x2, h2] at this
  simp only [h3, Bool.and_eq_true, Bool.not_eq_true'] at this
  rw [x3]; exact this

end Go.Proofs.Ytbnlhhfobgjeaaa
