/-
  A part of the proof of PlanChecks, over the seat Ytbcjancmcajpbaa: for every input the law returns true, and the input reads as it did.
-/
import Derived.Test.YtbcjancmcajpbaaR1P
set_option linter.all false
set_option maxRecDepth 100000
set_option maxHeartbeats 4000000
namespace Go.Proofs.Ytbcjancmcajpbaa
open Go Go.RowKit Go.Proofs

structure Ed where
  kind : Int
  at_ : Int
  to_ : Int
  dest : Int
  text : List UInt8
def Ed.cells (e : Ed) : List AVal := [.int .i64 e.kind, .int .i64 e.at_, .int .i64 e.to_, .int .i64 e.dest, .str e.text]

/-- the document's check -/
def chk (e : Ed) (len : Int) : Int × Int × Int :=
  if e.kind = 1 then
    if e.to_ ≠ 0 ∨ e.dest ≠ 0 then (0, 0, 11) else
    if e.at_ < 0 ∨ len < e.at_ then (0, 0, 10) else
    if e.text.length < 1 ∨ plain e.text = false then (0, 0, 11) else
    if 64 < e.text.length then (0, 0, 15) else (len + e.text.length, e.text.length, 0)
  else if e.kind = 2 ∨ e.kind = 3 then
    if e.text ≠ [] ∨ (e.kind = 2 ∧ e.dest ≠ 0) then (0, 0, 11) else
    if e.at_ < 0 ∨ e.to_ ≤ e.at_ ∨ len < e.to_ then (0, 0, 10) else
    if 1024 < e.to_ - e.at_ then (0, 0, 15) else
    if e.kind = 2 then (len - (e.to_ - e.at_), 0, 0) else
    if e.dest < 0 ∨ len < e.dest then (0, 0, 10) else
    if e.at_ ≤ e.dest ∧ e.dest ≤ e.to_ then (0, 0, 41) else (len, e.to_ - e.at_, 0)
  else (0, 0, 11)

section
variable {ro : Nat → Option (List AVal)}

theorem chk8 (e : Ed) {len : Int} (hl : 0 ≤ len ∧ len ≤ 2 ^ 41) (ht : e.text.length ≤ 300) (h : AHeap) {Q : AVal → AHeap → Prop}
    (hq : ∀ a b c, chk e len = (a, b, c) → Q (.tuple [.int .i64 a, .int .i64 b, .int .i64 c]) h) : Ev (cfgR ro) 8 [.agg e.cells, .int .i64 len] h Q := by
  obtain ⟨kind, at_, to_, dest, text⟩ := e
  simp only [Ed.cells] at *
  refine Ev.wp rfl rfl Try.func8 rfl ?_
  simp [Try.f8]
  repeat' (first | (rw [w64 (by omega) (by omega)]) | (refine orD (fun _ => ?_) (fun _ => ?_) <;> simp [*]) | (refine plain14 (by omega) _ ?_ <;> simp [*] <;> refine orB (fun _ => ?_) (fun _ => ?_) <;> simp [*]))
  all_goals (refine hq _ _ _ ?_)
  all_goals (first | (simp [chk, *]; done) | (simp [chk, *]; omega) | ((unfold chk; simp only []; repeat' split) <;> first | rfl | (exfalso; omega) | (simp_all; done) | (simp_all; omega)))
  all_goals trace_state

end
end Go.Proofs.Ytbcjancmcajpbaa
