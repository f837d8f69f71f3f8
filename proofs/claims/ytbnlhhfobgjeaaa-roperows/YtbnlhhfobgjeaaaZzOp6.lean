/-
  append, copy, clear; rows that are made; conversions that read or make memory; lengths.
-/
import Derived.Test.YtbnlhhfobgjeaaaZzOp5
set_option linter.all false
namespace Go.Proofs.Ytbnlhhfobgjeaaa
open Go Go.RowKit

section
variable {P : Program} {w : World}

theorem notMake_ok {x : Option Nat} (hq : notMake P x = .ok ()) : x = none ∨ ∃ t d, x = some t ∧ P.underlying t = some d ∧ ∀ k, d = .int k → False := by
  unfold notMake at hq
  split at hq
  · obtain ⟨d, hd, hq⟩ := Res.bind_ok hq
    refine .inr ⟨_, d, rfl, undR_ok hd, ?_⟩
    rintro k rfl
    cases hq
  · exact .inl rfl

set_option maxHeartbeats 1000000 in
theorem append_in {ts : Array TypeId} {ty t e : Nat} {i : TypeInfo} (h0 : ts[0]? = some t) (hu : P.underlying t = some (.slice e)) (hi : P.info? e = some i) (hn : notMake P ts[1]? = .ok ())
    {a : Addr} {sLen sCap n : Nat} {x : Value} {cs : Array Value} {w' : World} (hl : (Builtin.lenOf x).run P w = .ok n w) (hle : sLen + n ≤ sCap) (hf : (Builtin.firstCells i.size n x).run P w = .ok cs w)
    (hs : (storeCells (a.add (sLen * i.size)) cs.toList).run P w = .ok () w') : (Builtin.append_ ts ty #[.slice (some a) sLen sCap, x]).run P w = .ok (.slice (some a) (sLen + n) sCap) w' := by
  rcases notMake_ok hn with h1 | ⟨u, d, h1, h2, h3⟩
  · simp [Builtin.append_, h0, h1, run_und hu, run_sizeOf' hi, hl, hle, hf, hs]
  · simp [Builtin.append_, h0, h1, run_und hu, run_und h2, run_sizeOf' hi, hl, hle, hf, hs]

set_option maxHeartbeats 1000000 in
theorem append_in_nil {ts : Array TypeId} {ty t e : Nat} {i : TypeInfo} (h0 : ts[0]? = some t) (hu : P.underlying t = some (.slice e)) (hi : P.info? e = some i) (hn : notMake P ts[1]? = .ok ())
    {x : Value} {cs : Array Value} (hl : (Builtin.lenOf x).run P w = .ok 0 w) (hf : (Builtin.firstCells i.size 0 x).run P w = .ok cs w) :
    (Builtin.append_ ts ty #[.slice none 0 0, x]).run P w = .ok (.slice none 0 0) w := by
  rcases notMake_ok hn with h1 | ⟨u, d, h1, h2, h3⟩
  · simp [Builtin.append_, h0, h1, run_und hu, run_sizeOf' hi, hl, hf]
  · simp [Builtin.append_, h0, h1, run_und hu, run_und h2, run_sizeOf' hi, hl, hf]

set_option maxHeartbeats 4000000 in
theorem append_new {ts : Array TypeId} {ty t e : Nat} {i : TypeInfo} (h0 : ts[0]? = some t) (hu : P.underlying t = some (.slice e)) (hi : P.info? e = some i) (hn : notMake P ts[1]? = .ok ())
    {base : Option Addr} {sLen sCap n : Nat} {x : Value} {cs old : Array Value} {z : Value} (hl : (Builtin.lenOf x).run P w = .ok n w) (hle : ¬ sLen + n ≤ sCap) (hb : i.bytes ≠ 0)
    (hroom : ¬ (281474976710656 < Builtin.nextslicecap (sLen + n) sCap * i.bytes)) (hf : ∀ d, (Builtin.firstCells i.size n x).run P { w with drawn := d } = .ok cs { w with drawn := d })
    (ho : ∀ d, (Builtin.firstCells i.size sLen (.slice base sLen sCap)).run P { w with drawn := d } = .ok old { w with drawn := d }) (hz : ∀ w, (zeroValue e).run P w = .ok z w) :
    ∃ newCap, sLen + n ≤ newCap ∧ (Builtin.append_ ts ty #[.slice base sLen sCap, x]).run P w =
      .ok (.slice (some ⟨w.heap.size, 0, none⟩) (sLen + n) newCap) { w with drawn := w.drawn + 1, heap := w.heap.push (.cells (old ++ cs ++ Builtin.zeroCells z.cells (newCap - (sLen + n))) e) } := by
  obtain ⟨nc, hnc, hch⟩ : ∃ nc, sLen + n ≤ nc ∧ (choose (.appendCap (sLen + n) sCap e)).run P w = .ok nc { w with drawn := w.drawn + 1 } := by
    refine ⟨sLen + n + w.tape w.drawn (.appendCap (sLen + n) sCap e) % (2 ^ 63 - (sLen + n)), Nat.le_add_right _ _, ?_⟩
    rw [run_choose, if_neg (by simp [Question.forced])]
    simp only [Question.cut]
  refine ⟨nc, hnc, ?_⟩
  have hf' : (Builtin.firstCells i.size n x).run P w.drew = .ok cs w.drew := hf (w.drawn + 1)
  have ho' : (Builtin.firstCells i.size sLen (.slice base sLen sCap)).run P w.drew = .ok old w.drew := ho (w.drawn + 1)
  have hch' : (choose (.appendCap (sLen + n) sCap e)).run P w = .ok nc w.drew := hch
  have hfin : (Go.newRow e (old ++ (cs ++ Builtin.zeroCells z.cells (nc - (sLen + n))))).run P w.drew =
      .ok ⟨w.heap.size, 0, none⟩ { w with drawn := w.drawn + 1, heap := w.heap.push (.cells (old ++ cs ++ Builtin.zeroCells z.cells (nc - (sLen + n))) e) } := by
    rw [Array.append_assoc]; rfl
  clear hf ho hch
  rcases notMake_ok hn with h1 | ⟨u, d, h1, h2, h3⟩
  · simp [-run_choose, Builtin.append_, h0, h1, run_und hu, run_sizeOf' hi, run_typeInfo' hi, hl, hle, hb, hroom, hch', hf', ho', hz, hfin]
  · simp [-run_choose, Builtin.append_, h0, h1, run_und hu, run_und h2, run_sizeOf' hi, run_typeInfo' hi, hl, hle, hb, hroom, hch', hf', ho', hz, h3, hfin]
end
end Go.Proofs.Ytbnlhhfobgjeaaa
