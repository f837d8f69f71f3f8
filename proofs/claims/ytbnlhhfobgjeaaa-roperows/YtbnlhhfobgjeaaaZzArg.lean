/-
  The arguments of a call from outside, each by its type.
-/
import Derived.Test.YtbnlhhfobgjeaaaZzRead
import Derived.Carry
set_option linter.all false
namespace Go.Proofs.Ytbnlhhfobgjeaaa
open Go Go.RowKit

section
variable {H : Type} {enc : TypeId × Value → H} {P : Program} {w : World} {sp : Nat → Bool} {held : Bool} {r : Reach} {b0 t : Nat} {v : Value} {d : DataW H} {ps : List MemPlace}

theorem argStr (ht : P.underlying t = some .string) (hval : Value.okWide P w r b0 t v) : ∃ s, absV v = .str s ∧ s.length < 2 ^ 63 := by
  obtain ⟨s, rfl⟩ := WideShapes.okWide_string ht hval
  refine ⟨s.data.toList, rfl, ?_⟩
  simp only [Value.okWide, ht, Cell.okWide, Cell.ok] at hval
  have h0 : s.data.toList.length = s.size := Array.length_toList
  have h1 : IntKind.i64.max = 2 ^ 63 - 1 := by decide
  rw [h1] at hval
  omega

theorem argInt {k : IntKind} (ht : P.underlying t = some (.int k)) (hval : Value.okWide P w r b0 t v) : ∃ n, absV v = .int k n ∧ k.min ≤ n ∧ n ≤ k.max := by
  obtain ⟨n, rfl⟩ := WideShapes.okWide_int ht hval
  simp only [Value.okWide, ht, Cell.okWide, Cell.ok] at hval
  exact ⟨n, rfl, hval.2⟩

theorem argBool (ht : P.underlying t = some .bool) (hval : Value.okWide P w r b0 t v) : ∃ b, absV v = .bool b := by
  obtain ⟨b, rfl⟩ := WideShapes.okWide_bool ht hval
  exact ⟨b, rfl⟩

theorem argSlice {e : Nat} (hcov : coverAll P = true) (htl : t < P.types.size) (ht : P.underlying t = some (.slice e)) (hz : P.cellsOf e ≠ 0) (hval : Value.okWide P w r b0 t v) (hd : DataW.Trod enc P w 0 sp held t v d ps) :
    ∃ (ess : List (List AVal)) (n : Nat), (∀ x ∈ ess, x.length = P.cellsOf e ∧ Rdg P (roW w) n e x) ∧ ess.length < 2 ^ 63 ∧ ∀ (c : Cfg) (h : AHeap), c.ro = roW w → Sl c h (P.cellsOf e) (absV v) ess := by
  obtain ⟨fuel, hf⟩ := hd
  obtain ⟨a, len, cap, rfl⟩ := WideShapes.okWide_slice ht hval
  have h1 := rdg_of hcov _ _ _ _ htl hf
  cases fuel with
  | zero => simp [DataW.trod] at hf
  | succ n =>
    have h2 := h1.2
    simp only [Rdg, ht] at h2
    have hc : (Value.slice a len cap).cells.toList = [.slice a len cap] := by simp [Value.cells]
    rw [hc] at h2
    simp only [List.map_cons, List.map_nil, List.cons.injEq, and_true] at h2
    have hv : absV (Value.slice a len cap) = absC (Value.slice a len cap) := rfl
    rcases h2 with h2 | h2 | ⟨q, ess, h2, h3, h4, h5⟩
    · exact ⟨[], 0, by simp, by simp, fun c h _ => by rw [hv, h2]; exact Sl.nil⟩
    · exfalso
      simp only [Value.okWide, ht] at hval
      unfold Cell.okWide Cell.ok at hval
      rw [ht] at hval
      cases a with
      | none =>
        rcases len with _ | len <;> rcases cap with _ | cap
        · simp [absC] at h2
        all_goals exact hval
      | some a =>
        simp only at hval
        obtain ⟨hl, _, _, hs, _⟩ := hval
        obtain ⟨b, o, s⟩ := a
        simp only at hs; subst hs
        simp [absC, hl] at h2
    · refine ⟨ess, n, h5, h3, fun c h hc => ?_⟩
      rw [hv, h2]
      refine ⟨rfl, (fun s h => by cases h), fun hne => ?_, trivial, (fun _ _ _ h => by cases h)⟩
      obtain ⟨vs, h6, h7⟩ := h4 hz hne
      refine ⟨vs, 0, by simp [rowOf, hc, h6], fun i e' he => ⟨(h5 e' (List.mem_of_getElem? he)).1, by rw [Nat.zero_add]; exact h7 i e' he⟩⟩

theorem argAgg {fs : Array Field} (hcov : coverAll P = true) (htl : t < P.types.size) (ht : P.underlying t = some (.struct fs)) (hval : Value.okWide P w r b0 t v) (hd : DataW.Trod enc P w 0 sp held t v d ps) :
    ∃ (cs : List AVal) (n : Nat), absV v = .agg cs ∧ Rdg P (roW w) n t cs := by
  obtain ⟨fuel, hf⟩ := hd
  obtain ⟨cs, rfl, _⟩ := WideShapes.okWide_struct ht hval
  have h1 := rdg_of hcov _ _ _ _ htl hf
  have hc : (Value.agg cs).cells = cs := rfl
  rw [hc] at h1
  refine ⟨cs.toList.map absC, fuel, ?_, h1.2⟩
  unfold absV
  simp only
  rw [if_pos (List.all_eq_true.2 h1.1)]

theorem rdg_int {k : IntKind} {ro n cs} (ht : P.underlying t = some (.int k)) (h : Rdg P ro n t cs) : ∃ i, cs = [.int k i] ∧ k.min ≤ i ∧ i ≤ k.max := by
  cases n with
  | zero => exact h.elim
  | succ n => simpa only [Rdg, ht] using h
theorem rdg_str {ro n cs} (ht : P.underlying t = some .string) (h : Rdg P ro n t cs) : ∃ s, cs = [.str s] ∧ s.length < 2 ^ 63 := by
  cases n with
  | zero => exact h.elim
  | succ n => simpa only [Rdg, ht] using h
theorem rdg_bool {ro n cs} (ht : P.underlying t = some .bool) (h : Rdg P ro n t cs) : ∃ b, cs = [.bool b] := by
  cases n with
  | zero => exact h.elim
  | succ n => simpa only [Rdg, ht] using h
theorem rdg_struct {fs : Array Field} {ro n cs} (ht : P.underlying t = some (.struct fs)) (h : Rdg P ro n t cs) : cs.length = P.cellsOf t ∧ ∃ m, ∀ (i : Nat) (f : Field), fs[i]? = some f → Rdg P ro m f.type ((cs.drop f.offset).take (P.cellsOf f.type)) := by
  cases n with
  | zero => exact h.elim
  | succ n => 
    simp only [Rdg, ht] at h
    exact ⟨h.1, n, h.2⟩
end

theorem trodAll_below {H : Type} {enc : TypeId × Value → H} {P : Program} (hl : laidOutB P = true) {W W' : World} (hb : Below W.heap.size W W') : ∀ {ts : List TypeId} {vs : List Value} {ds : List (DataW H)} {ps : List MemPlace},
    ts.all (fun t => P.readableRec t && decide (t < P.types.size)) = true → DataW.TrodAll enc P W 0 (fun _ => true) true ts vs ds ps → (∀ x ∈ ps, x.block < W.heap.size) →
    DataW.TrodAll enc P W' 0 (fun b => decide (b < W.heap.size)) true ts vs ds ps
  | [], [], [], ps, _, h, _ => h
  | t :: ts, v :: vs, d :: ds, ps, hr, h, hlt => by
    obtain ⟨p, q, h1, h2, rfl⟩ := h
    simp only [List.all_cons, Bool.and_eq_true, decide_eq_true_eq] at hr
    exact ⟨p, q, Below.trod hl hr.1.1 hr.1.2 h1 hb (fun x hx => hlt x (List.mem_append.2 (.inl hx))), trodAll_below hl hb (by simpa using hr.2) h2 (fun x hx => hlt x (List.mem_append.2 (.inr hx))), rfl⟩
  | [], [], _ :: _, _, _, h, _ => h.elim
  | [], _ :: _, _, _, _, h, _ => h.elim
  | _ :: _, [], _, _, _, h, _ => h.elim
  | _ :: _, _ :: _, [], _, _, h, _ => h.elim

end Go.Proofs.Ytbnlhhfobgjeaaa
