/-
  A part of the proof of RopeRows, over the seat Ytbnlhhfobgjeaaa: for every input the law returns true, and the input reads as it did.
-/
import Derived.Test.YtbnlhhfobgjeaaaR2D
set_option linter.all false
set_option maxRecDepth 100000
set_option maxHeartbeats 4000000
namespace Go.Proofs.Ytbnlhhfobgjeaaa
open Go Go.RowKit Go.Proofs
section
variable {c : Cfg} {f : Nat} {K : List AVal → AHeap → Prop} {E : Nat → List AVal → AHeap → Prop} {R : List AVal → AHeap → Prop} {G : Nat → List AVal → AHeap → Prop}
theorem scope_loop {l : Nat} {rest : Code} (I : Nat → List AVal → AHeap → Prop)
    (hI : ∀ n env h, (∀ m, m < n → ∀ env h, I m env h → scpG c f K E R G ((Code.label l).seq rest) l env h) → I n env h → wp c f rest K E R (scpG c f K E R G ((Code.label l).seq rest)) env h) (n : Nat) {env : List AVal} {h : AHeap} (h0 : I n env h) :
    wp c f (.label l) (seqK c f K E R (scpG c f K E R G ((Code.label l).seq rest)) rest) E R (scpG c f K E R G ((Code.label l).seq rest)) env h := by
  have hl : findLabel ((Code.label l).seq rest) l = some (Code.skip.seq rest) := by simp [findLabel]
  have key : ∀ n {env : List AVal} {h : AHeap}, I n env h → scpG c f K E R G ((Code.label l).seq rest) l env h := by
    intro n
    induction n using Nat.strongRecOn with
    | _ n ih =>
      intro env h h0
      unfold scpG
      rw [hl]
      exact label_of (rest := Code.skip.seq rest) (hI n env h (fun m hm env h q => ih m hm q) h0)
  exact hI n env h (fun m _ env h q => key m q) h0
end
theorem xor_nat (a b : Int) : ∃ v : Nat, ixor .u64 a b = v := by
  unfold ixor
  rw [wrap64]
  exact ⟨Int.toNat _, (Int.toNat_of_nonneg (Int.emod_nonneg _ (by decide))).symm⟩
section
variable {ro : Nat → Option (List AVal)}
theorem below22 {h : AHeap} {n m ht sz mt ms : Nat} {u l r mu ml mr : AVal} {x all mx mall : Str} (b : Bool) (hn : h.get n = some (nrow u l r ht sz x all)) (hm : h.get m = some (nrow mu ml mr mt ms mx mall)) (d : n ≠ m) {Q : AVal → AHeap → Prop}
    (hq : ∀ h', h'.get n = some (nrow (.ptr m 0) l r ht sz x all) → h'.get m = some (nrow mu (if b then .ptr n 0 else ml) (if b then mr else .ptr n 0) mt ms mx mall) → (∀ o, o ≠ n → o ≠ m → h'.get o = h.get o) → h'.next = h.next → Q (.tuple []) h') : Ev (cfgR ro) 22 [.ptr n 0, .ptr m 0, .bool b] h Q := by
  refine Ev.wp rfl rfl Try.func22 rfl ?_
  rw [nrow] at hn hm
  cases b with
  | true =>
    simp -implicitDefEqProofs [Try.f22, hn, hm, get_set_ne d, get_set_ne (Ne.symm d)]
    refine hq _ ?_ ?_ (fun o a b => ?_) rfl
    · rw [get_set_ne (Ne.symm d), get_set_self]; rfl
    · rw [get_set_self]; rfl
    · rw [get_set_ne (Ne.symm b), get_set_ne (Ne.symm a)]
  | false =>
    simp -implicitDefEqProofs [Try.f22, hn, hm, get_set_ne d, get_set_ne (Ne.symm d)]
    refine hq _ ?_ ?_ (fun o a b => ?_) rfl
    · rw [get_set_ne (Ne.symm d), get_set_self]; rfl
    · rw [get_set_self]; rfl
    · rw [get_set_ne (Ne.symm b), get_set_ne (Ne.symm a)]
theorem draw21 {h : AHeap} {rr : Nat} {p : AVal} {s : Int} (hr : h.get rr = some (rrow p s)) {Q : AVal → AHeap → Prop}
    (hq : ∀ (v : Nat) (s' : Int), Q (.int .u64 v) (h.set rr (rrow p s'))) : Ev (cfgR ro) 21 [.ptr rr 0] h Q := by
  refine Ev.wp rfl rfl Try.func21 rfl ?_
  rw [rrow] at hr
  simp -implicitDefEqProofs [Try.f21, hr]
  obtain ⟨v, hv⟩ := xor_nat (IntKind.u64.wrap (ixor .u64 (IntKind.u64.wrap (s + 11400714819323198485)) (ishr .u64 (IntKind.u64.wrap (s + 11400714819323198485)) 30) * 13787848793156543929)) (ishr .u64 (IntKind.u64.wrap (ixor .u64 (IntKind.u64.wrap (s + 11400714819323198485)) (ishr .u64 (IntKind.u64.wrap (s + 11400714819323198485)) 30) * 13787848793156543929)) 27)
  rw [hv]
  exact hq v _
/-- the leftmost place -/
def Rt.lm : Rt Str → AVal
  | .nil => .nilp
  | .node o _ _ .nil _ => .ptr o 0
  | .node _ _ _ (.node o2 h2 x2 l2 r2) _ => Rt.lm (.node o2 h2 x2 l2 r2)
theorem leftmost23 {h : AHeap} {up : AVal} {t : Rt Str} (ha : At TS h up t) {Q : AVal → AHeap → Prop} (hq : Q t.lm h) : Ev (cfgR ro) 23 [t.ptr] h Q := by
  refine Ev.wp rfl rfl Try.func23 rfl ?_
  simp -implicitDefEqProofs [Try.f23]
  refine scope_loop (fun m env h' => h' = h ∧ ∃ t' up, At TS h up t' ∧ t'.lm = t.lm ∧ m = t'.items.length ∧ env = (t'.ptr :: .dead :: .dead :: .dead :: .dead :: .dead :: .dead :: .dead :: .dead :: .dead :: .dead :: .dead :: .dead :: .dead :: .dead :: .dead :: .dead :: [])) ?_ _ ⟨rfl, t, up, ha, rfl, rfl, rfl⟩
  rintro m env h' ih ⟨rfl, t', up', ha', hlm, rfl, rfl⟩
  cases t' with
  | nil =>
    simp -implicitDefEqProofs [Rt.ptr]
    rw [← hlm] at hq
    exact hq
  | node o ht x l r =>
    obtain ⟨a1, a2, a3⟩ := at_node.1 ha'
    rw [nrow] at a1
    cases l with
    | nil =>
      rw [ptr_nil] at a1
      simp -implicitDefEqProofs [ptr_node, a1]
      rw [← hlm] at hq
      exact hq
    | node o2 h2 x2 l2 r2 =>
      rw [ptr_node] at a1
      simp -implicitDefEqProofs [ptr_node, a1]
      refine ih _ ?_ _ _ ⟨rfl, _, _, a2, by rw [← hlm]; rfl, rfl, rfl⟩
      simp [Rt.items]
end
end Go.Proofs.Ytbnlhhfobgjeaaa
