/-
  A part of the proof of PlanChecks, over the seat Ytbcjancmcajpbaa: for every input the law returns true, and the input reads as it did.
-/
import Derived.Test.YtbcjancmcajpbaaR1Base
set_option linter.all false
set_option maxRecDepth 100000
namespace Go.Proofs.Ytbcjancmcajpbaa
open Go Go.RowKit Go.Proofs

def plainB (b : UInt8) : Bool := b == 10 || (decide (32 ≤ b.toNat) && decide (b.toNat ≤ 126))
def plain (s : List UInt8) : Bool := s.all plainB

theorem plain_true {s : List UInt8} {i : Nat} (hi : s.length ≤ i) (hp : ∀ b ∈ s.take i, plainB b = true) : plain s = true := by
  rw [List.take_of_length_le hi] at hp
  unfold plain; rw [List.all_eq_true]; exact hp
theorem plain_false {s : List UInt8} {i : Nat} (h : i < s.length) (hb : plainB s[i] = false) : plain s = false := by
  unfold plain; rw [List.all_eq_false]; exact ⟨s[i], List.getElem_mem h, by simp [hb]⟩
theorem plain_step {s : List UInt8} {i : Nat} (h : i < s.length) (hp : ∀ b ∈ s.take i, plainB b = true) (hb : plainB s[i] = true) : ∀ b ∈ s.take (i + 1), plainB b = true := by
  intro b hm
  rw [List.take_succ_eq_append_getElem h, List.mem_append] at hm
  rcases hm with hm | hm
  · exact hp b hm
  · rw [List.mem_singleton.1 hm]; exact hb
theorem plainB_iff (b : UInt8) : plainB b = decide (b.toNat = 10 ∨ (32 ≤ b.toNat ∧ b.toNat ≤ 126)) := by
  unfold plainB
  rw [Bool.eq_iff_iff]
  simp only [Bool.or_eq_true, beq_iff_eq, Bool.and_eq_true, decide_eq_true_eq]
  rw [show b = 10 ↔ b.toNat = 10 from ⟨fun h => by rw [h]; rfl, fun h => by rw [← UInt8.toNat_inj, h]; rfl⟩]

section
variable {ro : Nat → Option (List AVal)}

theorem plain14 {s : List UInt8} (hs : s.length < 2 ^ 60) (h : AHeap) {Q : AVal → AHeap → Prop} (hq : Q (.bool (plain s)) h) : Ev (cfgR ro) 14 [.str s] h Q := by
  refine Ev.wp rfl rfl Try.func14 rfl ?_
  simp [Try.f14]
  obtain ⟨I, hI⟩ : ∃ I : Nat → List AVal → AHeap → Prop, I = fun m env h' => ∃ i : Nat, i + m = s.length ∧ h' = h ∧ (∀ b ∈ s.take i, plainB b = true) ∧ env = (.str s :: .dead :: .dead :: .int .i64 i :: .dead :: .dead :: .dead :: .dead :: .dead :: .dead :: .dead :: .dead :: .dead :: .dead :: .dead :: .dead :: .dead :: .dead :: .dead :: .dead :: .dead :: .dead :: .dead :: .dead :: .dead :: .dead :: []) := ⟨_, rfl⟩
  refine loop_of I ?_ s.length (by rw [hI]; exact ⟨0, by simp, rfl, by simp, by simp⟩)
  rintro n env h' hi
  have hi' := hi
  rw [hI] at hi'
  obtain ⟨i, hi, rfl, hp, rfl⟩ := hi'
  simp
  refine orD (fun h => ?_) (fun h => ?_)
  · simp [ix_nat h, List.getElem?_eq_getElem h]
    have hstep : plainB s[i] = true → I (n - 1) (.str s :: .dead :: .dead :: .int .i64 (IntKind.i64.wrap (i + 1)) :: .dead :: .dead :: .dead :: .dead :: .dead :: .dead :: .dead :: .dead :: .dead :: .dead :: .dead :: .dead :: .dead :: .dead :: .dead :: .dead :: .dead :: .dead :: .dead :: .dead :: .dead :: .dead :: []) h' := by
      intro hb
      rw [hI, w64 (by omega) (by omega)]
      exact ⟨i + 1, by omega, rfl, plain_step h hp hb, rfl⟩
    rw [plainB_iff, decide_eq_true_eq] at hstep
    have hpf := plain_false h
    rw [plainB_iff, decide_eq_false_iff_not] at hpf
    refine orD (fun h1 => ?_) (fun h1 => ?_)
    · simp [h1, ix_nat h, List.getElem?_eq_getElem h]
      exact .mk (by omega) (hstep (by omega))
    · simp [h1, ix_nat h, List.getElem?_eq_getElem h]
      refine orD (fun h2 => ?_) (fun h2 => ?_)
      · simp [h1, h2]
        rw [hpf (by omega)] at hq; exact hq
      · simp [h1, h2, ix_nat h, List.getElem?_eq_getElem h]
        refine orD (fun h3 => ?_) (fun h3 => ?_)
        · simp [h3]
          rw [hpf (by omega)] at hq; exact hq
        · simp [h3]
          exact .mk (by omega) (hstep (by omega))
  · simp
    rw [plain_true (by omega) hp] at hq; exact hq

theorem plain17 {s : List UInt8} (hs : s.length < 2 ^ 60) (hp0 : AHeap) {Q : AVal → AHeap → Prop} (hq : ∀ h', Old hp0 h' → Q (.bool (plain s)) h') : Ev (cfgR ro) 17 [.str s] hp0 Q := by
  refine Ev.wp rfl rfl Try.func17 rfl ?_
  simp [Try.f17]
  obtain ⟨I, hI⟩ : ∃ I : Nat → List AVal → AHeap → Prop, I = fun m env h' => ∃ i : Nat, i + m = s.length ∧ h' = (hp0.push (AObj.row 1 true (List.map (fun x => .int .u8 x.toNat) s))) ∧ (∀ b ∈ s.take i, plainB b = true) ∧ env = (.dead :: .dead :: .dead :: .dead :: .dead :: .dead :: .sl hp0.next 0 s.length :: .int .i64 s.length :: .int .i64 i :: .dead :: .dead :: .dead :: .dead :: .dead :: .dead :: .dead :: .dead :: .dead :: .dead :: .dead :: .dead :: .dead :: .dead :: []) := ⟨_, rfl⟩
  refine loop_of I ?_ s.length (by rw [hI]; exact ⟨0, by simp, rfl, by simp, by simp⟩)
  rintro n env h' hi
  have hi' := hi
  rw [hI] at hi'
  obtain ⟨i, hi, rfl, hp, rfl⟩ := hi'
  have hold : Old hp0 (hp0.push (AObj.row 1 true (List.map (fun x => .int .u8 x.toNat) s))) := (Old.refl hp0).push _
  replace hq := hq _ hold
  simp
  refine orD (fun h => ?_) (fun h => ?_)
  · have hg : nthR (List.map (fun x : UInt8 => AVal.int .u8 x.toNat) s) i = .ok (.int .u8 s[i].toNat) := nthR_get (by simp [h])
    simp [ix_nat h, hg]
    have hstep : plainB s[i] = true → I (n - 1) (.dead :: .dead :: .dead :: .dead :: .dead :: .dead :: .sl hp0.next 0 s.length :: .int .i64 s.length :: .int .i64 (IntKind.i64.wrap (i + 1)) :: .dead :: .dead :: .dead :: .dead :: .dead :: .dead :: .dead :: .dead :: .dead :: .dead :: .dead :: .dead :: .dead :: .dead :: []) (hp0.push (AObj.row 1 true (List.map (fun x => .int .u8 x.toNat) s))) := by
      intro hb
      rw [hI, w64 (by omega) (by omega)]
      exact ⟨i + 1, by omega, rfl, plain_step h hp hb, rfl⟩
    rw [plainB_iff, decide_eq_true_eq] at hstep
    have hpf := plain_false h
    rw [plainB_iff, decide_eq_false_iff_not] at hpf
    refine orD (fun h1 => ?_) (fun h1 => ?_)
    · simp [h1]
      exact .mk (by omega) (hstep (by omega))
    · simp [h1]
      refine orD (fun h2 => ?_) (fun h2 => ?_)
      · simp [h1, h2]
        rw [hpf (by omega)] at hq; exact hq
      · simp [h1, h2]
        refine orD (fun h3 => ?_) (fun h3 => ?_)
        · simp [h3]
          rw [hpf (by omega)] at hq; exact hq
        · simp [h3]
          exact .mk (by omega) (hstep (by omega))
  · simp
    rw [plain_true (by omega) hp] at hq; exact hq
end
end Go.Proofs.Ytbcjancmcajpbaa
