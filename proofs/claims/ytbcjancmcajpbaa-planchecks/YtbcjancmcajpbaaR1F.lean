/-
  A part of the proof of PlanChecks, over the seat Ytbcjancmcajpbaa: for every input the law returns true, and the input reads as it did.
-/
import Derived.Test.YtbcjancmcajpbaaR1E
set_option linter.all false
set_option maxRecDepth 100000
set_option maxHeartbeats 4000000
namespace Go.Proofs.Ytbcjancmcajpbaa
open Go Go.RowKit Go.Proofs

def one (s : List UInt8) (i : Nat) : List UInt8 := (s.take (i + 1)).drop i
def outA (s m : List UInt8) (a t : Nat) (d : Int) : Nat → List UInt8
  | 0 => []
  | i + 1 => (outA s m a t d i ++ if (i : Int) = d then m else []) ++ if i < s.length ∧ (i < a ∨ t ≤ i) then one s i else []
def keep (s : List UInt8) (a t : Nat) : Nat → List UInt8
  | 0 => []
  | i + 1 => keep s a t i ++ if i < a ∨ t ≤ i then one s i else []

theorem one_len (s : List UInt8) (i : Nat) : (one s i).length ≤ 1 := by unfold one; simp; omega
theorem take_one {s : List UInt8} {i : Nat} (h : i < s.length) : s.take i ++ one s i = s.take (i + 1) := by
  unfold one
  have : (s.take (i + 1)).drop i = [s[i]] := by
    rw [List.take_succ_eq_append_getElem h, List.drop_append, List.length_take, Nat.min_eq_left (by omega)]
    simp
  rw [this, List.take_succ_eq_append_getElem h]
theorem drop_one {s : List UInt8} {i j : Nat} (hj : j ≤ i) (h : i < s.length) : (s.take i).drop j ++ one s i = (s.take (i + 1)).drop j := by
  rw [← take_one h, List.drop_append, List.length_take]
  have : j - min i s.length = 0 := by omega
  rw [this, List.drop_zero]
theorem keep_low {s : List UInt8} {a t : Nat} : ∀ {i : Nat}, i ≤ a → i ≤ s.length → keep s a t i = s.take i
  | 0, _, _ => by simp [keep]
  | i + 1, h, hl => by
    rw [keep, keep_low (i := i) (by omega) (by omega), if_pos (by omega), take_one (by omega)]
theorem keep_mid {s : List UInt8} {a t : Nat} : ∀ {i : Nat}, a ≤ i → i ≤ t → i ≤ s.length → keep s a t i = s.take a
  | 0, h, _, _ => by simp [keep]; omega
  | i + 1, h, h1, hl => by
    by_cases hi : i + 1 = a
    · rw [keep_low (by omega) hl, hi]
    · rw [keep, keep_mid (i := i) (by omega) (by omega) (by omega), if_neg (by omega), List.append_nil]
theorem keep_high {s : List UInt8} {a t : Nat} (ha : a ≤ t) : ∀ {i : Nat}, t ≤ i → i ≤ s.length → keep s a t i = s.take a ++ (s.take i).drop t
  | 0, h, _ => by
    have h1 : t = 0 := by omega
    have h2 : a = 0 := by omega
    subst h1 h2; simp [keep]
  | i + 1, h, hl => by
    by_cases hi : i + 1 = t
    · rw [keep_mid (by omega) (by omega) hl, hi]
      have : (s.take t).drop t = [] := by simp
      rw [this, List.append_nil]
    · rw [keep, keep_high ha (i := i) (by omega) (by omega), if_pos (by omega), List.append_assoc, drop_one (by omega) (by omega)]
theorem out_low {s m : List UInt8} {a t : Nat} {d : Int} : ∀ {i : Nat}, (i : Int) ≤ d → i ≤ s.length → outA s m a t d i = keep s a t i
  | 0, _, _ => rfl
  | i + 1, h, hl => by
    rw [outA, keep, out_low (i := i) (by omega) (by omega), if_neg (by omega), List.append_nil]
    by_cases hx : i < a ∨ t ≤ i
    · rw [if_pos ⟨by omega, hx⟩, if_pos hx]
    · rw [if_neg (by omega), if_neg hx]
theorem out_neg {s m : List UInt8} {a t : Nat} {d : Int} (hd : d < 0) : ∀ {i : Nat}, i ≤ s.length → outA s m a t d i = keep s a t i
  | 0, _ => rfl
  | i + 1, hl => by
    rw [outA, keep, out_neg hd (i := i) (by omega), if_neg (by omega), List.append_nil]
    by_cases hx : i < a ∨ t ≤ i
    · rw [if_pos ⟨by omega, hx⟩, if_pos hx]
    · rw [if_neg (by omega), if_neg hx]
theorem out_high {s m : List UInt8} {a t d : Nat} : ∀ {i : Nat}, d < i → i ≤ s.length → ∃ T, keep s a t i = keep s a t d ++ T ∧ outA s m a t d i = keep s a t d ++ m ++ T
  | i + 1, h, hl => by
    have hx : (if i < s.length ∧ (i < a ∨ t ≤ i) then one s i else []) = if i < a ∨ t ≤ i then one s i else [] := by
      by_cases hx : i < a ∨ t ≤ i
      · rw [if_pos ⟨by omega, hx⟩, if_pos hx]
      · rw [if_neg (by omega), if_neg hx]
    by_cases hi : i = d
    · subst hi
      refine ⟨if i < a ∨ t ≤ i then one s i else [], rfl, ?_⟩
      rw [outA, if_pos rfl, out_low (by omega) (by omega), hx]
    · obtain ⟨T, h1, h2⟩ := out_high (s := s) (m := m) (a := a) (t := t) (d := d) (i := i) (by omega) (by omega)
      refine ⟨T ++ if i < a ∨ t ≤ i then one s i else [], ?_, ?_⟩
      · rw [keep, h1, List.append_assoc]
      · rw [outA, if_neg (by omega), List.append_nil, h2, hx, List.append_assoc]
theorem out_len {s m : List UInt8} {a t : Nat} {d : Int} : ∀ i : Nat, (outA s m a t d i).length ≤ i + (if d < (i : Int) then m.length else 0)
  | 0 => by simp [outA]
  | i + 1 => by
    have := out_len (s := s) (m := m) (a := a) (t := t) (d := d) i
    have h1 := one_len s i
    have h2 : (if i < s.length ∧ (i < a ∨ t ≤ i) then one s i else []).length ≤ 1 := by split <;> simp_all
    rw [outA, List.length_append, List.length_append]
    generalize (if i < s.length ∧ (i < a ∨ t ≤ i) then one s i else []).length = w at h2
    by_cases hd : (i : Int) = d
    · have e1 : (if d < ((i + 1 : Nat) : Int) then m.length else 0) = m.length := if_pos (by omega)
      have e2 : (if d < (i : Int) then m.length else 0) = 0 := if_neg (by omega)
      have e3 : (if (i : Int) = d then m else []) = m := if_pos hd
      rw [e1, e3]; rw [e2] at this; omega
    · have e3 : (if (i : Int) = d then m else []) = [] := if_neg hd
      rw [e3]
      by_cases hd2 : d < (i : Int)
      · have e1 : (if d < ((i + 1 : Nat) : Int) then m.length else 0) = m.length := if_pos (by omega)
        have e2 : (if d < (i : Int) then m.length else 0) = m.length := if_pos hd2
        rw [e1]; rw [e2] at this; simp; omega
      · have e1 : (if d < ((i + 1 : Nat) : Int) then m.length else 0) = 0 := if_neg (by omega)
        have e2 : (if d < (i : Int) then m.length else 0) = 0 := if_neg hd2
        rw [e1]; rw [e2] at this; simp; omega
theorem out_end {s m : List UInt8} {a t : Nat} {d : Int} : outA s m a t d (s.length + 1) = outA s m a t d s.length ++ if (s.length : Int) = d then m else [] := by
  rw [outA, if_neg (by simp : ¬ (s.length < s.length ∧ _)), List.append_nil]

/-- all at once -/
theorem out_all {s m : List UInt8} {a t d : Nat} (hd : d ≤ s.length) : ∃ T, keep s a t s.length = keep s a t d ++ T ∧ outA s m a t d (s.length + 1) = keep s a t d ++ m ++ T := by
  rw [out_end]
  by_cases h : d = s.length
  · subst h
    exact ⟨[], by simp, by rw [if_pos rfl, out_low (by omega) (by omega)]; simp⟩
  · obtain ⟨T, h1, h2⟩ := out_high (s := s) (m := m) (a := a) (t := t) (d := d) (i := s.length) (by omega) (by omega)
    exact ⟨T, h1, by rw [if_neg (by omega), List.append_nil, h2]⟩

theorem out_do {s m : List UInt8} {a t : Nat} {d : Int} {e : Ed} (h : (e.kind = 1 ∧ e.at_ = a ∧ a ≤ s.length ∧ t = a ∧ d = a ∧ m = e.text) ∨ (e.kind = 2 ∧ e.at_ = a ∧ e.to_ = t ∧ a < t ∧ t ≤ s.length ∧ d = -1) ∨
    (e.kind = 3 ∧ e.at_ = a ∧ e.to_ = t ∧ e.dest = d ∧ a < t ∧ t ≤ s.length ∧ 0 ≤ d ∧ d ≤ s.length ∧ (d < a ∨ t < d) ∧ m = (s.take t).drop a)) : outA s m a t d (s.length + 1) = doS s e := by
  unfold doS
  rcases h with ⟨h1, h2, h3, ht, hd, hm⟩ | ⟨h1, h2, h3, h4, h5, rfl⟩ | ⟨h1, h2, h3, h4, h5, h6, h7, h8, h9, rfl⟩
  · subst hm hd
    rw [ht]
    clear ht
    simp only [h1, h2, if_true, Int.toNat_natCast]
    obtain ⟨T, k1, k2⟩ := out_all (s := s) (m := e.text) (a := a) (t := a) (d := a) h3
    rw [k2, keep_low (Nat.le_refl _) h3]
    rw [keep_high (Nat.le_refl _) h3 (Nat.le_refl _), keep_low (Nat.le_refl _) h3, List.take_length] at k1
    rw [List.append_cancel_left k1]
  · simp only [h1, h2, h3, Int.toNat_natCast]
    rw [if_neg (by decide), if_pos (by trivial), out_end, if_neg (by omega), List.append_nil, out_neg (by omega) (Nat.le_refl _), keep_high (by omega) h5 (Nat.le_refl _), List.take_length]
  · obtain ⟨d, rfl⟩ := Int.eq_ofNat_of_zero_le h7
    simp only [h1, h2, h3, h4, Int.toNat_natCast]
    rw [if_neg (by decide), if_neg (by decide)]
    obtain ⟨T, k1, k2⟩ := out_all (s := s) (m := (s.take t).drop a) (a := a) (t := t) (d := d) (by omega)
    rw [k2]
    rw [keep_high (by omega) h6 (Nat.le_refl _), List.take_length] at k1
    rcases h9 with h9 | h9
    · rw [if_pos (by omega)]
      rw [keep_low (by omega) (by omega)] at k1 ⊢
      have : s.take a = s.take d ++ (s.take a).drop d := by
        have := List.take_append_drop d (s.take a)
        rw [List.take_take, Nat.min_eq_left (by omega)] at this
        exact this.symm
      rw [this, List.append_assoc] at k1
      rw [← List.append_cancel_left k1]
      simp [List.append_assoc]
    · rw [if_neg (by omega)]
      rw [keep_high (by omega) (by omega) (by omega)] at k1 ⊢
      have : s.drop t = (s.take d).drop t ++ s.drop d := by
        have := congrArg (List.drop t) (List.take_append_drop d s)
        rw [List.drop_append, List.length_take, Nat.min_eq_left (by omega)] at this
        rw [← this, show t - d = 0 by omega, List.drop_zero]
      rw [this, ← List.append_assoc] at k1
      rw [← List.append_cancel_left k1]
end Go.Proofs.Ytbcjancmcajpbaa
