/-
  Numbers as bytes: what is written, what is read.
-/
import Derived.Test.YtbnlhhfobgjeaaaZzBytes
set_option linter.all false
namespace Go.Proofs.Ytbnlhhfobgjeaaa
open Go Go.RowKit

def numS (n : Nat) : List UInt8 := if h : n < 128 then [UInt8.ofNat n] else UInt8.ofNat (n % 128 + 128) :: numS (n / 128)
termination_by n
decreasing_by omega

theorem numS_lo {n : Nat} (h : n < 128) : numS n = [UInt8.ofNat n] := by rw [numS, dif_pos h]
theorem numS_hi {n : Nat} (h : ¬ n < 128) : numS n = UInt8.ofNat (n % 128 + 128) :: numS (n / 128) := by rw [numS, dif_neg h]
theorem numS_len : ∀ (k n : Nat), n < 128 ^ (k + 1) → (numS n).length ≤ k + 1
  | 0, n, h => by rw [numS_lo (by simpa using h)]; simp
  | k + 1, n, h => by
    by_cases h1 : n < 128
    · rw [numS_lo h1]; simp
    · rw [numS_hi h1]
      have : n / 128 < 128 ^ (k + 1) := by
        rw [Nat.div_lt_iff_lt_mul (by omega)]
        rw [Nat.pow_succ] at h; exact h
      have := numS_len k _ this
      simp; omega

def rdGo (bs : List UInt8) (a limit : Nat) : Nat → Nat → Nat → Nat × Nat × Nat
  | 0, _, _ => (0, a, 11)
  | f + 1, k, n => match bs[a + k]? with
    | none => (0, a, 14)
    | some c => if c.toNat < 128 then
        if c.toNat = 0 ∧ 0 < k then (0, a, 11) else if limit < n + c.toNat % 128 * 128 ^ k then (0, a, 10) else (n + c.toNat % 128 * 128 ^ k, a + k + 1, 0)
      else rdGo bs a limit f (k + 1) (n + c.toNat % 128 * 128 ^ k)
def rdNum (bs : List UInt8) (a limit : Nat) : Nat × Nat × Nat := rdGo bs a limit 9 0 0

theorem rdGo_lt {bs : List UInt8} {a limit : Nat} : ∀ {f k n v p e : Nat}, rdGo bs a limit f k n = (v, p, e) → (e = 0 → a < p ∧ p ≤ bs.length ∧ v ≤ limit) ∧ (e ≠ 0 → p = a ∧ v = 0) ∧ (e = 0 ∨ e = 10 ∨ e = 11 ∨ e = 14)
  | 0, k, n, v, p, e, h => by simp only [rdGo] at h; cases h; simp
  | f + 1, k, n, v, p, e, h => by
    rw [rdGo] at h
    split at h
    · cases h; simp
    · rename_i c hc
      have hlt := (List.getElem?_eq_some_iff.1 hc).1
      split at h
      · split at h
        · cases h; simp
        · split at h
          · cases h; simp
          · cases h; simp; omega
      · exact rdGo_lt h

theorem toNat_ofNat {n : Nat} (h : n < 256) : (UInt8.ofNat n).toNat = n := by
  rw [UInt8.toNat_ofNat']; exact Nat.mod_eq_of_lt h

theorem rdGo_num {bs post : List UInt8} {a limit : Nat} : ∀ (f k m acc : Nat), bs.drop (a + k) = numS m ++ post → (numS m).length ≤ f → (0 < k → 0 < m) → acc + m * 128 ^ k ≤ limit →
    rdGo bs a limit f k acc = (acc + m * 128 ^ k, a + k + (numS m).length, 0)
  | 0, k, m, acc, _, hf, _, _ => by
    by_cases h : m < 128
    · rw [numS_lo h] at hf; simp at hf
    · rw [numS_hi h] at hf; simp at hf
  | f + 1, k, m, acc, hd, hf, hk, hl => by
    have hc : bs[a + k]? = (bs.drop (a + k))[0]? := by rw [List.getElem?_drop]; rfl
    by_cases h : m < 128
    · rw [numS_lo h] at hd hf ⊢
      rw [rdGo, hc, hd]
      simp only [List.cons_append, List.getElem?_cons_zero]
      rw [toNat_ofNat (by omega), if_pos h, if_neg (by omega), Nat.mod_eq_of_lt h, if_neg (by omega)]
      rfl
    · rw [numS_hi h] at hd hf ⊢
      rw [rdGo, hc, hd]
      simp only [List.cons_append, List.getElem?_cons_zero]
      have h1 : m % 128 < 128 := Nat.mod_lt _ (by omega)
      rw [toNat_ofNat (by omega), if_neg (by omega)]
      have h2 : (m % 128 + 128) % 128 = m % 128 := by omega
      have h3 : acc + m % 128 * 128 ^ k + m / 128 * 128 ^ (k + 1) = acc + m * 128 ^ k := by
        have h4 := Nat.div_add_mod m 128
        have h5 : m / 128 * 128 ^ (k + 1) = 128 * (m / 128) * 128 ^ k := by rw [Nat.pow_succ, Nat.mul_comm (128 ^ k) 128, ← Nat.mul_assoc, Nat.mul_comm (m / 128) 128]
        rw [h5, Nat.add_assoc, ← Nat.add_mul, Nat.add_comm (m % 128), h4]
      rw [h2]
      have h6 := rdGo_num (bs := bs) (post := post) (a := a) (limit := limit) f (k + 1) (m / 128) (acc + m % 128 * 128 ^ k) (by
        have := congrArg (List.drop 1) hd
        rw [List.drop_drop] at this
        simpa [Nat.add_assoc] using this) (by simp at hf; omega) (by omega) (by omega)
      rw [h6, h3]
      simp
      omega

theorem rdNum_num {pre post : List UInt8} {m limit : Nat} (hm : m < 128 ^ 9) (hl : m ≤ limit) : rdNum (pre ++ (numS m ++ post)) pre.length limit = (m, pre.length + (numS m).length, 0) := by
  have := rdGo_num (bs := pre ++ (numS m ++ post)) (post := post) (a := pre.length) (limit := limit) 9 0 m 0 (by simp) (numS_len 8 m hm) (by simp) (by simpa using hl)
  simpa [rdNum] using this

theorem wrap8 (n : Int) : IntKind.u8.wrap n = n % 256 := by unfold IntKind.wrap; simp [IntKind.bits, IntKind.signed]
theorem wrap16 (n : Int) : IntKind.u16.wrap n = n % 65536 := by unfold IntKind.wrap; simp [IntKind.bits, IntKind.signed]
theorem wrap32 (n : Int) : IntKind.u32.wrap n = n % 4294967296 := by unfold IntKind.wrap; simp [IntKind.bits, IntKind.signed]
theorem wrap64 (n : Int) : IntKind.u64.wrap n = n % 18446744073709551616 := by unfold IntKind.wrap; simp [IntKind.bits, IntKind.signed]
theorem and63 {n : Nat} (h : n < 2 ^ 63) : iand .u64 (n : Int) 9223372036854775807 = n := by
  have h1 : (BitVec.ofInt 64 (n : Int)).toNat = n := by simp; omega
  have h2 : (BitVec.ofInt 64 9223372036854775807).toNat = 2 ^ 63 - 1 := by decide
  unfold iand
  show IntKind.u64.wrap ((BitVec.ofInt 64 (n : Int) &&& BitVec.ofInt 64 9223372036854775807).toNat : Int) = n
  rw [BitVec.toNat_and, h1, h2, Nat.and_two_pow_sub_one_eq_mod, wrap64]
  omega
theorem or128 : ∀ x : Nat, x < 256 → ior .u8 (x : Int) 128 = ((x % 128 + 128 : Nat) : Int) := by decide +kernel
theorem and127 : ∀ x : Nat, x < 256 → iand .u8 (x : Int) 127 = ((x % 128 : Nat) : Int) := by decide +kernel
theorem shr7 (n : Nat) : ishr .u64 (n : Int) 7 = ((n / 128 : Nat) : Int) := by
  unfold ishr
  show Int.fdiv (n : Int) (2 ^ 7) = _
  rw [Int.fdiv_eq_ediv_of_nonneg _ (by decide)]
  rfl

end Go.Proofs.Ytbnlhhfobgjeaaa
