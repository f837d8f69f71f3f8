/-
  A part of the proof of RopePlays, over the seat Ytbnlhhfobgjeaaa: for every input the law returns true, and the input reads as it did.
-/
import Derived.Test.YtbnlhhfobgjeaaaZd
set_option linter.all false
set_option linter.all false
namespace Go.Proofs.Ytbnlhhfobgjeaaa
open Go Go.RowKit

def bcell (b : UInt8) : AVal := .int .u8 b.toNat
def bes (bs : List UInt8) : List (List AVal) := bs.map fun b => [bcell b]
theorem bes_len (bs : List UInt8) : (bes bs).length = bs.length := by simp [bes]
theorem bes_flat (bs : List UInt8) : (bes bs).flatten = bs.map bcell := by
  unfold bes
  induction bs with
  | nil => rfl
  | cons b l ih => simp only [List.map_cons, List.flatten_cons, ih]; rfl
theorem bes_one (bs : List UInt8) : ∀ e ∈ bes bs, e.length = 1 := by
  intro e he
  obtain ⟨b, _, rfl⟩ := List.mem_map.1 he; rfl
theorem bes_append (a b : List UInt8) : bes (a ++ b) = bes a ++ bes b := by simp [bes]
theorem bytesOf_cells (bs : List UInt8) : bytesOfA (bs.map bcell) = .ok bs := by
  induction bs with
  | nil => rfl
  | cons b l ih =>
    simp only [List.map_cons, bytesOfA, ih, bcell, byteOfA, Res.ok_bind]
    congr 2
    simp

/-- a slice of bytes that is read -/
def BS (c : Cfg) (h : AHeap) (v : AVal) (bs : List UInt8) : Prop := Sl c h 1 v (bes bs)
/-- one of one's own -/
def BM (h0 h : AHeap) (v : AVal) (bs : List UInt8) : Prop := Mine h0 h 1 (bes bs) v

section
variable {c : Cfg} {h : AHeap} {v : AVal} {bs : List UInt8}
theorem BM.toBS {h0 : AHeap} (m : BM h0 h v bs) : BS c h v bs := Mine.sl m
theorem BM.nil {h0 : AHeap} : BM h0 h .nils [] := Mine.nil _ _ _
theorem BS.nil : BS c h .nils [] := Sl.nil
theorem BS.old {h' : AHeap} (m : BS c h v bs) (o : Old h h') : BS c h' v bs := Sl.old m o
theorem BM.keep {h0 h' : AHeap} (m : BM h0 h v bs) (o : Old h h') : BM h0 h' v bs := Mine.keep m o
theorem BS.lenA (m : BS c h v bs) : Ytbnlhhfobgjeaaa.lenA v = .ok bs.length := by have := m.len; rw [bes_len] at this; exact this
theorem BS.lenSl (m : BS c h v bs) (hv : v ≠ .nils) : Ytbnlhhfobgjeaaa.lenSl v = .ok bs.length := by
  have h1 := m.lenA
  have h2 := m.noStr
  cases v <;> simp only [Ytbnlhhfobgjeaaa.lenA, Ytbnlhhfobgjeaaa.lenSl] at h1 ⊢ <;> first | exact h1 | (exact absurd rfl hv) | (exact absurd rfl (h2 _)) | (cases h1; done)
theorem BS.lenR (m : BS c h v bs) {t e : Nat} (ht : undR c.P t = .ok (.slice e)) : Ytbnlhhfobgjeaaa.lenR c h t v = .ok (.int .i64 bs.length) := by
  have := Sl.lenR m ht
  rw [bes_len] at this; exact this
theorem BS.idx (m : BS c h v bs) {P : Program} {t e : Nat} (ht : undR P t = .ok (.slice e)) (hs : sizeR P e = .ok 1) {k : IntKind} {i : Nat} (hi : i < bs.length) : indexAddrR P t v (.int k i) = .ok (elp v 1 i) :=
  Sl.idx m ht hs (by rw [bes_len]; exact hi)
theorem BS.load (m : BS c h v bs) {i t : Nat} (hi : i < bs.length) (hg : isAggR c.P t = .ok false) : loadR c h t (elp v 1 i) = .ok (.int .u8 bs[i].toNat) :=
  Sl.load1 m (e := [bcell bs[i]]) (by simp [bes, hi]) rfl hg
theorem BS.read (m : BS c h v bs) : readSl c h 1 bs.length v = .ok (bs.map bcell) := by
  have := Sl.read m
  rw [bes_len, bes_flat] at this; exact this
/-- string(b) -/
theorem BS.conv (m : BS c h v bs) {s d e : Nat} (hs : undR c.P s = .ok (.slice e)) (hd : undR c.P d = .ok .string) (he : undR c.P e = .ok (.int .u8)) : convR c h s d v = .ok (.str bs) := by
  unfold convR
  rw [hs, hd, Res.ok_bind, Res.ok_bind]
  by_cases hv : v = .nils
  · subst hv
    have := m.lenA
    simp only [Ytbnlhhfobgjeaaa.lenA] at this
    injection this with this
    have : bs = [] := List.length_eq_zero_iff.1 this.symm
    subst this
    simp [he]
  · have h1 := m.lenSl hv
    have h2 := m.noStr
    have h3 := m.read
    cases v <;> simp only [Ytbnlhhfobgjeaaa.lenSl] at h1 <;> first | (cases h1; done) | (exact absurd rfl (h2 _)) | skip
    all_goals (injection h1 with h1; subst h1; simp only [he, Res.ok_bind, Ytbnlhhfobgjeaaa.lenSl, h3, bytesOf_cells])
/-- b[:n] -/
theorem BS.upto (m : BS c h v bs) {n : Nat} (hn : n ≤ bs.length) (hs : ∀ o f l q, v ≠ .slc o f l q) {k : IntKind} : ∃ v', sliceSl h 1 v none (some (.int k n)) none = .ok v' ∧ BS c h v' (bs.take n) := by
  have hl := m.lenA
  have hrow := m.row
  have hlow := m.low
  have hroom := m.room
  have hes : ∀ (i : Nat) (e : List AVal), (bes (bs.take n))[i]? = some e → (bes bs)[i]? = some e := by
    intro i e he
    unfold bes at *
    rw [List.map_take, List.getElem?_take] at he
    split at he
    · exact he
    · cases he
  have hne : bes (bs.take n) ≠ [] → bes bs ≠ [] := by
    intro h1 h2
    apply h1
    have : bs = [] := by simpa [bes] using h2
    subst this; simp [bes]
  have hlen : (bs.take n).length = n := by simp; omega
  unfold sliceSl
  cases v with
  | nils =>
    simp only [Ytbnlhhfobgjeaaa.lenA] at hl
    injection hl with hl
    have hn0 : n = 0 := by omega
    subst hn0
    simp only [bounds2]
    rw [bd_nat (Nat.le_refl 0)]
    exact ⟨.nils, rfl, by simpa using BS.nil⟩
  | sl o f len =>
    simp only [Ytbnlhhfobgjeaaa.lenA] at hl
    injection hl with hl
    subst hl
    obtain ⟨z, vs, hg⟩ := hroom o f _ rfl
    have hr : roomOf h o f 1 = .ok ((vs.length - f) / 1) := by unfold roomOf; rw [hg]; simp
    simp only [hr, Res.ok_bind, bounds2]
    rw [bd_nat (by omega)]
    refine ⟨_, rfl, ?_⟩
    refine ⟨by show Res.ok _ = _; rw [bes_len, hlen]; simp, (fun s h => by cases h), fun hx => ?_, hlow, (fun o' f' n' hv => by cases hv; exact ⟨z, vs, hg⟩)⟩
    obtain ⟨ws, g, h1, h2⟩ := hrow (hne hx)
    refine ⟨ws, g, ?_, fun i e he => h2 i e (hes i e he)⟩
    simpa [rowOf] using h1
  | slc o f len cap => exact absurd rfl (hs _ _ _ _)
  | rsl r f len =>
    simp only [Ytbnlhhfobgjeaaa.lenA] at hl
    injection hl with hl
    subst hl
    simp only [bounds2]
    rw [bd_nat hn]
    refine ⟨_, rfl, ?_⟩
    refine ⟨by show Res.ok _ = _; rw [bes_len, hlen]; simp, (fun s h => by cases h), fun hx => ?_, trivial, (fun _ _ _ h => by cases h)⟩
    obtain ⟨ws, g, h1, h2⟩ := hrow (hne hx)
    refine ⟨ws, g, ?_, fun i e he => h2 i e (hes i e he)⟩
    simpa [rowOf] using h1
  | str s => exact absurd rfl (m.noStr s)
  | _ => simp only [Ytbnlhhfobgjeaaa.lenA] at hl; cases hl
end
end Go.Proofs.Ytbnlhhfobgjeaaa
set_option linter.all false
namespace Go.Proofs.Ytbnlhhfobgjeaaa
open Go Go.RowKit

def numS (n : Nat) : List UInt8 := if h : n < 128 then [UInt8.ofNat n] else UInt8.ofNat (n % 128 + 128) :: numS (n / 128)
termination_by n
decreasing_by omega

theorem numS_lo {n : Nat} (h : n < 128) : numS n = [UInt8.ofNat n] := by rw [numS, dif_pos h]
theorem numS_hi {n : Nat} (h : ¬ n < 128) : numS n = UInt8.ofNat (n % 128 + 128) :: numS (n / 128) := by rw [numS, dif_neg h]
theorem numS_len : ∀ (k n : Nat), n < 128 ^ (k + 1) → (numS n).length ≤ k + 1
  | 0, n, h => by rw [numS_lo (by simpa using h)]; simp
  | k + 1, n, h => by
    by_cases h1 : n < 128
    · rw [numS_lo h1]; simp
    · rw [numS_hi h1]
      have : n / 128 < 128 ^ (k + 1) := by
        rw [Nat.div_lt_iff_lt_mul (by omega)]
        rw [Nat.pow_succ] at h; exact h
      have := numS_len k _ this
      simp; omega

def rdGo (bs : List UInt8) (a limit : Nat) : Nat → Nat → Nat → Nat × Nat × Nat
  | 0, _, _ => (0, a, 11)
  | f + 1, k, n => match bs[a + k]? with
    | none => (0, a, 14)
    | some c => if c.toNat < 128 then
        if c.toNat = 0 ∧ 0 < k then (0, a, 11) else if limit < n + c.toNat % 128 * 128 ^ k then (0, a, 10) else (n + c.toNat % 128 * 128 ^ k, a + k + 1, 0)
      else rdGo bs a limit f (k + 1) (n + c.toNat % 128 * 128 ^ k)
def rdNum (bs : List UInt8) (a limit : Nat) : Nat × Nat × Nat := rdGo bs a limit 9 0 0

theorem rdGo_lt {bs : List UInt8} {a limit : Nat} : ∀ {f k n v p e : Nat}, rdGo bs a limit f k n = (v, p, e) → (e = 0 → a < p ∧ p ≤ bs.length ∧ v ≤ limit) ∧ (e ≠ 0 → p = a ∧ v = 0) ∧ (e = 0 ∨ e = 10 ∨ e = 11 ∨ e = 14)
  | 0, k, n, v, p, e, h => by simp only [rdGo] at h; cases h; simp
  | f + 1, k, n, v, p, e, h => by
    rw [rdGo] at h
    split at h
    · cases h; simp
    · rename_i c hc
      have hlt := (List.getElem?_eq_some_iff.1 hc).1
      split at h
      · split at h
        · cases h; simp
        · split at h
          · cases h; simp
          · cases h; simp; omega
      · exact rdGo_lt h

theorem toNat_ofNat {n : Nat} (h : n < 256) : (UInt8.ofNat n).toNat = n := by
  rw [UInt8.toNat_ofNat']; exact Nat.mod_eq_of_lt h

theorem rdGo_num {bs post : List UInt8} {a limit : Nat} : ∀ (f k m acc : Nat), bs.drop (a + k) = numS m ++ post → (numS m).length ≤ f → (0 < k → 0 < m) → acc + m * 128 ^ k ≤ limit →
    rdGo bs a limit f k acc = (acc + m * 128 ^ k, a + k + (numS m).length, 0)
  | 0, k, m, acc, _, hf, _, _ => by
    by_cases h : m < 128
    · rw [numS_lo h] at hf; simp at hf
    · rw [numS_hi h] at hf; simp at hf
  | f + 1, k, m, acc, hd, hf, hk, hl => by
    have hc : bs[a + k]? = (bs.drop (a + k))[0]? := by rw [List.getElem?_drop]; rfl
    by_cases h : m < 128
    · rw [numS_lo h] at hd hf ⊢
      rw [rdGo, hc, hd]
      simp only [List.cons_append, List.getElem?_cons_zero]
      rw [toNat_ofNat (by omega), if_pos h, if_neg (by omega), Nat.mod_eq_of_lt h, if_neg (by omega)]
      rfl
    · rw [numS_hi h] at hd hf ⊢
      rw [rdGo, hc, hd]
      simp only [List.cons_append, List.getElem?_cons_zero]
      have h1 : m % 128 < 128 := Nat.mod_lt _ (by omega)
      rw [toNat_ofNat (by omega), if_neg (by omega)]
      have h2 : (m % 128 + 128) % 128 = m % 128 := by omega
      have h3 : acc + m % 128 * 128 ^ k + m / 128 * 128 ^ (k + 1) = acc + m * 128 ^ k := by
        have h4 := Nat.div_add_mod m 128
        have h5 : m / 128 * 128 ^ (k + 1) = 128 * (m / 128) * 128 ^ k := by rw [Nat.pow_succ, Nat.mul_comm (128 ^ k) 128, ← Nat.mul_assoc, Nat.mul_comm (m / 128) 128]
        rw [h5, Nat.add_assoc, ← Nat.add_mul, Nat.add_comm (m % 128), h4]
      rw [h2]
      have h6 := rdGo_num (bs := bs) (post := post) (a := a) (limit := limit) f (k + 1) (m / 128) (acc + m % 128 * 128 ^ k) (by
        have := congrArg (List.drop 1) hd
        rw [List.drop_drop] at this
        simpa [Nat.add_assoc] using this) (by simp at hf; omega) (by omega) (by omega)
      rw [h6, h3]
      simp
      omega

theorem rdNum_num {pre post : List UInt8} {m limit : Nat} (hm : m < 128 ^ 9) (hl : m ≤ limit) : rdNum (pre ++ (numS m ++ post)) pre.length limit = (m, pre.length + (numS m).length, 0) := by
  have := rdGo_num (bs := pre ++ (numS m ++ post)) (post := post) (a := pre.length) (limit := limit) 9 0 m 0 (by simp) (numS_len 8 m hm) (by simp) (by simpa using hl)
  simpa [rdNum] using this

theorem wrap8 (n : Int) : IntKind.u8.wrap n = n % 256 := by unfold IntKind.wrap; simp [IntKind.bits, IntKind.signed]
theorem wrap16 (n : Int) : IntKind.u16.wrap n = n % 65536 := by unfold IntKind.wrap; simp [IntKind.bits, IntKind.signed]
theorem wrap32 (n : Int) : IntKind.u32.wrap n = n % 4294967296 := by unfold IntKind.wrap; simp [IntKind.bits, IntKind.signed]
theorem wrap64 (n : Int) : IntKind.u64.wrap n = n % 18446744073709551616 := by unfold IntKind.wrap; simp [IntKind.bits, IntKind.signed]
theorem and63 {n : Nat} (h : n < 2 ^ 63) : iand .u64 (n : Int) 9223372036854775807 = n := by
  have h1 : (BitVec.ofInt 64 (n : Int)).toNat = n := by simp; omega
  have h2 : (BitVec.ofInt 64 9223372036854775807).toNat = 2 ^ 63 - 1 := by decide
  unfold iand
  show IntKind.u64.wrap ((BitVec.ofInt 64 (n : Int) &&& BitVec.ofInt 64 9223372036854775807).toNat : Int) = n
  rw [BitVec.toNat_and, h1, h2, Nat.and_two_pow_sub_one_eq_mod, wrap64]
  omega
theorem or128 : ∀ x : Nat, x < 256 → ior .u8 (x : Int) 128 = ((x % 128 + 128 : Nat) : Int) := by decide +kernel
theorem and127 : ∀ x : Nat, x < 256 → iand .u8 (x : Int) 127 = ((x % 128 : Nat) : Int) := by decide +kernel
theorem shr7 (n : Nat) : ishr .u64 (n : Int) 7 = ((n / 128 : Nat) : Int) := by
  unfold ishr
  show Int.fdiv (n : Int) (2 ^ 7) = _
  rw [Int.fdiv_eq_ediv_of_nonneg _ (by decide)]
  rfl

end Go.Proofs.Ytbnlhhfobgjeaaa
set_option linter.all false
namespace Go.Proofs.Ytbnlhhfobgjeaaa
open Go Go.RowKit

def poly : BitVec 32 := 517762881#32
def stepT (x : BitVec 32) : BitVec 32 := if x.msb then (x <<< 1) ^^^ poly else x <<< 1
def itT : Nat → BitVec 32 → BitVec 32
  | 0, x => x
  | n + 1, x => itT n (stepT x)
def byteT (s : BitVec 32) (c : UInt8) : BitVec 32 := itT 8 (s ^^^ (BitVec.ofNat 32 c.toNat <<< 24))
def sumT (s : BitVec 32) (bs : List UInt8) : BitVec 32 := bs.foldl byteT s
/-- the sum -/
def crc (bs : List UInt8) : BitVec 32 := ~~~ sumT 4294967295#32 bs
theorem sumT_take {bs : List UInt8} {s : BitVec 32} {i : Nat} (h : i < bs.length) : sumT s (bs.take (i + 1)) = byteT (sumT s (bs.take i)) bs[i] := by
  unfold sumT
  rw [List.take_succ_eq_append_getElem h, List.foldl_append]; rfl

/-- a word of 32 bits, as a number -/
def w32 (x : BitVec 32) : AVal := .int .u32 x.toNat
theorem ofInt_w (x : BitVec 32) : BitVec.ofInt 32 (x.toNat : Int) = x := by
  apply BitVec.eq_of_toNat_eq
  simp
theorem wrap_w (x : BitVec 32) : IntKind.u32.wrap (x.toNat : Int) = x.toNat := by
  have := x.isLt
  rw [wrap32]; omega
theorem ixor_w (x y : BitVec 32) : ixor .u32 (x.toNat : Int) (y.toNat : Int) = (x ^^^ y).toNat := by
  unfold ixor
  show IntKind.u32.wrap ((BitVec.ofInt 32 (x.toNat : Int) ^^^ BitVec.ofInt 32 (y.toNat : Int)).toNat : Int) = _
  rw [ofInt_w, ofInt_w, wrap_w]
theorem ior_w (x y : BitVec 32) : ior .u32 (x.toNat : Int) (y.toNat : Int) = (x ||| y).toNat := by
  unfold ior
  show IntKind.u32.wrap ((BitVec.ofInt 32 (x.toNat : Int) ||| BitVec.ofInt 32 (y.toNat : Int)).toNat : Int) = _
  rw [ofInt_w, ofInt_w, wrap_w]
theorem iand_w (x y : BitVec 32) : iand .u32 (x.toNat : Int) (y.toNat : Int) = (x &&& y).toNat := by
  unfold iand
  show IntKind.u32.wrap ((BitVec.ofInt 32 (x.toNat : Int) &&& BitVec.ofInt 32 (y.toNat : Int)).toNat : Int) = _
  rw [ofInt_w, ofInt_w, wrap_w]
theorem inot_w (x : BitVec 32) : inot .u32 (x.toNat : Int) = (~~~ x).toNat := by
  unfold inot
  show IntKind.u32.wrap ((BitVec.ofInt 32 4294967295 ^^^ BitVec.ofInt 32 (x.toNat : Int)).toNat : Int) = _
  have h : BitVec.ofInt 32 4294967295 = BitVec.allOnes 32 := by decide
  rw [ofInt_w, h, BitVec.allOnes_xor, wrap_w]
theorem ishl_w (x : BitVec 32) (n : Nat) (hn : n ≤ 32) : ishl .u32 (x.toNat : Int) (n : Int) = (x <<< n).toNat := by
  unfold ishl
  show IntKind.u32.wrap ((x.toNat : Int) * 2 ^ (min (n : Int).toNat 32)) = _
  have h1 : min (n : Int).toNat 32 = n := by simp; omega
  rw [h1, BitVec.toNat_shiftLeft, Nat.shiftLeft_eq, wrap32]
  simp
theorem ishr_w (x : BitVec 32) (n : Nat) (hn : n ≤ 32) : ishr .u32 (x.toNat : Int) (n : Int) = ((x.toNat / 2 ^ n : Nat) : Int) := by
  unfold ishr
  show Int.fdiv (x.toNat : Int) (2 ^ (min (n : Int).toNat 32)) = _
  have h1 : min (n : Int).toNat 32 = n := by simp; omega
  rw [h1, Int.fdiv_eq_ediv_of_nonneg _ (by exact Int.pow_nonneg (by decide))]
  simp

theorem ixor_poly (x : BitVec 32) : ixor .u32 (x.toNat : Int) 517762881 = (x ^^^ poly).toNat := ixor_w x poly
theorem top_iff (x : BitVec 32) : iand .u32 (x.toNat : Int) 2147483648 = 0 ↔ x.msb = false := by
  have h1 : iand .u32 (x.toNat : Int) 2147483648 = (x &&& 2147483648#32).toNat := iand_w x 2147483648#32
  rw [h1]
  have h2 : 2147483648#32 = BitVec.twoPow 32 31 := by decide
  rw [h2, BitVec.and_twoPow]
  have h3 : x.msb = x.getLsbD 31 := by rw [BitVec.msb_eq_getLsbD_last]
  rw [h3]
  by_cases h : x.getLsbD 31 = true
  · rw [if_pos h, h]; simp [BitVec.twoPow]
  · rw [if_neg h]; simp at h; simp [h]
theorem shl1_w (x : BitVec 32) : ishl .u32 (x.toNat : Int) 1 = (x <<< 1).toNat := ishl_w x 1 (by decide)
theorem byte_w (c : UInt8) : IntKind.u32.wrap (c.toNat : Int) = (BitVec.ofNat 32 c.toNat).toNat := by
  have h := c.toNat_lt
  rw [wrap32]; simp; omega
theorem shl24_w (c : UInt8) : ishl .u32 ((BitVec.ofNat 32 c.toNat).toNat : Int) 24 = (BitVec.ofNat 32 c.toNat <<< 24).toNat := ishl_w _ 24 (by decide)

/-! bit by bit -/
theorem msb_c : ∀ c : Fin 256, ((BitVec.ofNat 32 c.val) <<< 24).msb = decide (128 ≤ c.val) := by decide +kernel
theorem shl_c : ∀ c : Fin 256, ((BitVec.ofNat 32 c.val) <<< 24) <<< 1 = (BitVec.ofNat 32 (c.val * 2 % 256)) <<< 24 := by decide +kernel
theorem step_bit (s : BitVec 32) (c : Nat) (hc : c < 256) : stepT (s ^^^ (BitVec.ofNat 32 c <<< 24)) =
    (if s.toNat / 2147483648 = c / 128 then s <<< 1 else (s <<< 1) ^^^ poly) ^^^ (BitVec.ofNat 32 (c * 2 % 256) <<< 24) := by
  unfold stepT
  have h1 := msb_c ⟨c, hc⟩
  have h2 := shl_c ⟨c, hc⟩
  simp only at h1 h2
  rw [BitVec.msb_xor, h1, BitVec.msb_eq_decide, BitVec.shiftLeft_xor_distrib, h2]
  have h3 := s.isLt
  have h4 : (decide (2 ^ (32 - 1) ≤ s.toNat) ^^ decide (128 ≤ c)) = !decide (s.toNat / 2147483648 = c / 128) := by
    by_cases a : 2 ^ (32 - 1) ≤ s.toNat <;> by_cases b : 128 ≤ c
    · have : s.toNat / 2147483648 = c / 128 := by omega
      simp [b, this]; simp at a; omega
    · have : ¬ s.toNat / 2147483648 = c / 128 := by omega
      simp [b, this]; simp at a; omega
    · have : ¬ s.toNat / 2147483648 = c / 128 := by omega
      simp [b, this]; simp at a; omega
    · have : s.toNat / 2147483648 = c / 128 := by omega
      simp [b, this]; simp at a; omega
  rw [h4]
  by_cases h : s.toNat / 2147483648 = c / 128
  · simp [h]
  · simp only [h, decide_false, Bool.not_false, if_true, if_false]
    rw [BitVec.xor_assoc, BitVec.xor_assoc, BitVec.xor_comm _ poly]

@[simp] theorem get_set_self (h : AHeap) (o : Nat) (x : AObj) : (h.set o x).get o = some x := by rw [AHeap.get_set]; simp
theorem get_set_ne {h : AHeap} {o p : Nat} {x : AObj} (hn : o ≠ p) : (h.set o x).get p = h.get p := by rw [AHeap.get_set, if_neg (by omega)]
end Go.Proofs.Ytbnlhhfobgjeaaa
set_option linter.all false
namespace Go.Proofs.Ytbnlhhfobgjeaaa
open Go Go.RowKit

inductive Rt (α : Type) where
  | nil
  | node (o ht : Nat) (x : α) (l r : Rt α)
structure Frm (α : Type) where
  o : Nat
  ht : Nat
  x : α
  left : Bool
  sib : Rt α
/-- how things stand in memory -/
structure Sig (α : Type) where
  ic : α → List AVal
  sm : List α → List AVal

section
variable {α : Type}
def Rt.items : Rt α → List (Nat × α)
  | .nil => []
  | .node o _ x l r => l.items ++ (o, x) :: r.items
def Rt.ids (t : Rt α) : List Nat := t.items.map (·.1)
def Rt.ptr : Rt α → AVal
  | .nil => .nilp
  | .node o _ _ _ _ => .ptr o 0
def plug1 (f : Frm α) (t : Rt α) : Rt α := match f.left with
  | true => .node f.o f.ht f.x t f.sib
  | false => .node f.o f.ht f.x f.sib t
def plug : List (Frm α) → Rt α → Rt α
  | [], t => t
  | f :: c, t => plug c (plug1 f t)
def bef : List (Frm α) → List (Nat × α)
  | [] => []
  | f :: c => bef c ++ match f.left with
    | true => []
    | false => f.sib.items ++ [(f.o, f.x)]
def aft : List (Frm α) → List (Nat × α)
  | [] => []
  | f :: c => (match f.left with
    | true => (f.o, f.x) :: f.sib.items
    | false => []) ++ aft c
theorem plug_items : ∀ (c : List (Frm α)) (t : Rt α), (plug c t).items = bef c ++ t.items ++ aft c
  | [], t => by simp [plug, bef, aft]
  | f :: c, t => by
    rw [plug, plug_items c]
    unfold plug1
    cases h : f.left <;> simp [bef, aft, h, Rt.items]
theorem items_node (o ht : Nat) (x : α) (l r : Rt α) : (Rt.node o ht x l r).items = l.items ++ (o, x) :: r.items := rfl
theorem ids_node (o ht : Nat) (x : α) (l r : Rt α) : (Rt.node o ht x l r).ids = l.ids ++ o :: r.ids := by simp [Rt.ids, Rt.items]
theorem plug_ids (c : List (Frm α)) (t : Rt α) : (plug c t).ids = (bef c).map (·.1) ++ t.ids ++ (aft c).map (·.1) := by simp [Rt.ids, plug_items]
/-- the numbers of a way down, with all beside it -/
def cids (c : List (Frm α)) : List Nat := (bef c).map (·.1) ++ (aft c).map (·.1)
theorem cids_cons {f : Frm α} {c : List (Frm α)} {o : Nat} : o ∈ cids (f :: c) ↔ o = f.o ∨ o ∈ f.sib.ids ∨ o ∈ cids c := by
  unfold cids Rt.ids
  cases h : f.left <;> simp [bef, aft, h] <;> constructor <;> intro hh <;> (repeat' (rcases hh with hh | hh)) <;> simp_all
theorem plug_mem {c : List (Frm α)} {t : Rt α} {o : Nat} : o ∈ (plug c t).ids ↔ o ∈ t.ids ∨ o ∈ cids c := by
  rw [plug_ids]; unfold cids
  simp only [List.mem_append]
  constructor <;> intro h <;> (repeat' (rcases h with h | h)) <;> simp_all

/-- all numbers are apart -/
structure Apart (c : List (Frm α)) (t : Rt α) : Prop where
  nd : (plug c t).ids.Nodup

theorem nodup_mid {a b c : List Nat} (h : (a ++ b ++ c).Nodup) : b.Nodup ∧ ∀ o ∈ b, o ∉ a ∧ o ∉ c := by
  rw [List.nodup_append, List.nodup_append] at h
  obtain ⟨⟨h1, h2, h3⟩, h4, h5⟩ := h
  exact ⟨h2, fun o ho => ⟨fun ha => h3 o ha o ho rfl, fun hc => h5 o (List.mem_append.2 (.inr ho)) o hc rfl⟩⟩
theorem apart_tree {c : List (Frm α)} {t : Rt α} (h : (plug c t).ids.Nodup) : t.ids.Nodup ∧ ∀ o ∈ t.ids, o ∉ cids c := by
  rw [plug_ids] at h
  obtain ⟨h1, h2⟩ := nodup_mid h
  refine ⟨h1, fun o ho hc => ?_⟩
  unfold cids at hc
  rcases List.mem_append.1 hc with hc | hc
  · exact (h2 o ho).1 hc
  · exact (h2 o ho).2 hc
theorem apart_node {o ht : Nat} {x : α} {l r : Rt α} (h : (Rt.node o ht x l r).ids.Nodup) : l.ids.Nodup ∧ r.ids.Nodup ∧ o ∉ l.ids ∧ o ∉ r.ids ∧ ∀ q ∈ l.ids, q ∉ r.ids := by
  rw [ids_node, List.nodup_append, List.nodup_cons] at h
  obtain ⟨h1, ⟨h2, h3⟩, h4⟩ := h
  exact ⟨h1, h3, fun ho => h4 o ho o (by simp) rfl, h2, fun q hq hr => h4 q hq q (by simp [hr]) rfl⟩

/-! ### in memory -/
variable (S : Sig α)
def nobj (up l r : AVal) (ht sz : Nat) (x : α) (all : List AVal) : AObj := .row 0 false ([up, l, r, .int .u64 ht, .int .i64 sz] ++ S.ic x ++ all)
def Rt.sum (t : Rt α) : List AVal := S.sm (t.items.map (·.2))
def At (h : AHeap) : AVal → Rt α → Prop
  | _, .nil => True
  | up, .node o ht x l r => h.get o = some (nobj S up l.ptr r.ptr ht (l.items.length + 1 + r.items.length) x ((Rt.node o ht x l r).sum S)) ∧ At h (.ptr o 0) l ∧ At h (.ptr o 0) r
def upOf : List (Frm α) → AVal
  | [] => .nilp
  | f :: _ => .ptr f.o 0
def lptr (f : Frm α) (p : AVal) : AVal := match f.left with | true => p | false => f.sib.ptr
def rptr' (f : Frm α) (p : AVal) : AVal := match f.left with | true => f.sib.ptr | false => p
/-- a way up, whose sums may be stale -/
def CA (h : AHeap) : List (Frm α) → AVal → Prop
  | [], _ => True
  | f :: c, p => (∃ sz all, (∃ q : List α, all = S.sm q) ∧ h.get f.o = some (nobj S (upOf c) (lptr f p) (rptr' f p) f.ht sz f.x all)) ∧ At S h (.ptr f.o 0) f.sib ∧ CA h c (.ptr f.o 0)
/-- where the root's pointer goes -/
def rootOf : List (Frm α) → AVal → AVal
  | [], p => p
  | f :: c, _ => rootOf c (.ptr f.o 0)

variable {S}
theorem At.congr {h h' : AHeap} : ∀ {t : Rt α} {up : AVal}, (∀ o ∈ t.ids, h'.get o = h.get o) → At S h up t → At S h' up t
  | .nil, _, _, _ => trivial
  | .node o ht x l r, up, hg, ha => by
    obtain ⟨h1, h2, h3⟩ := ha
    rw [ids_node] at hg
    exact ⟨by rw [hg o (by simp)]; exact h1, At.congr (fun q hq => hg q (by simp [hq])) h2, At.congr (fun q hq => hg q (by simp [hq])) h3⟩
theorem CA.congr {h h' : AHeap} : ∀ {c : List (Frm α)} {p : AVal}, (∀ o ∈ cids c, h'.get o = h.get o) → CA S h c p → CA S h' c p
  | [], _, _, _ => trivial
  | f :: c, p, hg, ha => by
    obtain ⟨⟨sz, all, h0, h1⟩, h2, h3⟩ := ha
    exact ⟨⟨sz, all, h0, by rw [hg f.o (cids_cons.2 (.inl rfl))]; exact h1⟩, At.congr (fun q hq => hg q (cids_cons.2 (.inr (.inl hq)))) h2, CA.congr (fun q hq => hg q (cids_cons.2 (.inr (.inr hq)))) h3⟩
theorem plug_ptr : ∀ (c : List (Frm α)) (t : Rt α), (plug c t).ptr = rootOf c t.ptr
  | [], t => rfl
  | f :: c, t => by
    rw [plug, plug_ptr c, rootOf]
    unfold plug1
    cases f.left <;> rfl
/-- a whole tree, at a place in it -/
theorem At.split {h : AHeap} : ∀ {c : List (Frm α)} {t : Rt α}, At S h .nilp (plug c t) → At S h (upOf c) t ∧ CA S h c t.ptr
  | [], t, ha => ⟨ha, trivial⟩
  | f :: c, t, ha => by
    obtain ⟨h1, h2⟩ := At.split (c := c) ha
    unfold plug1 at h1 h2
    cases hf : f.left with
    | true =>
      rw [hf] at h1 h2
      obtain ⟨a1, a2, a3⟩ := h1
      have e1 : lptr f t.ptr = t.ptr := by simp only [lptr, hf]
      have e2 : rptr' f t.ptr = f.sib.ptr := by simp only [rptr', hf]
      refine ⟨a2, ⟨t.items.length + 1 + f.sib.items.length, (Rt.node f.o f.ht f.x t f.sib).sum S, ⟨_, rfl⟩, ?_⟩, a3, h2⟩
      rw [e1, e2]; exact a1
    | false =>
      rw [hf] at h1 h2
      obtain ⟨a1, a2, a3⟩ := h1
      have e1 : lptr f t.ptr = f.sib.ptr := by simp only [lptr, hf]
      have e2 : rptr' f t.ptr = t.ptr := by simp only [rptr', hf]
      refine ⟨a3, ⟨f.sib.items.length + 1 + t.items.length, (Rt.node f.o f.ht f.x f.sib t).sum S, ⟨_, rfl⟩, ?_⟩, a2, h2⟩
      rw [e1, e2]; exact a1
end
@[simp] theorem same_self (v : AVal) : sameRes (.ok v) v = true := AVal.beq_refl v
end Go.Proofs.Ytbnlhhfobgjeaaa
set_option linter.all false
namespace Go.Proofs.Ytbnlhhfobgjeaaa
open Go Go.RowKit
def notSlc (v : AVal) : Prop := ∀ o f l q, v ≠ .slc o f l q
/-- a part of a slice -/
def cutV (v : AVal) (sz a b : Nat) : AVal :=
  match v with
  | .sl o off _ => .sl o (off + a * sz) (b - a)
  | .rsl r off _ => .rsl r (off + a * sz) (b - a)
  | v => v
theorem bd_to {n top at_ : Nat} (h : at_ ≤ top) (k : IntKind) : bounds2 n top none (some (.int k at_)) = .ok (0, at_) := by
  unfold bounds2
  simp only [bd_nat h, Res.ok_bind]
theorem bd_from {n top at_ : Nat} (h : at_ ≤ n) (k : IntKind) : bounds2 n top (some (.int k at_)) none = .ok (at_, n) := by
  unfold bounds2
  simp only [Res.ok_bind, bd_nat h]
theorem bd_both {n top a b : Nat} (h : b ≤ top) (h' : a ≤ b) (k k' : IntKind) : bounds2 n top (some (.int k a)) (some (.int k' b)) = .ok (a, b) := by
  unfold bounds2
  simp only [bd_nat h, Res.ok_bind, bd_nat h']
section
variable {c : Cfg} {h : AHeap} {sz : Nat} {v : AVal} {es : List (List AVal)}
theorem Sl.cut {lo hi : Option AVal} {a b : Nat} (s : Sl c h sz v es) (hz : sz ≠ 0) (hv : notSlc v) (hb : ∀ top, es.length ≤ top → bounds2 es.length top lo hi = .ok (a, b)) (hab : a ≤ b) (hbl : b ≤ es.length) :
    sliceSl h sz v lo hi none = .ok (cutV v sz a b) ∧ Sl c h sz (cutV v sz a b) ((es.take b).drop a) ∧ notSlc (cutV v sz a b) := by
  have hlen : ((es.take b).drop a).length = b - a := by rw [List.length_drop, List.length_take]; omega
  have hget : ∀ i e, ((es.take b).drop a)[i]? = some e → es[a + i]? = some e := by
    intro i e h1
    rw [List.getElem?_drop, List.getElem?_take] at h1
    split at h1
    · exact h1
    · cases h1
  have hne : ((es.take b).drop a) ≠ [] → es ≠ [] := by
    rintro h1 rfl; simp at h1
  have hl := s.len
  cases v <;> simp only [lenA] at hl <;> try (cases hl; done)
  · exact absurd rfl (s.noStr _)
  · injection hl with hl
    have : es = [] := List.length_eq_zero_iff.1 hl.symm
    subst this
    refine ⟨?_, by simpa [cutV] using Sl.nil, fun _ _ _ _ h => by cases h⟩
    unfold sliceSl
    have := hb 0 (by simp)
    simp only [List.length_nil] at this
    rw [this]; rfl
  · rename_i o off len
    injection hl with hl
    obtain ⟨z, vs, hg⟩ := s.room o off len rfl
    refine ⟨?_, ?_, fun _ _ _ _ h => by cases h⟩
    · have hr : roomOf h o off sz = .ok ((vs.length - off) / sz) := by
        unfold roomOf; rw [hg]; simp [hz]
      simp only [sliceSl]
      rw [hr, Res.ok_bind, hl, hb _ (Nat.le_max_left _ _)]; rfl
    · refine ⟨by rw [hlen]; rfl, (fun s h => by cases h), fun h1 => ?_, s.low, fun o' f n hv => ?_⟩
      · obtain ⟨vs', f, h2, h3⟩ := s.row (hne h1)
        refine ⟨vs', f + a * sz, ?_, fun i e he => ?_⟩
        · simp only [rowOf, cutV, hg] at h2 ⊢; injection h2 with h2; injection h2 with h4 h5; subst h4 h5; rfl
        · have := h3 (a + i) e (hget i e he)
          rw [Nat.add_mul, ← Nat.add_assoc] at this
          exact this
      · cases hv; exact ⟨z, vs, hg⟩
  · exact absurd rfl (hv _ _ _ _)
  · rename_i r off len
    injection hl with hl
    refine ⟨?_, ?_, fun _ _ _ _ h => by cases h⟩
    · simp only [sliceSl]
      rw [hl, hb _ (Nat.le_refl _)]; rfl
    · refine ⟨by rw [hlen]; rfl, (fun s h => by cases h), fun h1 => ?_, s.low, fun o' f n hv => by cases hv⟩
      obtain ⟨vs', f, h2, h3⟩ := s.row (hne h1)
      refine ⟨vs', f + a * sz, ?_, fun i e he => ?_⟩
      · simp only [rowOf, cutV] at h2 ⊢
        cases hr : c.ro r with
        | none => rw [hr] at h2; cases h2
        | some ws => rw [hr] at h2; simp at h2 ⊢; obtain ⟨rfl, rfl⟩ := h2; exact ⟨rfl, rfl⟩
      · have := h3 (a + i) e (hget i e he)
        rw [Nat.add_mul, ← Nat.add_assoc] at this
        exact this
theorem Sl.upto {at_ : Nat} (s : Sl c h sz v es) (hz : sz ≠ 0) (hv : notSlc v) (hle : at_ ≤ es.length) (k : IntKind) :
    sliceSl h sz v none (some (.int k at_)) none = .ok (cutV v sz 0 at_) ∧ Sl c h sz (cutV v sz 0 at_) (es.take at_) ∧ notSlc (cutV v sz 0 at_) := by
  have := s.cut (lo := none) (hi := some (.int k at_)) (a := 0) (b := at_) hz hv (fun top ht => bd_to (by omega) k) (Nat.zero_le _) hle
  simpa using this
theorem Sl.from_ {at_ : Nat} (s : Sl c h sz v es) (hz : sz ≠ 0) (hv : notSlc v) (hle : at_ ≤ es.length) (k : IntKind) :
    sliceSl h sz v (some (.int k at_)) none none = .ok (cutV v sz at_ es.length) ∧ Sl c h sz (cutV v sz at_ es.length) (es.drop at_) ∧ notSlc (cutV v sz at_ es.length) := by
  have := s.cut (lo := some (.int k at_)) (hi := none) (a := at_) (b := es.length) hz hv (fun top ht => bd_from (by omega) k) hle (Nat.le_refl _)
  simpa using this
theorem Mine.cells {h0 h : AHeap} {es : List (List AVal)} {v : AVal} (m : Mine h0 h sz es v) : cellsV v = .ok [v] := by
  obtain ⟨_, ⟨_, rfl⟩ | ⟨q, fz, rfl, _⟩⟩ := m <;> rfl
theorem Mine.notSlc {h0 h : AHeap} {es : List (List AVal)} {v : AVal} (m : Mine h0 h sz es v) : notSlc v := by
  obtain ⟨_, ⟨_, rfl⟩ | ⟨q, fz, rfl, _⟩⟩ := m <;> (intro o f l q h; cases h)
end
end Go.Proofs.Ytbnlhhfobgjeaaa
