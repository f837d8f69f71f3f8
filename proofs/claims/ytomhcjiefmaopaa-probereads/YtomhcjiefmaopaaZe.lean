/-
  A part of the proof of ProbeReads, over the seat Ytomhcjiefmaopaa: for every input the law returns true, and the input reads as it did.
-/
import Derived.Test.YtomhcjiefmaopaaZd
set_option linter.all false
set_option linter.all false
namespace Go.Proofs.Ytomhcjiefmaopaa
open Go Go.RowKit

def bcell (b : UInt8) : AVal := .int .u8 b.toNat
def bes (bs : List UInt8) : List (List AVal) := bs.map fun b => [bcell b]
theorem bes_len (bs : List UInt8) : (bes bs).length = bs.length := by simp [bes]
theorem bes_flat (bs : List UInt8) : (bes bs).flatten = bs.map bcell := by
  unfold bes
  induction bs with
  | nil => rfl
  | cons b l ih => simp only [List.map_cons, List.flatten_cons, ih]; rfl
theorem bes_one (bs : List UInt8) : ∀ e ∈ bes bs, e.length = 1 := by
  intro e he
  obtain ⟨b, _, rfl⟩ := List.mem_map.1 he; rfl
theorem bes_append (a b : List UInt8) : bes (a ++ b) = bes a ++ bes b := by simp [bes]
theorem bytesOf_cells (bs : List UInt8) : bytesOfA (bs.map bcell) = .ok bs := by
  induction bs with
  | nil => rfl
  | cons b l ih =>
    simp only [List.map_cons, bytesOfA, ih, bcell, byteOfA, Res.ok_bind]
    congr 2
    simp

/-- a slice of bytes that is read -/
def BS (c : Cfg) (h : AHeap) (v : AVal) (bs : List UInt8) : Prop := Sl c h 1 v (bes bs)
/-- one of one's own -/
def BM (h0 h : AHeap) (v : AVal) (bs : List UInt8) : Prop := Mine h0 h 1 (bes bs) v

section
variable {c : Cfg} {h : AHeap} {v : AVal} {bs : List UInt8}
theorem BM.toBS {h0 : AHeap} (m : BM h0 h v bs) : BS c h v bs := Mine.sl m
theorem BM.nil {h0 : AHeap} : BM h0 h .nils [] := Mine.nil _ _ _
theorem BS.nil : BS c h .nils [] := Sl.nil
theorem BS.old {h' : AHeap} (m : BS c h v bs) (o : Old h h') : BS c h' v bs := Sl.old m o
theorem BM.keep {h0 h' : AHeap} (m : BM h0 h v bs) (o : Old h h') : BM h0 h' v bs := Mine.keep m o
theorem BS.lenA (m : BS c h v bs) : Ytomhcjiefmaopaa.lenA v = .ok bs.length := by have := m.len; rw [bes_len] at this; exact this
theorem BS.lenSl (m : BS c h v bs) (hv : v ≠ .nils) : Ytomhcjiefmaopaa.lenSl v = .ok bs.length := by
  have h1 := m.lenA
  have h2 := m.noStr
  cases v <;> simp only [Ytomhcjiefmaopaa.lenA, Ytomhcjiefmaopaa.lenSl] at h1 ⊢ <;> first | exact h1 | (exact absurd rfl hv) | (exact absurd rfl (h2 _)) | (cases h1; done)
theorem BS.lenR (m : BS c h v bs) {t e : Nat} (ht : undR c.P t = .ok (.slice e)) : Ytomhcjiefmaopaa.lenR c h t v = .ok (.int .i64 bs.length) := by
  have := Sl.lenR m ht
  rw [bes_len] at this; exact this
theorem BS.idx (m : BS c h v bs) {P : Program} {t e : Nat} (ht : undR P t = .ok (.slice e)) (hs : sizeR P e = .ok 1) {k : IntKind} {i : Nat} (hi : i < bs.length) : indexAddrR P t v (.int k i) = .ok (elp v 1 i) :=
  Sl.idx m ht hs (by rw [bes_len]; exact hi)
theorem BS.load (m : BS c h v bs) {i t : Nat} (hi : i < bs.length) (hg : isAggR c.P t = .ok false) : loadR c h t (elp v 1 i) = .ok (.int .u8 bs[i].toNat) :=
  Sl.load1 m (e := [bcell bs[i]]) (by simp [bes, hi]) rfl hg
theorem BS.read (m : BS c h v bs) : readSl c h 1 bs.length v = .ok (bs.map bcell) := by
  have := Sl.read m
  rw [bes_len, bes_flat] at this; exact this
/-- string(b) -/
theorem BS.conv (m : BS c h v bs) {s d e : Nat} (hs : undR c.P s = .ok (.slice e)) (hd : undR c.P d = .ok .string) (he : undR c.P e = .ok (.int .u8)) : convR c h s d v = .ok (.str bs) := by
  unfold convR
  rw [hs, hd, Res.ok_bind, Res.ok_bind]
  by_cases hv : v = .nils
  · subst hv
    have := m.lenA
    simp only [Ytomhcjiefmaopaa.lenA] at this
    injection this with this
    have : bs = [] := List.length_eq_zero_iff.1 this.symm
    subst this
    simp [he]
  · have h1 := m.lenSl hv
    have h2 := m.noStr
    have h3 := m.read
    cases v <;> simp only [Ytomhcjiefmaopaa.lenSl] at h1 <;> first | (cases h1; done) | (exact absurd rfl (h2 _)) | skip
    all_goals (injection h1 with h1; subst h1; simp only [he, Res.ok_bind, Ytomhcjiefmaopaa.lenSl, h3, bytesOf_cells])
/-- b[:n] -/
theorem BS.upto (m : BS c h v bs) {n : Nat} (hn : n ≤ bs.length) (hs : ∀ o f l q, v ≠ .slc o f l q) {k : IntKind} : ∃ v', sliceSl h 1 v none (some (.int k n)) none = .ok v' ∧ BS c h v' (bs.take n) := by
  have hl := m.lenA
  have hrow := m.row
  have hlow := m.low
  have hroom := m.room
  have hes : ∀ (i : Nat) (e : List AVal), (bes (bs.take n))[i]? = some e → (bes bs)[i]? = some e := by
    intro i e he
    unfold bes at *
    rw [List.map_take, List.getElem?_take] at he
    split at he
    · exact he
    · cases he
  have hne : bes (bs.take n) ≠ [] → bes bs ≠ [] := by
    intro h1 h2
    apply h1
    have : bs = [] := by simpa [bes] using h2
    subst this; simp [bes]
  have hlen : (bs.take n).length = n := by simp; omega
  unfold sliceSl
  cases v with
  | nils =>
    simp only [Ytomhcjiefmaopaa.lenA] at hl
    injection hl with hl
    have hn0 : n = 0 := by omega
    subst hn0
    simp only [bounds2]
    rw [bd_nat (Nat.le_refl 0)]
    exact ⟨.nils, rfl, by simpa using BS.nil⟩
  | sl o f len =>
    simp only [Ytomhcjiefmaopaa.lenA] at hl
    injection hl with hl
    subst hl
    obtain ⟨z, vs, hg⟩ := hroom o f _ rfl
    have hr : roomOf h o f 1 = .ok ((vs.length - f) / 1) := by unfold roomOf; rw [hg]; simp
    simp only [hr, Res.ok_bind, bounds2]
    rw [bd_nat (by omega)]
    refine ⟨_, rfl, ?_⟩
    refine ⟨by show Res.ok _ = _; rw [bes_len, hlen]; simp, (fun s h => by cases h), fun hx => ?_, hlow, (fun o' f' n' hv => by cases hv; exact ⟨z, vs, hg⟩)⟩
    obtain ⟨ws, g, h1, h2⟩ := hrow (hne hx)
    refine ⟨ws, g, ?_, fun i e he => h2 i e (hes i e he)⟩
    simpa [rowOf] using h1
  | slc o f len cap => exact absurd rfl (hs _ _ _ _)
  | rsl r f len =>
    simp only [Ytomhcjiefmaopaa.lenA] at hl
    injection hl with hl
    subst hl
    simp only [bounds2]
    rw [bd_nat hn]
    refine ⟨_, rfl, ?_⟩
    refine ⟨by show Res.ok _ = _; rw [bes_len, hlen]; simp, (fun s h => by cases h), fun hx => ?_, trivial, (fun _ _ _ h => by cases h)⟩
    obtain ⟨ws, g, h1, h2⟩ := hrow (hne hx)
    refine ⟨ws, g, ?_, fun i e he => h2 i e (hes i e he)⟩
    simpa [rowOf] using h1
  | str s => exact absurd rfl (m.noStr s)
  | _ => simp only [Ytomhcjiefmaopaa.lenA] at hl; cases hl
end
end Go.Proofs.Ytomhcjiefmaopaa
set_option linter.all false
namespace Go.Proofs.Ytomhcjiefmaopaa
open Go Go.RowKit

def numS (n : Nat) : List UInt8 := if h : n < 128 then [UInt8.ofNat n] else UInt8.ofNat (n % 128 + 128) :: numS (n / 128)
termination_by n
decreasing_by omega

theorem numS_lo {n : Nat} (h : n < 128) : numS n = [UInt8.ofNat n] := by rw [numS, dif_pos h]
theorem numS_hi {n : Nat} (h : ¬ n < 128) : numS n = UInt8.ofNat (n % 128 + 128) :: numS (n / 128) := by rw [numS, dif_neg h]
theorem numS_len : ∀ (k n : Nat), n < 128 ^ (k + 1) → (numS n).length ≤ k + 1
  | 0, n, h => by rw [numS_lo (by simpa using h)]; simp
  | k + 1, n, h => by
    by_cases h1 : n < 128
    · rw [numS_lo h1]; simp
    · rw [numS_hi h1]
      have : n / 128 < 128 ^ (k + 1) := by
        rw [Nat.div_lt_iff_lt_mul (by omega)]
        rw [Nat.pow_succ] at h; exact h
      have := numS_len k _ this
      simp; omega

def rdGo (bs : List UInt8) (a limit : Nat) : Nat → Nat → Nat → Nat × Nat × Nat
  | 0, _, _ => (0, a, 11)
  | f + 1, k, n => match bs[a + k]? with
    | none => (0, a, 14)
    | some c => if c.toNat < 128 then
        if c.toNat = 0 ∧ 0 < k then (0, a, 11) else if limit < n + c.toNat % 128 * 128 ^ k then (0, a, 10) else (n + c.toNat % 128 * 128 ^ k, a + k + 1, 0)
      else rdGo bs a limit f (k + 1) (n + c.toNat % 128 * 128 ^ k)
def rdNum (bs : List UInt8) (a limit : Nat) : Nat × Nat × Nat := rdGo bs a limit 9 0 0

theorem rdGo_lt {bs : List UInt8} {a limit : Nat} : ∀ {f k n v p e : Nat}, rdGo bs a limit f k n = (v, p, e) → (e = 0 → a < p ∧ p ≤ bs.length ∧ v ≤ limit) ∧ (e ≠ 0 → p = a ∧ v = 0) ∧ (e = 0 ∨ e = 10 ∨ e = 11 ∨ e = 14)
  | 0, k, n, v, p, e, h => by simp only [rdGo] at h; cases h; simp
  | f + 1, k, n, v, p, e, h => by
    rw [rdGo] at h
    split at h
    · cases h; simp
    · rename_i c hc
      have hlt := (List.getElem?_eq_some_iff.1 hc).1
      split at h
      · split at h
        · cases h; simp
        · split at h
          · cases h; simp
          · cases h; simp; omega
      · exact rdGo_lt h

theorem toNat_ofNat {n : Nat} (h : n < 256) : (UInt8.ofNat n).toNat = n := by
  rw [UInt8.toNat_ofNat']; exact Nat.mod_eq_of_lt h

theorem rdGo_num {bs post : List UInt8} {a limit : Nat} : ∀ (f k m acc : Nat), bs.drop (a + k) = numS m ++ post → (numS m).length ≤ f → (0 < k → 0 < m) → acc + m * 128 ^ k ≤ limit →
    rdGo bs a limit f k acc = (acc + m * 128 ^ k, a + k + (numS m).length, 0)
  | 0, k, m, acc, _, hf, _, _ => by
    by_cases h : m < 128
    · rw [numS_lo h] at hf; simp at hf
    · rw [numS_hi h] at hf; simp at hf
  | f + 1, k, m, acc, hd, hf, hk, hl => by
    have hc : bs[a + k]? = (bs.drop (a + k))[0]? := by rw [List.getElem?_drop]; rfl
    by_cases h : m < 128
    · rw [numS_lo h] at hd hf ⊢
      rw [rdGo, hc, hd]
      simp only [List.cons_append, List.getElem?_cons_zero]
      rw [toNat_ofNat (by omega), if_pos h, if_neg (by omega), Nat.mod_eq_of_lt h, if_neg (by omega)]
      rfl
    · rw [numS_hi h] at hd hf ⊢
      rw [rdGo, hc, hd]
      simp only [List.cons_append, List.getElem?_cons_zero]
      have h1 : m % 128 < 128 := Nat.mod_lt _ (by omega)
      rw [toNat_ofNat (by omega), if_neg (by omega)]
      have h2 : (m % 128 + 128) % 128 = m % 128 := by omega
      have h3 : acc + m % 128 * 128 ^ k + m / 128 * 128 ^ (k + 1) = acc + m * 128 ^ k := by
        have h4 := Nat.div_add_mod m 128
        have h5 : m / 128 * 128 ^ (k + 1) = 128 * (m / 128) * 128 ^ k := by rw [Nat.pow_succ, Nat.mul_comm (128 ^ k) 128, ← Nat.mul_assoc, Nat.mul_comm (m / 128) 128]
        rw [h5, Nat.add_assoc, ← Nat.add_mul, Nat.add_comm (m % 128), h4]
      rw [h2]
      have h6 := rdGo_num (bs := bs) (post := post) (a := a) (limit := limit) f (k + 1) (m / 128) (acc + m % 128 * 128 ^ k) (by
        have := congrArg (List.drop 1) hd
        rw [List.drop_drop] at this
        simpa [Nat.add_assoc] using this) (by simp at hf; omega) (by omega) (by omega)
      rw [h6, h3]
      simp
      omega

theorem rdNum_num {pre post : List UInt8} {m limit : Nat} (hm : m < 128 ^ 9) (hl : m ≤ limit) : rdNum (pre ++ (numS m ++ post)) pre.length limit = (m, pre.length + (numS m).length, 0) := by
  have := rdGo_num (bs := pre ++ (numS m ++ post)) (post := post) (a := pre.length) (limit := limit) 9 0 m 0 (by simp) (numS_len 8 m hm) (by simp) (by simpa using hl)
  simpa [rdNum] using this

theorem wrap8 (n : Int) : IntKind.u8.wrap n = n % 256 := by unfold IntKind.wrap; simp [IntKind.bits, IntKind.signed]
theorem wrap16 (n : Int) : IntKind.u16.wrap n = n % 65536 := by unfold IntKind.wrap; simp [IntKind.bits, IntKind.signed]
theorem wrap32 (n : Int) : IntKind.u32.wrap n = n % 4294967296 := by unfold IntKind.wrap; simp [IntKind.bits, IntKind.signed]
theorem wrap64 (n : Int) : IntKind.u64.wrap n = n % 18446744073709551616 := by unfold IntKind.wrap; simp [IntKind.bits, IntKind.signed]
theorem and63 {n : Nat} (h : n < 2 ^ 63) : iand .u64 (n : Int) 9223372036854775807 = n := by
  have h1 : (BitVec.ofInt 64 (n : Int)).toNat = n := by simp; omega
  have h2 : (BitVec.ofInt 64 9223372036854775807).toNat = 2 ^ 63 - 1 := by decide
  unfold iand
  show IntKind.u64.wrap ((BitVec.ofInt 64 (n : Int) &&& BitVec.ofInt 64 9223372036854775807).toNat : Int) = n
  rw [BitVec.toNat_and, h1, h2, Nat.and_two_pow_sub_one_eq_mod, wrap64]
  omega
theorem or128 : ∀ x : Nat, x < 256 → ior .u8 (x : Int) 128 = ((x % 128 + 128 : Nat) : Int) := by decide +kernel
theorem and127 : ∀ x : Nat, x < 256 → iand .u8 (x : Int) 127 = ((x % 128 : Nat) : Int) := by decide +kernel
theorem shr7 (n : Nat) : ishr .u64 (n : Int) 7 = ((n / 128 : Nat) : Int) := by
  unfold ishr
  show Int.fdiv (n : Int) (2 ^ 7) = _
  rw [Int.fdiv_eq_ediv_of_nonneg _ (by decide)]
  rfl

end Go.Proofs.Ytomhcjiefmaopaa
set_option linter.all false
namespace Go.Proofs.Ytomhcjiefmaopaa
open Go Go.RowKit

def poly : BitVec 32 := 517762881#32
def stepT (x : BitVec 32) : BitVec 32 := if x.msb then (x <<< 1) ^^^ poly else x <<< 1
def itT : Nat → BitVec 32 → BitVec 32
  | 0, x => x
  | n + 1, x => itT n (stepT x)
def byteT (s : BitVec 32) (c : UInt8) : BitVec 32 := itT 8 (s ^^^ (BitVec.ofNat 32 c.toNat <<< 24))
def sumT (s : BitVec 32) (bs : List UInt8) : BitVec 32 := bs.foldl byteT s
/-- the sum -/
def crc (bs : List UInt8) : BitVec 32 := ~~~ sumT 4294967295#32 bs
theorem sumT_take {bs : List UInt8} {s : BitVec 32} {i : Nat} (h : i < bs.length) : sumT s (bs.take (i + 1)) = byteT (sumT s (bs.take i)) bs[i] := by
  unfold sumT
  rw [List.take_succ_eq_append_getElem h, List.foldl_append]; rfl

/-- a word of 32 bits, as a number -/
def w32 (x : BitVec 32) : AVal := .int .u32 x.toNat
theorem ofInt_w (x : BitVec 32) : BitVec.ofInt 32 (x.toNat : Int) = x := by
  apply BitVec.eq_of_toNat_eq
  simp
theorem wrap_w (x : BitVec 32) : IntKind.u32.wrap (x.toNat : Int) = x.toNat := by
  have := x.isLt
  rw [wrap32]; omega
theorem ixor_w (x y : BitVec 32) : ixor .u32 (x.toNat : Int) (y.toNat : Int) = (x ^^^ y).toNat := by
  unfold ixor
  show IntKind.u32.wrap ((BitVec.ofInt 32 (x.toNat : Int) ^^^ BitVec.ofInt 32 (y.toNat : Int)).toNat : Int) = _
  rw [ofInt_w, ofInt_w, wrap_w]
theorem ior_w (x y : BitVec 32) : ior .u32 (x.toNat : Int) (y.toNat : Int) = (x ||| y).toNat := by
  unfold ior
  show IntKind.u32.wrap ((BitVec.ofInt 32 (x.toNat : Int) ||| BitVec.ofInt 32 (y.toNat : Int)).toNat : Int) = _
  rw [ofInt_w, ofInt_w, wrap_w]
theorem iand_w (x y : BitVec 32) : iand .u32 (x.toNat : Int) (y.toNat : Int) = (x &&& y).toNat := by
  unfold iand
  show IntKind.u32.wrap ((BitVec.ofInt 32 (x.toNat : Int) &&& BitVec.ofInt 32 (y.toNat : Int)).toNat : Int) = _
  rw [ofInt_w, ofInt_w, wrap_w]
theorem inot_w (x : BitVec 32) : inot .u32 (x.toNat : Int) = (~~~ x).toNat := by
  unfold inot
  show IntKind.u32.wrap ((BitVec.ofInt 32 4294967295 ^^^ BitVec.ofInt 32 (x.toNat : Int)).toNat : Int) = _
  have h : BitVec.ofInt 32 4294967295 = BitVec.allOnes 32 := by decide
  rw [ofInt_w, h, BitVec.allOnes_xor, wrap_w]
theorem ishl_w (x : BitVec 32) (n : Nat) (hn : n ≤ 32) : ishl .u32 (x.toNat : Int) (n : Int) = (x <<< n).toNat := by
  unfold ishl
  show IntKind.u32.wrap ((x.toNat : Int) * 2 ^ (min (n : Int).toNat 32)) = _
  have h1 : min (n : Int).toNat 32 = n := by simp; omega
  rw [h1, BitVec.toNat_shiftLeft, Nat.shiftLeft_eq, wrap32]
  simp
theorem ishr_w (x : BitVec 32) (n : Nat) (hn : n ≤ 32) : ishr .u32 (x.toNat : Int) (n : Int) = ((x.toNat / 2 ^ n : Nat) : Int) := by
  unfold ishr
  show Int.fdiv (x.toNat : Int) (2 ^ (min (n : Int).toNat 32)) = _
  have h1 : min (n : Int).toNat 32 = n := by simp; omega
  rw [h1, Int.fdiv_eq_ediv_of_nonneg _ (by exact Int.pow_nonneg (by decide))]
  simp

theorem ixor_poly (x : BitVec 32) : ixor .u32 (x.toNat : Int) 517762881 = (x ^^^ poly).toNat := ixor_w x poly
theorem top_iff (x : BitVec 32) : iand .u32 (x.toNat : Int) 2147483648 = 0 ↔ x.msb = false := by
  have h1 : iand .u32 (x.toNat : Int) 2147483648 = (x &&& 2147483648#32).toNat := iand_w x 2147483648#32
  rw [h1]
  have h2 : 2147483648#32 = BitVec.twoPow 32 31 := by decide
  rw [h2, BitVec.and_twoPow]
  have h3 : x.msb = x.getLsbD 31 := by rw [BitVec.msb_eq_getLsbD_last]
  rw [h3]
  by_cases h : x.getLsbD 31 = true
  · rw [if_pos h, h]; simp [BitVec.twoPow]
  · rw [if_neg h]; simp at h; simp [h]
theorem shl1_w (x : BitVec 32) : ishl .u32 (x.toNat : Int) 1 = (x <<< 1).toNat := ishl_w x 1 (by decide)
theorem byte_w (c : UInt8) : IntKind.u32.wrap (c.toNat : Int) = (BitVec.ofNat 32 c.toNat).toNat := by
  have h := c.toNat_lt
  rw [wrap32]; simp; omega
theorem shl24_w (c : UInt8) : ishl .u32 ((BitVec.ofNat 32 c.toNat).toNat : Int) 24 = (BitVec.ofNat 32 c.toNat <<< 24).toNat := ishl_w _ 24 (by decide)

/-! bit by bit -/
theorem msb_c : ∀ c : Fin 256, ((BitVec.ofNat 32 c.val) <<< 24).msb = decide (128 ≤ c.val) := by decide +kernel
theorem shl_c : ∀ c : Fin 256, ((BitVec.ofNat 32 c.val) <<< 24) <<< 1 = (BitVec.ofNat 32 (c.val * 2 % 256)) <<< 24 := by decide +kernel
theorem step_bit (s : BitVec 32) (c : Nat) (hc : c < 256) : stepT (s ^^^ (BitVec.ofNat 32 c <<< 24)) =
    (if s.toNat / 2147483648 = c / 128 then s <<< 1 else (s <<< 1) ^^^ poly) ^^^ (BitVec.ofNat 32 (c * 2 % 256) <<< 24) := by
  unfold stepT
  have h1 := msb_c ⟨c, hc⟩
  have h2 := shl_c ⟨c, hc⟩
  simp only at h1 h2
  rw [BitVec.msb_xor, h1, BitVec.msb_eq_decide, BitVec.shiftLeft_xor_distrib, h2]
  have h3 := s.isLt
  have h4 : (decide (2 ^ (32 - 1) ≤ s.toNat) ^^ decide (128 ≤ c)) = !decide (s.toNat / 2147483648 = c / 128) := by
    by_cases a : 2 ^ (32 - 1) ≤ s.toNat <;> by_cases b : 128 ≤ c
    · have : s.toNat / 2147483648 = c / 128 := by omega
      simp [b, this]; simp at a; omega
    · have : ¬ s.toNat / 2147483648 = c / 128 := by omega
      simp [b, this]; simp at a; omega
    · have : ¬ s.toNat / 2147483648 = c / 128 := by omega
      simp [b, this]; simp at a; omega
    · have : s.toNat / 2147483648 = c / 128 := by omega
      simp [b, this]; simp at a; omega
  rw [h4]
  by_cases h : s.toNat / 2147483648 = c / 128
  · simp [h]
  · simp only [h, decide_false, Bool.not_false, if_true, if_false]
    rw [BitVec.xor_assoc, BitVec.xor_assoc, BitVec.xor_comm _ poly]

@[simp] theorem get_set_self (h : AHeap) (o : Nat) (x : AObj) : (h.set o x).get o = some x := by rw [AHeap.get_set]; simp
theorem get_set_ne {h : AHeap} {o p : Nat} {x : AObj} (hn : o ≠ p) : (h.set o x).get p = h.get p := by rw [AHeap.get_set, if_neg (by omega)]
end Go.Proofs.Ytomhcjiefmaopaa
set_option linter.all false
namespace Go.Proofs.Ytomhcjiefmaopaa
open Go Ieee

/-- a datum that stands for a whole number -/
def Dz (d : Datum) (n : Int) : Prop := ∃ s m e, d = .number s m e ∧ e ≤ 0 ∧ m = n.natAbs * 2 ^ (-e).toNat ∧ (if s then n ≤ 0 else 0 ≤ n)
/-- a word that stands for a whole number -/
def Wh (b : Nat) (n : Int) : Prop := Dz (double.read b) n

theorem signed_dz {s : Bool} {m : Nat} {e base : Int} {n : Int} (he : e ≤ 0) (hm : m = n.natAbs * 2 ^ (-e).toNat) (hs : if s then n ≤ 0 else 0 ≤ n) (hb : base ≤ e) : signed s m (e - base).toNat = n * 2 ^ (-base).toNat := by
  have h1 : ((m <<< (e - base).toNat : Nat) : Int) = (n.natAbs : Int) * 2 ^ (-base).toNat := by
    rw [Nat.shiftLeft_eq, hm, Nat.mul_assoc, ← Nat.pow_add, show (-e).toNat + (e - base).toNat = (-base).toNat by omega]
    push_cast; rfl
  unfold signed
  cases s with
  | true =>
    simp only [if_true] at hs ⊢
    rw [h1, show (n.natAbs : Int) = -n by omega, Int.neg_mul, Int.neg_neg]
  | false =>
    simp only [Bool.false_eq_true, if_false] at hs ⊢
    rw [h1, show (n.natAbs : Int) = n by omega]

theorem pow_big : (2 : Nat) ^ 11 = 2048 := by decide
theorem double_sw : double.signWeight = 2 ^ 63 := by decide
theorem double_bi : double.binade = 2 ^ 52 := by decide
theorem double_inf : double.infRung = 2047 * 2 ^ 52 := by decide
theorem double_lp : double.leastPlace = -1074 := by decide

theorem read_word (s : Bool) {r : Nat} (hr : r < 2 ^ 63) : double.read (double.word s r) =
    if r < 2 ^ 52 then .number s r (-1074) else if r < 2047 * 2 ^ 52 then .number s (2 ^ 52 + r % 2 ^ 52) (-1074 + (r / 2 ^ 52 - 1 : Nat)) else if r = 2047 * 2 ^ 52 then .infinity s else .nan s (r - 2047 * 2 ^ 52) := by
  have h1 : double.word s r % 2 ^ 63 = r := by
    unfold Format.word
    rw [double_sw]
    cases s <;> simp <;> omega
  have h2 : (double.word s r / 2 ^ 63 % 2 == 1) = s := by
    unfold Format.word
    rw [double_sw]
    cases s with
    | true =>
      simp only [if_true]
      rw [show (2 ^ 63 + r) / 2 ^ 63 = 1 by omega]; rfl
    | false =>
      simp only [Bool.false_eq_true, if_false]
      rw [show r / 2 ^ 63 = 0 by omega]; rfl
  unfold Format.read
  simp only [double_sw, double_bi, double_inf, double_lp, h1, h2]

theorem cut_exact {neg : Bool} {q k : Nat} : Toward.even.cut neg (q * 2 ^ k) k = q := by
  unfold Toward.cut
  by_cases hq : q = 0
  · subst hq
    simp
  · have hk : k ≤ (q * 2 ^ k).log2 := by
      rw [Nat.le_log2 (by have := Nat.two_pow_pos k; exact Nat.mul_ne_zero hq (by omega))]
      exact Nat.le_mul_of_pos_left _ (by omega)
    have hg : 1 <<< min k ((q * 2 ^ k).log2 + 2) = 2 ^ k := by
      rw [Nat.min_eq_left (by omega), Nat.shiftLeft_eq, Nat.one_mul]
    simp only [hg]
    have h1 : q * 2 ^ k / 2 ^ k = q := Nat.mul_div_cancel _ (Nat.two_pow_pos k)
    have h2 : q * 2 ^ k % 2 ^ k = 0 := Nat.mul_mod_left _ _
    have hp := Nat.two_pow_pos k
    rw [h1, h2]
    have e1 : decide (2 ^ k < 2 * 0) = false := decide_eq_false (by omega)
    have e2 : (2 ^ k == 2 * 0) = false := by rw [beq_eq_false_iff_ne]; omega
    rw [e1, e2]; rfl

theorem log2_mul {a : Nat} (h : a ≠ 0) (k : Nat) : (a * 2 ^ k).log2 = a.log2 + k := by
  have hp := Nat.two_pow_pos k
  rw [Nat.log2_eq_iff (Nat.mul_ne_zero h (by omega))]
  constructor
  · rw [Nat.pow_add]; exact Nat.mul_le_mul_right _ (Nat.log2_self_le h)
  · rw [show a.log2 + k + 1 = (a.log2 + 1) + k by omega, Nat.pow_add]
    exact Nat.mul_lt_mul_of_pos_right Nat.lt_log2_self hp

/-- a whole number that is written is read again -/
theorem write_wh {s : Bool} {m : Nat} {p n : Int} (hp : p ≤ 0) (hm : m = n.natAbs * 2 ^ (-p).toNat) (hs : if s then n ≤ 0 else 0 ≤ n) (hn : n.natAbs < 2 ^ 53) : Wh (double.write (.number s m p)) n := by
  unfold Wh Format.write Format.nearest
  simp only
  by_cases h0 : n.natAbs = 0
  · have hm0 : m = 0 := by rw [hm, h0, Nat.zero_mul]
    rw [if_pos hm0, read_word s (by decide), if_pos (by decide)]
    exact ⟨s, 0, -1074, rfl, by decide, by rw [h0, Nat.zero_mul], hs⟩
  · have hmp : m ≠ 0 := by rw [hm]; exact Nat.mul_ne_zero h0 (by have := Nat.two_pow_pos (-p).toNat; omega)
    rw [if_neg hmp, double_lp]
    have hl : m.log2 = n.natAbs.log2 + (-p).toNat := by
      rw [hm]; exact log2_mul h0 _
    have hL : n.natAbs.log2 < 53 := (Nat.log2_lt h0).2 hn
    obtain ⟨L, hLL⟩ : ∃ L, L = n.natAbs.log2 := ⟨_, rfl⟩
    rw [← hLL] at hl hL
    have hfb : ((double.fractionBits : Nat) : Int) = 52 := rfl
    have hlast : max (p + (m.log2 : Int) - (double.fractionBits : Int)) (-1074) = (L : Int) - 52 := by
      rw [hfb, hl]; push_cast; omega
    rw [hlast]
    obtain ⟨K, hK⟩ : ∃ K, K = n.natAbs * 2 ^ (52 - L) := ⟨_, rfl⟩
    have hkept : Toward.even.cut s (m <<< (p - ((L : Int) - 52)).toNat) ((L : Int) - 52 - p).toNat = K := by
      have e1 : m <<< (p - ((L : Int) - 52)).toNat = K * 2 ^ ((L : Int) - 52 - p).toNat := by
        rw [Nat.shiftLeft_eq, hm, hK, Nat.mul_assoc, Nat.mul_assoc, ← Nat.pow_add, ← Nat.pow_add]
        congr 2; omega
      rw [e1]; exact cut_exact
    rw [hkept]
    have hK1 : 2 ^ 52 ≤ K := by
      have h1 : 2 ^ L ≤ n.natAbs := by rw [hLL]; exact Nat.log2_self_le h0
      rw [hK]
      calc 2 ^ 52 = 2 ^ L * 2 ^ (52 - L) := by rw [← Nat.pow_add]; congr 1; omega
        _ ≤ _ := Nat.mul_le_mul_right _ h1
    have hK2 : K < 2 ^ 53 := by
      have h1 : n.natAbs < 2 ^ (L + 1) := by rw [hLL]; exact Nat.lt_log2_self
      rw [hK]
      calc n.natAbs * 2 ^ (52 - L) < 2 ^ (L + 1) * 2 ^ (52 - L) := Nat.mul_lt_mul_of_pos_right h1 (Nat.two_pow_pos _)
        _ = 2 ^ 53 := by rw [← Nat.pow_add]; congr 1; omega
    obtain ⟨t, ht⟩ : ∃ t, t = ((L : Int) - 52 - -1074).toNat := ⟨_, rfl⟩
    have ht2 : t = L + 1022 := by omega
    rw [← ht, double_bi, double_inf]
    have r0 : t * 2 ^ 52 + K ≤ 2047 * 2 ^ 52 := by omega
    have r1 : t * 2 ^ 52 + K < 2 ^ 63 := by omega
    have r2 : ¬ t * 2 ^ 52 + K < 2 ^ 52 := by omega
    have r3 : t * 2 ^ 52 + K < 2047 * 2 ^ 52 := by omega
    rw [Nat.min_eq_left r0, read_word s r1, if_neg r2, if_pos r3]
    refine ⟨s, K, (L : Int) - 52, ?_, by omega, ?_, hs⟩
    · have e1 : 2 ^ 52 + (t * 2 ^ 52 + K) % 2 ^ 52 = K := by omega
      have e2 : (-1074 : Int) + ((t * 2 ^ 52 + K) / 2 ^ 52 - 1 : Nat) = (L : Int) - 52 := by omega
      rw [e1, e2]
    · rw [hK]; congr 2; omega

theorem nearest_wh {n : Int} (hn : n.natAbs < 2 ^ 53) : Wh (FloatKind.f64.nearest n) n := by
  unfold FloatKind.nearest FloatKind.encode
  refine write_wh (n := n) (Int.le_refl 0) (by simp) ?_ hn
  by_cases h : n < 0
  · simp [h]; omega
  · simp [h]; omega

theorem sum_dz {a b : Datum} {x y : Int} (ha : Dz a x) (hb : Dz b y) : ∃ s m p, a.sum b = some (.number s m p) ∧ p ≤ 0 ∧ m = (x + y).natAbs * 2 ^ (-p).toNat ∧ (if s then x + y ≤ 0 else 0 ≤ x + y) := by
  obtain ⟨s, m, i, rfl, hi, hm, hs⟩ := ha
  obtain ⟨t, n, j, rfl, hj, hn, ht⟩ := hb
  have e1 := signed_dz hi hm hs (base := min i j) (by omega)
  have e2 := signed_dz hj hn ht (base := min i j) (by omega)
  have htot : signed s m (i - min i j).toNat + signed t n (j - min i j).toNat = (x + y) * 2 ^ (-min i j).toNat := by
    rw [e1, e2, Int.add_mul]
  have hp : (0 : Int) < 2 ^ (-min i j).toNat := Int.pow_pos (by decide)
  refine ⟨_, _, _, rfl, by omega, ?_, ?_⟩
  · rw [htot, Int.natAbs_mul, Int.natAbs_pow]; rfl
  · rw [htot]
    by_cases h0 : x + y = 0
    · rw [h0]; simp
    · have hne : (x + y) * 2 ^ (-min i j).toNat ≠ 0 := Int.mul_ne_zero h0 (by omega)
      rw [if_neg hne]
      by_cases hlt : x + y < 0
      · have : (x + y) * 2 ^ (-min i j).toNat < 0 := Int.mul_neg_of_neg_of_pos hlt hp
        simp [this]; omega
      · have : ¬ (x + y) * 2 ^ (-min i j).toNat < 0 := by
          have := Int.mul_nonneg (show 0 ≤ x + y by omega) (Int.le_of_lt hp); omega
        simp [this]; omega
theorem opp_dz {a : Datum} {x : Int} (ha : Dz a x) : Dz a.opposite (-x) := by
  obtain ⟨s, m, i, rfl, hi, hm, hs⟩ := ha
  refine ⟨!s, m, i, rfl, hi, by rw [hm, Int.natAbs_neg], ?_⟩
  cases s <;> simp at hs ⊢ <;> omega
theorem add_wh {a b : Nat} {x y : Int} (ha : Wh a x) (hb : Wh b y) (h : (x + y).natAbs < 2 ^ 53) : ∃ r, double.add a b = some r ∧ Wh r (x + y) := by
  obtain ⟨s, m, p, e1, e2, e3, e4⟩ := sum_dz ha hb
  refine ⟨_, ?_, write_wh e2 e3 e4 h⟩
  unfold Format.add; rw [e1]; rfl
theorem sub_wh {a b : Nat} {x y : Int} (ha : Wh a x) (hb : Wh b y) (h : (x - y).natAbs < 2 ^ 53) : ∃ r, double.sub a b = some r ∧ Wh r (x - y) := by
  obtain ⟨s, m, p, e1, e2, e3, e4⟩ := sum_dz ha (opp_dz hb)
  rw [← Int.sub_eq_add_neg] at e3 e4
  refine ⟨_, ?_, write_wh e2 e3 e4 h⟩
  unfold Format.sub; rw [e1]; rfl
theorem mul_wh {a b : Nat} {x y : Int} (ha : Wh a x) (hb : Wh b y) (h : (x * y).natAbs < 2 ^ 53) : ∃ r, double.mul a b = some r ∧ Wh r (x * y) := by
  obtain ⟨s, m, i, ea, hi, hm, hs⟩ := ha
  obtain ⟨t, n, j, eb, hj, hn, ht⟩ := hb
  refine ⟨_, by unfold Format.mul; rw [ea, eb]; rfl, write_wh (s := s ^^ t) (m := m * n) (p := i + j) (n := x * y) (by omega) ?_ ?_ h⟩
  · rw [hm, hn, Int.natAbs_mul, show (-(i + j)).toNat = (-i).toNat + (-j).toNat by omega, Nat.pow_add]
    simp only [Nat.mul_assoc, Nat.mul_left_comm]
  · cases s <;> cases t <;> simp at hs ht ⊢
    · exact Int.mul_nonneg hs ht
    · exact Int.mul_nonpos_of_nonneg_of_nonpos hs ht
    · exact Int.mul_nonpos_of_nonpos_of_nonneg hs ht
    · exact Int.mul_nonneg_of_nonpos_of_nonpos hs ht
theorem cmp_lt {x y : Int} (h : x < y) : compare x y = .lt := by
  show compareOfLessAndEq x y = .lt
  unfold compareOfLessAndEq; rw [if_pos h]
theorem cmp_gt {x y : Int} (h : y < x) : compare x y = .gt := by
  show compareOfLessAndEq x y = .gt
  unfold compareOfLessAndEq; rw [if_neg (by omega), if_neg (by omega)]
theorem cmp_eq (x : Int) : compare x x = .eq := by
  show compareOfLessAndEq x x = .eq
  unfold compareOfLessAndEq; rw [if_neg (by omega), if_pos rfl]
theorem order_wh {a b : Nat} {x y : Int} (ha : Wh a x) (hb : Wh b y) : double.order a b = some (compare x y) := by
  obtain ⟨s, m, i, ea, hi, hm, hs⟩ := ha
  obtain ⟨t, n, j, eb, hj, hn, ht⟩ := hb
  unfold Format.order
  rw [ea, eb]
  unfold Datum.order
  simp only
  rw [signed_dz hi hm hs (base := min i j) (by omega), signed_dz hj hn ht (base := min i j) (by omega)]
  have hp : (0 : Int) < 2 ^ (-min i j).toNat := Int.pow_pos (by decide)
  congr 1
  rcases Int.lt_trichotomy x y with h | h | h
  · rw [cmp_lt h, cmp_lt (Int.mul_lt_mul_of_pos_right h hp)]
  · rw [h, cmp_eq, cmp_eq]
  · rw [cmp_gt h, cmp_gt (Int.mul_lt_mul_of_pos_right h hp)]
theorem toInt_wh {a : Nat} {x : Int} (ha : Wh a x) : (double.read a).toInt .zero = some x := by
  obtain ⟨s, m, i, ea, hi, hm, hs⟩ := ha
  rw [ea]
  unfold Datum.toInt Datum.integral
  simp only
  have h1 : m <<< i.toNat = m := by rw [show i.toNat = 0 by omega]; rfl
  have h2 : Toward.zero.cut s m (-i).toNat = x.natAbs := by
    rw [hm]
    unfold Toward.cut
    simp only [Bool.toNat_false, Nat.add_zero]
    by_cases hq : x.natAbs = 0
    · rw [hq]; simp
    · have hk : (-i).toNat ≤ (x.natAbs * 2 ^ (-i).toNat).log2 := by
        rw [Nat.le_log2 (by have := Nat.two_pow_pos (-i).toNat; exact Nat.mul_ne_zero hq (by omega))]
        exact Nat.le_mul_of_pos_left _ (by omega)
      rw [Nat.min_eq_left (by omega), Nat.shiftLeft_eq, Nat.one_mul]
      exact Nat.mul_div_cancel _ (Nat.two_pow_pos _)
  rw [h1, h2]
  congr 1
  have := signed_dz (s := s) (m := x.natAbs) (e := 0) (base := 0) (n := x) (by decide) (by simp) hs (by decide)
  simpa using this
theorem wh_inj {a : Nat} {x y : Int} (h : Wh a x) (k : Wh a y) : x = y := by
  have h1 := toInt_wh h
  rw [toInt_wh k] at h1
  cases h1; rfl
end Go.Proofs.Ytomhcjiefmaopaa
