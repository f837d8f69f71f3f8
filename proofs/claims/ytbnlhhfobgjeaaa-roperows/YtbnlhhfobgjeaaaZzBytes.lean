/-
  Slices of bytes; numbers as bytes.
-/
import Derived.Test.YtbnlhhfobgjeaaaZzArg
set_option linter.all false
namespace Go.Proofs.Ytbnlhhfobgjeaaa
open Go Go.RowKit

def bcell (b : UInt8) : AVal := .int .u8 b.toNat
def bes (bs : List UInt8) : List (List AVal) := bs.map fun b => [bcell b]
theorem bes_len (bs : List UInt8) : (bes bs).length = bs.length := by simp [bes]
theorem bes_flat (bs : List UInt8) : (bes bs).flatten = bs.map bcell := by
  unfold bes
  induction bs with
  | nil => rfl
  | cons b l ih => simp only [List.map_cons, List.flatten_cons, ih]; rfl
theorem bes_one (bs : List UInt8) : ∀ e ∈ bes bs, e.length = 1 := by
  intro e he
  obtain ⟨b, _, rfl⟩ := List.mem_map.1 he; rfl
theorem bes_append (a b : List UInt8) : bes (a ++ b) = bes a ++ bes b := by simp [bes]
theorem bytesOf_cells (bs : List UInt8) : bytesOfA (bs.map bcell) = .ok bs := by
  induction bs with
  | nil => rfl
  | cons b l ih =>
    simp only [List.map_cons, bytesOfA, ih, bcell, byteOfA, Res.ok_bind]
    congr 2
    simp

/-- a slice of bytes that is read -/
def BS (c : Cfg) (h : AHeap) (v : AVal) (bs : List UInt8) : Prop := Sl c h 1 v (bes bs)
/-- one of one's own -/
def BM (h0 h : AHeap) (v : AVal) (bs : List UInt8) : Prop := Mine h0 h 1 (bes bs) v

section
variable {c : Cfg} {h : AHeap} {v : AVal} {bs : List UInt8}
theorem BM.toBS {h0 : AHeap} (m : BM h0 h v bs) : BS c h v bs := Mine.sl m
theorem BM.nil {h0 : AHeap} : BM h0 h .nils [] := Mine.nil _ _ _
theorem BS.nil : BS c h .nils [] := Sl.nil
theorem BS.old {h' : AHeap} (m : BS c h v bs) (o : Old h h') : BS c h' v bs := Sl.old m o
theorem BM.keep {h0 h' : AHeap} (m : BM h0 h v bs) (o : Old h h') : BM h0 h' v bs := Mine.keep m o
theorem BS.lenA (m : BS c h v bs) : Ytbnlhhfobgjeaaa.lenA v = .ok bs.length := by have := m.len; rw [bes_len] at this; exact this
theorem BS.lenSl (m : BS c h v bs) (hv : v ≠ .nils) : Ytbnlhhfobgjeaaa.lenSl v = .ok bs.length := by
  have h1 := m.lenA
  have h2 := m.noStr
  cases v <;> simp only [Ytbnlhhfobgjeaaa.lenA, Ytbnlhhfobgjeaaa.lenSl] at h1 ⊢ <;> first | exact h1 | (exact absurd rfl hv) | (exact absurd rfl (h2 _)) | (cases h1; done)
theorem BS.lenR (m : BS c h v bs) {t e : Nat} (ht : undR c.P t = .ok (.slice e)) : Ytbnlhhfobgjeaaa.lenR c h t v = .ok (.int .i64 bs.length) := by
  have := Sl.lenR m ht
  rw [bes_len] at this; exact this
theorem BS.idx (m : BS c h v bs) {P : Program} {t e : Nat} (ht : undR P t = .ok (.slice e)) (hs : sizeR P e = .ok 1) {k : IntKind} {i : Nat} (hi : i < bs.length) : indexAddrR P t v (.int k i) = .ok (elp v 1 i) :=
  Sl.idx m ht hs (by rw [bes_len]; exact hi)
theorem BS.load (m : BS c h v bs) {i t : Nat} (hi : i < bs.length) (hg : isAggR c.P t = .ok false) : loadR c h t (elp v 1 i) = .ok (.int .u8 bs[i].toNat) :=
  Sl.load1 m (e := [bcell bs[i]]) (by simp [bes, hi]) rfl hg
theorem BS.read (m : BS c h v bs) : readSl c h 1 bs.length v = .ok (bs.map bcell) := by
  have := Sl.read m
  rw [bes_len, bes_flat] at this; exact this
/-- string(b) -/
theorem BS.conv (m : BS c h v bs) {s d e : Nat} (hs : undR c.P s = .ok (.slice e)) (hd : undR c.P d = .ok .string) (he : undR c.P e = .ok (.int .u8)) : convR c h s d v = .ok (.str bs) := by
  unfold convR
  rw [hs, hd, Res.ok_bind, Res.ok_bind]
  by_cases hv : v = .nils
  · subst hv
    have := m.lenA
    simp only [Ytbnlhhfobgjeaaa.lenA] at this
    injection this with this
    have : bs = [] := List.length_eq_zero_iff.1 this.symm
    subst this
    simp [he]
  · have h1 := m.lenSl hv
    have h2 := m.noStr
    have h3 := m.read
    cases v <;> simp only [Ytbnlhhfobgjeaaa.lenSl] at h1 <;> first | (cases h1; done) | (exact absurd rfl (h2 _)) | skip
    all_goals (injection h1 with h1; subst h1; simp only [he, Res.ok_bind, Ytbnlhhfobgjeaaa.lenSl, h3, bytesOf_cells])
/-- b[:n] -/
theorem BS.upto (m : BS c h v bs) {n : Nat} (hn : n ≤ bs.length) (hs : ∀ o f l q, v ≠ .slc o f l q) {k : IntKind} : ∃ v', sliceSl h 1 v none (some (.int k n)) none = .ok v' ∧ BS c h v' (bs.take n) := by
  have hl := m.lenA
  have hrow := m.row
  have hlow := m.low
  have hroom := m.room
  have hes : ∀ (i : Nat) (e : List AVal), (bes (bs.take n))[i]? = some e → (bes bs)[i]? = some e := by
    intro i e he
    unfold bes at *
    rw [List.map_take, List.getElem?_take] at he
    split at he
    · exact he
    · cases he
  have hne : bes (bs.take n) ≠ [] → bes bs ≠ [] := by
    intro h1 h2
    apply h1
    have : bs = [] := by simpa [bes] using h2
    subst this; simp [bes]
  have hlen : (bs.take n).length = n := by simp; omega
  unfold sliceSl
  cases v with
  | nils =>
    simp only [Ytbnlhhfobgjeaaa.lenA] at hl
    injection hl with hl
    have hn0 : n = 0 := by omega
    subst hn0
    simp only [bounds2]
    rw [bd_nat (Nat.le_refl 0)]
    exact ⟨.nils, rfl, by simpa using BS.nil⟩
  | sl o f len =>
    simp only [Ytbnlhhfobgjeaaa.lenA] at hl
    injection hl with hl
    subst hl
    obtain ⟨z, vs, hg⟩ := hroom o f _ rfl
    have hr : roomOf h o f 1 = .ok ((vs.length - f) / 1) := by unfold roomOf; rw [hg]; simp
    simp only [hr, Res.ok_bind, bounds2]
    rw [bd_nat (by omega)]
    refine ⟨_, rfl, ?_⟩
    refine ⟨by show Res.ok _ = _; rw [bes_len, hlen]; simp, (fun s h => by cases h), fun hx => ?_, hlow, (fun o' f' n' hv => by cases hv; exact ⟨z, vs, hg⟩)⟩
    obtain ⟨ws, g, h1, h2⟩ := hrow (hne hx)
    refine ⟨ws, g, ?_, fun i e he => h2 i e (hes i e he)⟩
    simpa [rowOf] using h1
  | slc o f len cap => exact absurd rfl (hs _ _ _ _)
  | rsl r f len =>
    simp only [Ytbnlhhfobgjeaaa.lenA] at hl
    injection hl with hl
    subst hl
    simp only [bounds2]
    rw [bd_nat hn]
    refine ⟨_, rfl, ?_⟩
    refine ⟨by show Res.ok _ = _; rw [bes_len, hlen]; simp, (fun s h => by cases h), fun hx => ?_, trivial, (fun _ _ _ h => by cases h)⟩
    obtain ⟨ws, g, h1, h2⟩ := hrow (hne hx)
    refine ⟨ws, g, ?_, fun i e he => h2 i e (hes i e he)⟩
    simpa [rowOf] using h1
  | str s => exact absurd rfl (m.noStr s)
  | _ => simp only [Ytbnlhhfobgjeaaa.lenA] at hl; cases hl
end
end Go.Proofs.Ytbnlhhfobgjeaaa
