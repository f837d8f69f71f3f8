/-
  A part of the proof of ConsoleParses, over the seat YtofnbldbggddmaaGreatDoor: for every input the law returns true, and the input reads as it did.
-/
import Derived.Test.YtofnbldbggddmaaGreatDoorGi
import Derived.Lib.ItoaMem
set_option linter.all false
set_option linter.all false
set_option maxRecDepth 100000
set_option maxHeartbeats 4000000
namespace Go.Proofs.YtofnbldbggddmaaGreatDoor
open Go Go.RowKit Go.Proofs
abbrev Str := List UInt8
@[simp] theorem get_set_self (h : AHeap) (o : Nat) (x : AObj) : (h.set o x).get o = some x := by rw [AHeap.get_set, if_pos rfl]
theorem get_set_ne {h : AHeap} {o q : Nat} {x : AObj} (d : q ≠ o) : (h.set q x).get o = h.get o := by rw [AHeap.get_set, if_neg d.symm]
def plainB (b : UInt8) : Bool := decide (b.toNat = 10 ∨ (32 ≤ b.toNat ∧ b.toNat ≤ 126))
def plain (s : Str) : Bool := s.all plainB
theorem plain_step (s : Str) (i : Nat) (hi : i < s.length) : plain (s.drop i) = (plainB (s[i]'hi) && plain (s.drop (i + 1))) := by
  unfold plain
  rw [List.drop_eq_getElem_cons hi, List.all_cons]
section
variable {ro : Nat → Option (List AVal)}
theorem plain_ev {h : AHeap} {s : Str} (hl : s.length < 2 ^ 60) {Q : AVal → AHeap → Prop} (hq : ∀ h', Old h h' → Q (.bool (plain s)) h') : Ev (cfgR ro) 18 [.str s] h Q := by
  refine Ev.wp rfl rfl Tryz.func18 rfl ?_
  simp -implicitDefEqProofs [Tryz.f18]
  obtain ⟨H, hH⟩ : ∃ H, H = h.push (.row 1 true (s.map fun x => .int .u8 (x.toNat : Int))) := ⟨_, rfl⟩
  have ho : Old h H := by rw [hH]; exact (Old.refl h).push _
  have hg : H.get h.next = some (.row 1 true (s.map fun x => .int .u8 (x.toNat : Int))) := by rw [hH, AHeap.get_push, if_pos rfl]
  rw [← hH]
  obtain ⟨I, hI⟩ : ∃ I : Nat → List AVal → AHeap → Prop, I = fun m env h' => h' = H ∧ ∃ i, m = s.length - i ∧ i ≤ s.length ∧ plain s = plain (s.drop i) ∧ env = (.dead :: .dead :: .dead :: .dead :: .dead :: .dead :: .sl h.next 0 s.length :: .int .i64 s.length :: .int .i64 (i : Nat) :: .dead :: .dead :: .dead :: .dead :: .dead :: .dead :: .dead :: .dead :: .dead :: .dead :: .dead :: .dead :: .dead :: .dead :: []) := ⟨_, rfl⟩
  refine loop_of I ?_ s.length (by rw [hI]; exact ⟨rfl, 0, by simp, Nat.zero_le _, rfl, rfl⟩)
  intro m env h' hi
  rw [hI] at hi
  obtain ⟨rfl, i, rfl, g1, g2, rfl⟩ := hi
  by_cases hlt : i < s.length
  · have d1 : decide ((i : Int) < (s.length : Int)) = true := decide_eq_true (by omega)
    obtain ⟨b, hb⟩ : ∃ b, b = s[i] := ⟨_, rfl⟩
    have hx : idxNat (.int .i64 (i : Int)) s.length = .ok i := ix_nat hlt
    have hn : nthR (s.map fun x => AVal.int .u8 (x.toNat : Int)) i = .ok (.int .u8 (b.toNat : Int)) := nthR_get (by rw [List.getElem?_map, List.getElem?_eq_getElem hlt, hb]; rfl)
    have hw : IntKind.i64.wrap ((i : Int) + 1) = ((i + 1 : Nat) : Int) := by rw [w64 (by omega) (by omega)]; omega
    have hs := plain_step s i hlt
    rw [← hb] at hs
    obtain ⟨n, hnn⟩ : ∃ n, n = b.toNat := ⟨_, rfl⟩
    unfold plainB at hs
    rw [← hnn] at hs hn
    obtain ⟨i1, hi1⟩ : ∃ i1, i1 = i + 1 := ⟨_, rfl⟩
    rw [← hi1] at hw hs
    have no : ¬ (n = 10 ∨ (32 ≤ n ∧ n ≤ 126)) → Q (.bool false) h' := fun hh => by
      have := hq h' ho
      rw [g2, hs, decide_eq_false hh, Bool.false_and] at this; exact this
    have yes : (n = 10 ∨ (32 ≤ n ∧ n ≤ 126)) → plain s = plain (s.drop i1) := fun hh => by rw [g2, hs, decide_eq_true hh, Bool.true_and]
    have go : plain s = plain (s.drop i1) → I (s.length - i1) ((.dead :: .dead :: .dead :: .dead :: .dead :: .dead :: .sl h.next 0 s.length :: .int .i64 s.length :: .int .i64 (i1 : Nat) :: .dead :: .dead :: .dead :: .dead :: .dead :: .dead :: .dead :: .dead :: .dead :: .dead :: .dead :: .dead :: .dead :: .dead :: [])) h' := fun hh => by rw [hI]; exact ⟨rfl, i1, rfl, by omega, hh, rfl⟩
    by_cases c1 : n = 10
    · subst c1
      simp -implicitDefEqProofs [d1, hlt, hx, hg, hn, hw]
      exact .mk (m := s.length - i1) (by omega) (go (yes (.inl rfl)))
    · have e1 : ¬ ((n : Int) = 10) := by omega
      by_cases c2 : n < 32
      · have d2 : decide ((n : Int) < 32) = true := decide_eq_true (by omega)
        simp -implicitDefEqProofs [d1, hlt, hx, hg, hn, hw, c1, e1, c2, d2]
        exact no (by omega)
      · have d2 : decide ((n : Int) < 32) = false := decide_eq_false (by omega)
        by_cases c3 : 126 < n
        · have d3 : decide (126 < (n : Int)) = true := decide_eq_true (by omega)
          simp -implicitDefEqProofs [d1, hlt, hx, hg, hn, hw, c1, e1, c2, d2, c3, d3]
          exact no (by omega)
        · have d3 : decide (126 < (n : Int)) = false := decide_eq_false (by omega)
          simp -implicitDefEqProofs [d1, hlt, hx, hg, hn, hw, c1, e1, c2, d2, c3, d3]
          exact .mk (m := s.length - i1) (by omega) (go (yes (.inr ⟨by omega, by omega⟩)))
  · have d1 : decide ((i : Int) < (s.length : Int)) = false := decide_eq_false (by omega)
    simp -implicitDefEqProofs [d1, hlt]
    have := hq h' ho
    rw [g2, List.drop_eq_nil_of_le (by omega)] at this
    exact this
theorem plain8_ev {h : AHeap} {s : Str} (hl : s.length < 2 ^ 60) {Q : AVal → AHeap → Prop} (hq : Q (.bool (plain s)) h) : Ev (cfgR ro) 7 [.str s] h Q := by
  refine Ev.wp rfl rfl Tryz.func7 rfl ?_
  simp -implicitDefEqProofs [Tryz.f7]
  obtain ⟨I, hI⟩ : ∃ I : Nat → List AVal → AHeap → Prop, I = fun m env h' => h' = h ∧ ∃ i, m = s.length - i ∧ i ≤ s.length ∧ plain s = plain (s.drop i) ∧ env = (.str s :: .dead :: .dead :: .int .i64 (i : Nat) :: .dead :: .dead :: .dead :: .dead :: .dead :: .dead :: .dead :: .dead :: .dead :: .dead :: .dead :: .dead :: .dead :: .dead :: .dead :: .dead :: .dead :: .dead :: .dead :: .dead :: .dead :: .dead :: []) := ⟨_, rfl⟩
  refine loop_of I ?_ s.length (by rw [hI]; exact ⟨rfl, 0, by simp, Nat.zero_le _, rfl, rfl⟩)
  intro m env h' hi
  rw [hI] at hi
  obtain ⟨rfl, i, rfl, g1, g2, rfl⟩ := hi
  by_cases hlt : i < s.length
  · obtain ⟨b, hb⟩ : ∃ b, b = s[i] := ⟨_, rfl⟩
    have hx : idxNat (.int .i64 (i : Int)) s.length = .ok i := ix_nat hlt
    have hn : s[i]'hlt = b := hb.symm
    have hw : IntKind.i64.wrap ((i : Int) + 1) = ((i + 1 : Nat) : Int) := by rw [w64 (by omega) (by omega)]; omega
    have hs := plain_step s i hlt
    rw [← hb] at hs
    obtain ⟨n, hnn⟩ : ∃ n, n = b.toNat := ⟨_, rfl⟩
    unfold plainB at hs
    rw [← hnn] at hs
    obtain ⟨i1, hi1⟩ : ∃ i1, i1 = i + 1 := ⟨_, rfl⟩
    rw [← hi1] at hw hs
    have no : ¬ (n = 10 ∨ (32 ≤ n ∧ n ≤ 126)) → Q (.bool false) h' := fun hh => by
      rw [g2, hs, decide_eq_false hh, Bool.false_and] at hq; exact hq
    have yes : (n = 10 ∨ (32 ≤ n ∧ n ≤ 126)) → plain s = plain (s.drop i1) := fun hh => by rw [g2, hs, decide_eq_true hh, Bool.true_and]
    have go : plain s = plain (s.drop i1) → I (s.length - i1) ((.str s :: .dead :: .dead :: .int .i64 (i1 : Nat) :: .dead :: .dead :: .dead :: .dead :: .dead :: .dead :: .dead :: .dead :: .dead :: .dead :: .dead :: .dead :: .dead :: .dead :: .dead :: .dead :: .dead :: .dead :: .dead :: .dead :: .dead :: .dead :: [])) h' := fun hh => by rw [hI]; exact ⟨rfl, i1, rfl, by omega, hh, rfl⟩
    by_cases c1 : n = 10
    · simp -implicitDefEqProofs [hlt, hx, hn, hw, ← hnn, c1]
      exact .mk (m := s.length - i1) (by omega) (go (yes (.inl c1)))
    · have e1 : ¬ ((n : Int) = 10) := by omega
      by_cases c2 : n < 32
      · have d2 : decide ((n : Int) < 32) = true := decide_eq_true (by omega)
        simp -implicitDefEqProofs [hlt, hx, hn, hw, ← hnn, c1, e1, c2, d2]
        exact no (by omega)
      · have d2 : decide ((n : Int) < 32) = false := decide_eq_false (by omega)
        by_cases c3 : 126 < n
        · have d3 : decide ((126 : Int) < (n : Int)) = true := decide_eq_true (by omega)
          simp -implicitDefEqProofs [hlt, hx, hn, hw, ← hnn, c1, e1, c2, d2, c3, d3]
          exact no (by omega)
        · have d3 : decide ((126 : Int) < (n : Int)) = false := decide_eq_false (by omega)
          simp -implicitDefEqProofs [hlt, hx, hn, hw, ← hnn, c1, e1, c2, d2, c3, d3]
          exact .mk (m := s.length - i1) (by omega) (go (yes (by omega)))
  · have e : s.drop i = [] := List.drop_eq_nil_of_le (by omega)
    rw [g2, e] at hq
    simp -implicitDefEqProofs [hlt]
    exact hq
/-- a builder of one's own, in which something stands -/
def BL (h0 h : AHeap) (o : Nat) (s : Str) : Prop := Old h0 h ∧ h0.next ≤ o ∧ o < h.next ∧ ((s = [] ∧ h.get o = some (.bld 58 none)) ∨ (s ≠ [] ∧ ∃ q, h0.next ≤ q ∧ q < h.next ∧ q ≠ o ∧ h.get o = some (.bld 58 (some (q, s.length))) ∧ h.get q = some (.buf 5 s)))
theorem write_ev {h0 h : AHeap} {o : Nat} {s x : Str} (hb : BL h0 h o s) (hl : s.length + x.length ≤ 2 ^ 40) {Q : AVal → AHeap → Prop} (hK : ∀ h', BL h0 h' o (s ++ x) → Q (.tuple [.int .i64 x.length, .nili]) h') : Ev (cfgR ro) 20 [.ptr o 0, .str x] h Q := by
  obtain ⟨b1, b2, b3, b4⟩ := hb
  rcases b4 with ⟨rfl, hg⟩ | ⟨hs, q, q1, q2, q3, hg, hgq⟩
  · have hlx : ¬ 2 ^ 40 < x.length := by simp at hl; omega
    by_cases hx : x = []
    · subst hx
      refine Ev.prim (v := .tuple [.int .i64 ((0 : Nat) : Int), .nili]) (h' := (h.set o (.bld 58 none)).set o (.bld 58 none)) rfl (by show bldWrite _ _ _ _ = _; unfold bldWrite; simp [hg]) (hK _ ⟨(b1.set b2 _).set b2 _, b2, b3, .inl ⟨rfl, get_set_self _ _ _⟩⟩)
    · refine Ev.prim (v := .tuple [.int .i64 ((x.length : Nat) : Int), .nili]) (h' := ((h.set o (.bld 58 none)).push (.buf 5 x)).set o (.bld 58 (some (h.next, x.length)))) rfl (by show bldWrite _ _ _ _ = _; unfold bldWrite; simp only [hg]; rw [if_neg (by omega), if_neg hx]) (hK _ ⟨((b1.set b2 _).push _).set b2 _, b2, by simp; omega, .inr ⟨by simpa using hx, h.next, b1.1, by simp, by omega, by rw [get_set_self]; rfl, ?_⟩⟩)
      rw [get_set_ne (by omega), AHeap.get_push]; exact if_pos rfl
  · refine Ev.prim (v := .tuple [.int .i64 ((x.length : Nat) : Int), .nili]) (h' := (((h.set o (.bld 58 (some (q, s.length)))).del q).push (.buf 5 (s ++ x))).set o (.bld 58 (some (h.next, s.length + x.length)))) rfl (by show bldWrite _ _ _ _ = _; unfold bldWrite; simp only [hg, hgq]; rw [if_neg (by omega)]) (hK _ ⟨(((b1.set b2 _).del q1).push _).set b2 _, b2, by simp; omega, .inr ⟨by simp [hs], h.next, b1.1, by simp, by omega, by rw [get_set_self, List.length_append], ?_⟩⟩)
    rw [get_set_ne (by omega), AHeap.get_push]; exact if_pos rfl
theorem wbyte_ev {h0 h : AHeap} {o : Nat} {s : Str} {b : UInt8} (hb : BL h0 h o s) (hl : s.length + 1 ≤ 2 ^ 40) {Q : AVal → AHeap → Prop} (hK : ∀ h', BL h0 h' o (s ++ [b]) → Q .nili h') : Ev (cfgR ro) 19 [.ptr o 0, .int .u8 (b.toNat : Nat)] h Q := by
  obtain ⟨k, v, h', e, hbl⟩ := write_ev (ro := ro) (x := [b]) hb hl (Q := fun _ h' => BL h0 h' o (s ++ [b])) (fun h' q => q)
  have hw : ∃ v, bldWrite 58 5 [.ptr o 0, .str [b]] h = .ok (v, h') := by
    cases k with
    | zero => unfold callF at e; cases e
    | succ k => unfold callF at e; exact ⟨v, e⟩
  obtain ⟨v, hw⟩ := hw
  have hbn : (((b.toNat : Nat) : Int).toNat.toUInt8) = b := by simp
  refine Ev.prim (v := .nili) (h' := h') rfl ?_ (hK _ hbl)
  show bldByte _ _ _ _ = _
  unfold bldByte
  have hlt := b.toNat_lt
  simp only
  rw [if_neg (by omega), hbn, hw]
theorem bstr_ev {h0 h : AHeap} {o : Nat} {s : Str} (hb : BL h0 h o s) (hl : s.length ≤ 2 ^ 40) {Q : AVal → AHeap → Prop} (hK : ∀ h', Old h0 h' → Q (.str s) h') : Ev (cfgR ro) 21 [.ptr o 0] h Q := by
  obtain ⟨b1, b2, b3, b4⟩ := hb
  rcases b4 with ⟨rfl, hg⟩ | ⟨hs, q, q1, q2, q3, hg, hgq⟩
  · exact Ev.prim (v := .str []) (h' := h.del o) rfl (by show bldString _ _ _ _ = _; unfold bldString; simp [hg]) (hK _ (b1.del b2))
  · have hs0 : s.length ≠ 0 := by simpa using hs
    exact Ev.prim (v := .str s) (h' := (h.del o).del q) rfl (by show bldString _ _ _ _ = _; unfold bldString; simp only [hg, hgq]; rw [if_neg (by omega)]) (hK _ ((b1.del b2).del q1))
/-- rows stay -/
def Rows (o : Nat) (h h' : AHeap) : Prop := h.next ≤ h'.next ∧ ∀ p e f vs, p ≠ o → p < h.next → h.get p = some (.row e f vs) → h'.get p = some (.row e f vs)
theorem writeK_ev {h0 h : AHeap} {o : Nat} {s x : Str} (hb : BL h0 h o s) (hl : s.length + x.length ≤ 2 ^ 40) {Q : AVal → AHeap → Prop} (hK : ∀ h', BL h0 h' o (s ++ x) → Rows o h h' → Q (.tuple [.int .i64 x.length, .nili]) h') : Ev (cfgR ro) 20 [.ptr o 0, .str x] h Q := by
  obtain ⟨b1, b2, b3, b4⟩ := hb
  rcases b4 with ⟨rfl, hg⟩ | ⟨hs, q, q1, q2, q3, hg, hgq⟩
  · have hlx : ¬ 2 ^ 40 < x.length := by simp at hl; omega
    by_cases hx : x = []
    · subst hx
      refine Ev.prim (v := .tuple [.int .i64 ((0 : Nat) : Int), .nili]) (h' := (h.set o (.bld 58 none)).set o (.bld 58 none)) rfl (by show bldWrite _ _ _ _ = _; unfold bldWrite; simp [hg]) (hK _ ⟨(b1.set b2 _).set b2 _, b2, b3, .inl ⟨rfl, get_set_self _ _ _⟩⟩ ⟨Nat.le_refl _, fun p e f vs hp _ hg => by rw [get_set_ne (Ne.symm hp), get_set_ne (Ne.symm hp)]; exact hg⟩)
    · refine Ev.prim (v := .tuple [.int .i64 ((x.length : Nat) : Int), .nili]) (h' := ((h.set o (.bld 58 none)).push (.buf 5 x)).set o (.bld 58 (some (h.next, x.length)))) rfl (by show bldWrite _ _ _ _ = _; unfold bldWrite; simp only [hg]; rw [if_neg (by omega), if_neg hx]) (hK _ ⟨((b1.set b2 _).push _).set b2 _, b2, by simp; omega, .inr ⟨by simpa using hx, h.next, b1.1, by simp, by omega, by rw [get_set_self]; rfl, ?_⟩⟩ ⟨by simp, fun p e f vs hp hl hg => by rw [get_set_ne (Ne.symm hp), AHeap.get_push, if_neg (by simp; omega), get_set_ne (Ne.symm hp)]; exact hg⟩)
      rw [get_set_ne (by omega), AHeap.get_push]; exact if_pos rfl
  · refine Ev.prim (v := .tuple [.int .i64 ((x.length : Nat) : Int), .nili]) (h' := (((h.set o (.bld 58 (some (q, s.length)))).del q).push (.buf 5 (s ++ x))).set o (.bld 58 (some (h.next, s.length + x.length)))) rfl (by show bldWrite _ _ _ _ = _; unfold bldWrite; simp only [hg, hgq]; rw [if_neg (by omega)]) (hK _ ⟨(((b1.set b2 _).del q1).push _).set b2 _, b2, by simp; omega, .inr ⟨by simp [hs], h.next, b1.1, by simp, by omega, by rw [get_set_self, List.length_append], ?_⟩⟩ ⟨by simp, fun p e f vs hp hl hg => by
      have hpq : p ≠ q := fun e9 => by rw [e9] at hg; rw [hgq] at hg; cases hg
      rw [get_set_ne (Ne.symm hp), AHeap.get_push, if_neg (by simp; omega), AHeap.get_del, if_neg hpq, get_set_ne (Ne.symm hp)]; exact hg⟩)
    rw [get_set_ne (by omega), AHeap.get_push]; exact if_pos rfl
theorem wbyteK_ev {h0 h : AHeap} {o : Nat} {s : Str} {b : UInt8} (hb : BL h0 h o s) (hl : s.length + 1 ≤ 2 ^ 40) {Q : AVal → AHeap → Prop} (hK : ∀ h', BL h0 h' o (s ++ [b]) → Rows o h h' → Q .nili h') : Ev (cfgR ro) 19 [.ptr o 0, .int .u8 (b.toNat : Nat)] h Q := by
  obtain ⟨k, v, h', e, hbl⟩ := writeK_ev (ro := ro) (x := [b]) hb hl (Q := fun _ h' => BL h0 h' o (s ++ [b]) ∧ Rows o h h') (fun h' q r => ⟨q, r⟩)
  have hw : ∃ v, bldWrite 58 5 [.ptr o 0, .str [b]] h = .ok (v, h') := by
    cases k with
    | zero => unfold callF at e; cases e
    | succ k => unfold callF at e; exact ⟨v, e⟩
  obtain ⟨v, hw⟩ := hw
  have hbn : (((b.toNat : Nat) : Int).toNat.toUInt8) = b := by simp
  refine Ev.prim (v := .nili) (h' := h') rfl ?_ (hK _ hbl.1 hbl.2)
  show bldByte _ _ _ _ = _
  unfold bldByte
  have hlt := b.toNat_lt
  simp only
  rw [if_neg (by omega), hbn, hw]
end
end Go.Proofs.YtofnbldbggddmaaGreatDoor
set_option linter.all false
set_option maxRecDepth 100000
set_option maxHeartbeats 4000000
namespace Go.Proofs.YtofnbldbggddmaaGreatDoor
open Go Go.RowKit Go.Proofs
/-! quoting -/
def escB (b : UInt8) : Str := if b.toNat = 10 then [92, 110] else if b.toNat = 34 ∨ b.toNat = 92 then [92, b] else [b]
def esc (s : Str) : Str := s.flatMap escB
def quoteS (s : Str) : Str := 34 :: (esc s ++ [34])
theorem escB_len (b : UInt8) : (escB b).length ≤ 2 := by
  unfold escB
  split
  · decide
  · split <;> simp
theorem esc_len : ∀ s : Str, (esc s).length ≤ 2 * s.length
  | [] => by simp [esc]
  | b :: s => by
    have h1 := esc_len s
    have h2 := escB_len b
    unfold esc at h1 ⊢
    rw [List.flatMap_cons, List.length_append, List.length_cons]; omega
theorem esc_take {s : Str} {i : Nat} {b : UInt8} (h : s[i]? = some b) : esc (s.take (i + 1)) = esc (s.take i) ++ escB b := by
  obtain ⟨l, e⟩ := List.getElem?_eq_some_iff.1 h
  rw [List.take_succ_eq_append_getElem l, e]
  unfold esc
  rw [List.flatMap_append]; simp
def unqR : Str → Str → Option Str
  | [], _ => none
  | [b], out => if b.toNat = 34 then (if plain out then some out else none) else none
  | b :: c :: r, out => if b.toNat = 34 ∨ b.toNat = 10 then none else if b.toNat ≠ 92 then unqR (c :: r) (out ++ [b]) else if c.toNat = 110 then unqR r (out ++ [10]) else if c.toNat = 34 ∨ c.toNat = 92 then unqR r (out ++ [c]) else none
def unqS : Str → Option Str
  | [] => none
  | b :: r => if b.toNat = 34 then unqR r [] else none
theorem unqR_last : ∀ (n : Nat) (r out x : Str), r.length ≤ n → unqR r out = some x → ∃ b, r.getLast? = some b ∧ b.toNat = 34
  | n, [], _, _, _, h => by simp [unqR] at h
  | n, [b], out, x, _, h => by
    unfold unqR at h
    split at h
    · rename_i hb; exact ⟨b, rfl, hb⟩
    · cases h
  | 0, b :: c :: r, _, _, hl, _ => by simp at hl
  | n + 1, b :: c :: r, out, x, hl, h => by
    simp only [List.length_cons] at hl
    have go : ∀ (r' out' : Str), r'.length ≤ n → (b :: c :: r).getLast? = (b :: c :: r).getLast? → unqR r' out' = some x → (∃ p, b :: c :: r = p ++ r') → ∃ b', (b :: c :: r).getLast? = some b' ∧ b'.toNat = 34 := by
      intro r' out' hl' _ hh ⟨p, hp⟩
      obtain ⟨b', h1, h2⟩ := unqR_last n r' out' x hl' hh
      refine ⟨b', ?_, h2⟩
      rw [hp, List.getLast?_append, h1]; rfl
    unfold unqR at h
    split at h
    · cases h
    split at h
    · exact go (c :: r) _ (by simp; omega) rfl h ⟨[b], rfl⟩
    split at h
    · exact go r _ (by omega) rfl h ⟨[b, c], rfl⟩
    split at h
    · exact go r _ (by omega) rfl h ⟨[b, c], rfl⟩
    · cases h
theorem unqR_esc : ∀ (s t out : Str), t ≠ [] → unqR (esc s ++ t) out = unqR t (out ++ s)
  | [], t, out, _ => by simp [esc]
  | b :: s, t, out, ht => by
    have ih := unqR_esc s t (out ++ [b]) ht
    have hne : esc s ++ t ≠ [] := by simp [ht]
    have e : esc (b :: s) = escB b ++ esc s := by unfold esc; rw [List.flatMap_cons]
    rw [e, List.append_assoc]
    unfold escB
    by_cases c1 : b.toNat = 10
    · have hb : b = 10 := UInt8.toNat_inj.1 c1
      rw [if_pos c1]
      subst hb
      show unqR (92 :: 110 :: (esc s ++ t)) out = _
      conv => lhs; unfold unqR
      rw [if_neg (by decide), if_neg (by decide), if_pos (by decide), ih]; simp
    · rw [if_neg c1]
      by_cases c2 : b.toNat = 34 ∨ b.toNat = 92
      · rw [if_pos c2]
        show unqR (92 :: b :: (esc s ++ t)) out = _
        conv => lhs; unfold unqR
        rw [if_neg (by decide), if_neg (by decide), if_neg (by omega), if_pos c2, ih]; simp
      · rw [if_neg c2]
        show unqR (b :: (esc s ++ t)) out = _
        obtain ⟨c, r, hr⟩ : ∃ c r, esc s ++ t = c :: r := by
          cases h : esc s ++ t with
          | nil => exact (hne h).elim
          | cons c r => exact ⟨c, r, rfl⟩
        rw [hr] at ih ⊢
        conv => lhs; unfold unqR
        rw [if_neg (by omega), if_pos (by omega), ih]; simp
theorem unq_quote {s : Str} (hp : plain s = true) : unqS (quoteS s) = some s := by
  show (if (34 : UInt8).toNat = 34 then unqR (esc s ++ [34]) [] else none) = some s
  rw [if_pos (by decide), unqR_esc s [34] [] (by simp)]
  unfold unqR
  rw [if_pos (by decide)]
  simp [hp]
end Go.Proofs.YtofnbldbggddmaaGreatDoor
set_option linter.all false
set_option maxRecDepth 100000
set_option maxHeartbeats 4000000
namespace Go.Proofs.YtofnbldbggddmaaGreatDoor
open Go Go.RowKit Go.Proofs
section
variable {ro : Nat → Option (List AVal)}
theorem quote_ev {h : AHeap} {s : Str} (hl : s.length < 2 ^ 30) {Q : AVal → AHeap → Prop} (hq : ∀ h', Old h h' → Q (.str (quoteS s)) h') : Ev (cfgR ro) 9 [.str s] h Q := by
  refine Ev.wp rfl rfl Tryz.func9 rfl ?_
  have hbld : bldR h 58 (.agg [.nilp, .nils]) = .ok (.ptr h.next 0, h.push (.bld 58 none)) := by rfl
  have hel := esc_len s
  have hn34 : ((34 : UInt8).toNat : Int) = 34 := rfl
  have hn92 : ((92 : UInt8).toNat : Int) = 92 := rfl
  simp -implicitDefEqProofs [Tryz.f9, hbld]
  obtain ⟨H1, hH1⟩ : ∃ H1, H1 = h.push (.bld 58 none) := ⟨_, rfl⟩
  obtain ⟨o, hoo⟩ : ∃ o, o = h.next := ⟨_, rfl⟩
  have bl : BL h H1 o [] := ⟨by rw [hH1]; exact (Old.refl h).push _, by omega, by rw [hH1, hoo]; simp, .inl ⟨rfl, by rw [hH1, hoo, AHeap.get_push, if_pos rfl]⟩⟩
  rw [← hH1, ← hoo]
  refine wbyteK_ev (b := 34) bl (by simp) (fun h2 bl2 _ => ?_)
  rw [List.nil_append] at bl2
  simp -implicitDefEqProofs
  obtain ⟨H3, hH3⟩ : ∃ H3, H3 = h2.push (.row 1 true (s.map fun x => .int .u8 (x.toNat : Int))) := ⟨_, rfl⟩
  obtain ⟨q, hqq⟩ : ∃ q, q = h2.next := ⟨_, rfl⟩
  have hg3 : H3.get q = some (.row 1 true (s.map fun x => .int .u8 (x.toNat : Int))) := by rw [hH3, hqq, AHeap.get_push, if_pos rfl]
  have hn3 : H3.next = h2.next + 1 := by rw [hH3]; rfl
  have hoq : q ≠ o := by have := bl2.2.2.1; omega
  have bl3 : BL h H3 o [34] := by
    obtain ⟨b1, b2, b3, b4⟩ := bl2
    have ho3 : ∀ p, p < h2.next → H3.get p = h2.get p := fun p hp => by rw [hH3, AHeap.get_push, if_neg (by omega)]
    refine ⟨by rw [hH3]; exact b1.push _, b2, by omega, b4.imp (fun ⟨c1, c2⟩ => ⟨c1, by rw [ho3 o b3]; exact c2⟩) (fun ⟨c1, p, c2, c3, c4, c5, c6⟩ => ⟨c1, p, c2, by omega, c4, by rw [ho3 o b3]; exact c5, by rw [ho3 p c3]; exact c6⟩)⟩
  rw [← hH3, ← hqq]
  obtain ⟨I, hI⟩ : ∃ I : Nat → List AVal → AHeap → Prop, I = fun m env h' => ∃ i : Nat, i + m = s.length ∧ BL h h' o (34 :: esc (s.take i)) ∧ h'.get q = some (.row 1 true (s.map fun x => .int .u8 (x.toNat : Int))) ∧ q < h'.next ∧
    env = (.dead :: .dead :: .dead :: .ptr o 0 :: .dead :: .dead :: .dead :: .dead :: .sl q 0 s.length :: .int .i64 (s.length : Nat) :: .int .i64 (i : Nat) :: .dead :: .dead :: .dead :: .dead :: .dead :: .dead :: .dead :: .dead :: .dead :: .dead :: .dead :: .dead :: .dead :: .dead :: .dead :: .dead :: .dead :: .dead :: []) := ⟨_, rfl⟩
  refine loop_of I ?_ s.length (by rw [hI]; exact ⟨0, by omega, bl3, hg3, by omega, rfl⟩)
  intro m env h' hi
  rw [hI] at hi
  obtain ⟨i, him, hbl, hgq, hqn, rfl⟩ := hi
  have hil : (esc (s.take i)).length ≤ 2 * s.length := by
    have := esc_len (s.take i)
    rw [List.length_take] at this; omega
  by_cases hlt : i < s.length
  · obtain ⟨b, hb⟩ : ∃ b, s[i]? = some b := ⟨_, List.getElem?_eq_getElem hlt⟩
    have hx : idxNat (.int .i64 (i : Int)) s.length = .ok i := ix_nat hlt
    have hn : nthR (s.map fun x => AVal.int .u8 (x.toNat : Int)) i = .ok (.int .u8 (b.toNat : Int)) := nthR_get (by rw [List.getElem?_map, hb]; rfl)
    have w1 : IntKind.i64.wrap ((i : Int) + 1) = ((i + 1 : Nat) : Int) := by rw [w64 (by omega) (by omega)]; omega
    have ht := esc_take hb
    have fin : ∀ h4, BL h h4 o (34 :: esc (s.take i) ++ escB b) → h4.get q = some (.row 1 true (s.map fun x => .int .u8 (x.toNat : Int))) → q < h4.next → headK I m (.dead :: .dead :: .dead :: .ptr o 0 :: .dead :: .dead :: .dead :: .dead :: .sl q 0 s.length :: .int .i64 (s.length : Nat) :: .int .i64 (i + 1 : Nat) :: .dead :: .dead :: .dead :: .dead :: .dead :: .dead :: .dead :: .dead :: .dead :: .dead :: .dead :: .dead :: .dead :: .dead :: .dead :: .dead :: .dead :: .dead :: []) h4 := fun h4 c1 c2 c3 =>
      .mk (m := m - 1) (by omega) (by rw [hI]; exact ⟨i + 1, by omega, by rw [ht]; exact c1, c2, c3, rfl⟩)
    have d1 : decide ((i : Int) < (s.length : Int)) = true := decide_eq_true (by omega)
    simp -implicitDefEqProofs [hlt, hx, hgq, hn, w1]
    unfold escB at fin
    by_cases c1 : b.toNat = 10
    · have e1 : decide ((b.toNat : Int) = 10) = true := decide_eq_true (by omega)
      rw [if_pos c1] at fin
      simp -implicitDefEqProofs [e1]
      refine writeK_ev (x := [92, 110]) hbl (by simp; omega) (fun h4 bl4 r4 => ?_)
      simp -implicitDefEqProofs [w1]
      exact fin h4 bl4 (r4.2 q _ _ _ hoq hqn hgq) (by have := r4.1; omega)
    · have e1 : decide ((b.toNat : Int) = 10) = false := decide_eq_false (by omega)
      rw [if_neg c1] at fin
      by_cases c2 : b.toNat = 34 ∨ b.toNat = 92
      · rw [if_pos c2] at fin
        have go : ∀ K : AVal → AHeap → Prop, (∀ h4, BL h h4 o (34 :: esc (s.take i) ++ [92]) → h4.get q = some (.row 1 true (s.map fun x => .int .u8 (x.toNat : Int))) → q < h4.next → K .nili h4) → Ev (cfgR ro) 19 [.ptr o 0, .int .u8 92] h' K := fun K hK => by
          refine wbyteK_ev (b := 92) hbl (by simp; omega) (fun h4 bl4 r4 => hK h4 bl4 (r4.2 q _ _ _ hoq hqn hgq) (by have := r4.1; omega))
        by_cases c3 : b.toNat = 34
        · have e2 : decide ((b.toNat : Int) = 34) = true := decide_eq_true (by omega)
          simp -implicitDefEqProofs [e1, e2]
          refine go _ (fun h4 bl4 g4 n4 => ?_)
          simp -implicitDefEqProofs
          refine wbyteK_ev (b := b) bl4 (by simp; omega) (fun h5 bl5 r5 => ?_)
          simp -implicitDefEqProofs [w1]
          exact fin h5 (by simpa using bl5) (r5.2 q _ _ _ hoq n4 g4) (by have := r5.1; omega)
        · have e2 : decide ((b.toNat : Int) = 34) = false := decide_eq_false (by omega)
          have e3 : decide ((b.toNat : Int) = 92) = true := decide_eq_true (by omega)
          simp -implicitDefEqProofs [e1, e2, e3]
          refine go _ (fun h4 bl4 g4 n4 => ?_)
          simp -implicitDefEqProofs
          refine wbyteK_ev (b := b) bl4 (by simp; omega) (fun h5 bl5 r5 => ?_)
          simp -implicitDefEqProofs [w1]
          exact fin h5 (by simpa using bl5) (r5.2 q _ _ _ hoq n4 g4) (by have := r5.1; omega)
      · have e2 : decide ((b.toNat : Int) = 34) = false := decide_eq_false (by omega)
        have e3 : decide ((b.toNat : Int) = 92) = false := decide_eq_false (by omega)
        rw [if_neg c2] at fin
        simp -implicitDefEqProofs [e1, e2, e3]
        refine wbyteK_ev (b := b) hbl (by simp; omega) (fun h5 bl5 r5 => ?_)
        simp -implicitDefEqProofs [w1]
        exact fin h5 bl5 (r5.2 q _ _ _ hoq hqn hgq) (by have := r5.1; omega)
  · have d1 : decide ((i : Int) < (s.length : Int)) = false := decide_eq_false (by omega)
    have : s.take i = s := List.take_of_length_le (by omega)
    rw [this] at hbl
    simp -implicitDefEqProofs [hlt]
    refine wbyteK_ev (b := 34) hbl (by simp; omega) (fun h4 bl4 _ => ?_)
    simp -implicitDefEqProofs
    refine bstr_ev bl4 (by simp; omega) (fun h5 o5 => ?_)
    simp -implicitDefEqProofs
    exact hq h5 o5
theorem rquote_ev {h : AHeap} {s : Str} (hl : s.length < 2 ^ 30) {Q : AVal → AHeap → Prop} (hq : Q (.str (quoteS s)) h) : Ev (cfgR ro) 10 [.str s] h Q := by
  refine Ev.wp rfl rfl Tryz.func10 rfl ?_
  simp -implicitDefEqProofs [Tryz.f10]
  obtain ⟨I, hI⟩ : ∃ I : Nat → List AVal → AHeap → Prop, I = fun m env h' => h' = h ∧ ∃ i : Nat, i + m = s.length ∧
    env = (.str s :: .dead :: .dead :: .str (34 :: esc (s.take i)) :: .int .i64 (i : Nat) :: .dead :: .dead :: .dead :: .dead :: .dead :: .dead :: .dead :: .dead :: .dead :: .dead :: .dead :: .dead :: .dead :: .dead :: .dead :: .dead :: .dead :: .dead :: .dead :: .dead :: .dead :: .dead :: .dead :: .dead :: .dead :: .dead :: .dead :: .dead :: .dead :: .dead :: .dead :: .dead :: .dead :: .dead :: .dead :: .dead :: .dead :: .dead :: .dead :: []) := ⟨_, rfl⟩
  refine loop_of I ?_ s.length (by rw [hI]; exact ⟨rfl, 0, by omega, rfl⟩)
  intro m env h' hi
  rw [hI] at hi
  obtain ⟨rfl, i, him, rfl⟩ := hi
  by_cases hlt : i < s.length
  · obtain ⟨b, hb⟩ : ∃ b, s[i]? = some b := ⟨_, List.getElem?_eq_getElem hlt⟩
    have hgb : s[i]'hlt = b := by obtain ⟨_, e⟩ := List.getElem?_eq_some_iff.1 hb; exact e
    have w1 : IntKind.i64.wrap ((i : Int) + 1) = ((i + 1 : Nat) : Int) := by rw [w64 (by omega) (by omega)]; omega
    have ht := esc_take hb
    have hil : (esc (s.take i)).length ≤ 2 * s.length := by
      have := esc_len (s.take i)
      rw [List.length_take] at this; omega
    have hx : idxNat (.int .i64 (i : Int)) s.length = .ok i := ix_nat hlt
    have hb2 : bounds2 s.length s.length (some (.int .i64 (i : Nat))) (some (.int .i64 ((i : Int) + 1))) = .ok (i, i + 1) := by
      have := bd_both (n := s.length) (top := s.length) (a := i) (b := i + 1) (by omega) (by omega) .i64 .i64
      rw [Int.natCast_add, Int.natCast_one] at this
      exact this
    have hdt : (s.take (i + 1)).drop i = [b] := by
      rw [List.take_succ_eq_append_getElem hlt, hgb, List.drop_append_of_le_length (by rw [List.length_take]; omega), List.drop_of_length_le (by rw [List.length_take]; omega)]
      rfl
    have fin : ∀ x : Str, esc (s.take (i + 1)) = x → headK I m (.str s :: .dead :: .dead :: .str (34 :: x) :: .int .i64 ((i : Int) + 1) :: .dead :: .dead :: .dead :: .dead :: .dead :: .dead :: .dead :: .dead :: .dead :: .dead :: .dead :: .dead :: .dead :: .dead :: .dead :: .dead :: .dead :: .dead :: .dead :: .dead :: .dead :: .dead :: .dead :: .dead :: .dead :: .dead :: .dead :: .dead :: .dead :: .dead :: .dead :: .dead :: .dead :: .dead :: .dead :: .dead :: .dead :: .dead :: .dead :: []) h' := fun x hx =>
      .mk (m := m - 1) (by omega) (by rw [hI]; exact ⟨rfl, i + 1, by omega, by rw [hx]; simp⟩)
    unfold escB at ht
    by_cases c1 : b.toNat = 10
    · have e1 : decide ((b.toNat : Int) = 10) = true := decide_eq_true (by omega)
      rw [if_pos c1] at ht
      simp -implicitDefEqProofs [hlt, w1, hx, hgb, e1]
      exact ⟨by omega, fin _ ht⟩
    · have e1 : decide ((b.toNat : Int) = 10) = false := decide_eq_false (by omega)
      rw [if_neg c1] at ht
      by_cases c2 : b.toNat = 34
      · have e2 : decide ((b.toNat : Int) = 34) = true := decide_eq_true (by omega)
        simp -implicitDefEqProofs [hlt, w1, hx, hgb, e1, e2, hb2, hdt]
        exact ⟨by omega, by omega, fin _ (by rw [ht, if_pos (.inl c2)])⟩
      · have e2 : decide ((b.toNat : Int) = 34) = false := decide_eq_false (by omega)
        by_cases c3 : b.toNat = 92
        · have e3 : decide ((b.toNat : Int) = 92) = true := decide_eq_true (by omega)
          simp -implicitDefEqProofs [hlt, w1, hx, hgb, e1, e2, e3, hb2, hdt]
          exact ⟨by omega, by omega, fin _ (by rw [ht, if_pos (.inr c3)])⟩
        · have e3 : decide ((b.toNat : Int) = 92) = false := decide_eq_false (by omega)
          simp -implicitDefEqProofs [hlt, w1, hx, hgb, e1, e2, e3, hb2, hdt]
          exact ⟨by omega, fin _ (by rw [ht, if_neg (by omega)])⟩
  · have : s.take i = s := List.take_of_length_le (by omega)
    rw [this]
    have hel := esc_len s
    simp -implicitDefEqProofs [hlt]
    exact ⟨by omega, hq⟩
end
end Go.Proofs.YtofnbldbggddmaaGreatDoor
set_option linter.all false
set_option maxRecDepth 100000
set_option maxHeartbeats 4000000
namespace Go.Proofs.YtofnbldbggddmaaGreatDoor
open Go Go.RowKit Go.Proofs
/-! the words of errors -/
def errNs : List Nat := [0, 10, 11, 12, 13, 14, 15, 16, 20, 21, 22, 30, 31, 40, 41, 42, 50]
def errWs : List AVal := [.str [111, 107], .str [114, 97, 110, 103, 101], .str [102, 111, 114, 109], .str [110, 111, 110, 101], .str [109, 97, 110, 121], .str [115, 104, 111, 114, 116], .str [108, 111, 110, 103], .str [116, 119, 105, 99, 101], .str [111, 118, 101, 114, 102, 108, 111, 119], .str [102, 117, 108, 108], .str [110, 111, 116, 104, 105, 110, 103], .str [102, 114, 97, 109, 101], .str [115, 117, 109], .str [114, 101, 102], .str [111, 119, 110], .str [117, 115, 101, 114], .str [119, 111, 114, 100]]
section
variable {ro : Nat → Option (List AVal)}
theorem word_r {h : AHeap} : ∀ (n : Nat) (w : AVal), (n, w) ∈ errNs.zip errWs → Run (cfgR ro) 12 [.int .i64 (n : Nat)] h w h := by
  intro n w hm
  simp only [errNs, errWs, List.zip_cons_cons, List.zip_nil_right, List.mem_cons, List.not_mem_nil, or_false, Prod.mk.injEq] at hm
  rcases hm with ⟨rfl, rfl⟩ | ⟨rfl, rfl⟩ | ⟨rfl, rfl⟩ | ⟨rfl, rfl⟩ | ⟨rfl, rfl⟩ | ⟨rfl, rfl⟩ | ⟨rfl, rfl⟩ | ⟨rfl, rfl⟩ | ⟨rfl, rfl⟩ | ⟨rfl, rfl⟩ | ⟨rfl, rfl⟩ | ⟨rfl, rfl⟩ | ⟨rfl, rfl⟩ | ⟨rfl, rfl⟩ | ⟨rfl, rfl⟩ | ⟨rfl, rfl⟩ | ⟨rfl, rfl⟩
  all_goals exact ⟨200, by kernel_rfl⟩
theorem rword_r {h : AHeap} : ∀ (n : Nat) (w : AVal), (n, w) ∈ errNs.zip errWs → Run (cfgR ro) 13 [.int .i64 (n : Nat)] h w h := by
  intro n w hm
  simp only [errNs, errWs, List.zip_cons_cons, List.zip_nil_right, List.mem_cons, List.not_mem_nil, or_false, Prod.mk.injEq] at hm
  rcases hm with ⟨rfl, rfl⟩ | ⟨rfl, rfl⟩ | ⟨rfl, rfl⟩ | ⟨rfl, rfl⟩ | ⟨rfl, rfl⟩ | ⟨rfl, rfl⟩ | ⟨rfl, rfl⟩ | ⟨rfl, rfl⟩ | ⟨rfl, rfl⟩ | ⟨rfl, rfl⟩ | ⟨rfl, rfl⟩ | ⟨rfl, rfl⟩ | ⟨rfl, rfl⟩ | ⟨rfl, rfl⟩ | ⟨rfl, rfl⟩ | ⟨rfl, rfl⟩ | ⟨rfl, rfl⟩
  all_goals exact ⟨200, by kernel_rfl⟩
def noErr (e : Int) : Prop := ∀ n ∈ errNs, e ≠ (n : Nat)
theorem word_none {h : AHeap} {e : Int} (he : noErr e) {Q : AVal → AHeap → Prop} (hq : Q (.str [101, 114, 114, 111, 114]) h) : Ev (cfgR ro) 12 [.int .i64 e] h Q := by
  refine Ev.wp rfl rfl Tryz.func12 rfl ?_
  have g : ∀ n, n ∈ errNs → ¬ e = ((n : Nat) : Int) := he
  have g0 : ¬ e = 0 := g 0 (by decide)
  have g1 : ¬ e = 10 := g 10 (by decide)
  have g2 : ¬ e = 11 := g 11 (by decide)
  have g3 : ¬ e = 12 := g 12 (by decide)
  have g4 : ¬ e = 13 := g 13 (by decide)
  have g5 : ¬ e = 14 := g 14 (by decide)
  have g6 : ¬ e = 15 := g 15 (by decide)
  have g7 : ¬ e = 16 := g 16 (by decide)
  have g8 : ¬ e = 20 := g 20 (by decide)
  have g9 : ¬ e = 21 := g 21 (by decide)
  have g10 : ¬ e = 22 := g 22 (by decide)
  have g11 : ¬ e = 30 := g 30 (by decide)
  have g12 : ¬ e = 31 := g 31 (by decide)
  have g13 : ¬ e = 40 := g 40 (by decide)
  have g14 : ¬ e = 41 := g 41 (by decide)
  have g15 : ¬ e = 42 := g 42 (by decide)
  have g16 : ¬ e = 50 := g 50 (by decide)
  simp -implicitDefEqProofs [Tryz.f12, g0, g1, g2, g3, g4, g5, g6, g7, g8, g9, g10, g11, g12, g13, g14, g15, g16]
  exact hq
theorem rword_none {h : AHeap} {e : Int} (he : noErr e) {Q : AVal → AHeap → Prop} (hq : Q (.str [101, 114, 114, 111, 114]) h) : Ev (cfgR ro) 13 [.int .i64 e] h Q := by
  refine Ev.wp rfl rfl Tryz.func13 rfl ?_
  simp -implicitDefEqProofs [Tryz.f13]
  obtain ⟨I, hI⟩ : ∃ I : Nat → List AVal → AHeap → Prop, I = fun m env h' => h' = h ∧ ∃ i : Nat, i + m = 17 ∧
    env = (.int .i64 e :: .dead :: .dead :: .cell (errNs.map fun n => .int .i64 ((n : Nat) : Int)) :: .cell errWs :: .int .i64 (i : Nat) :: .dead :: .dead :: .dead :: .dead :: .dead :: .dead :: .dead :: .dead :: .dead :: .dead :: .dead :: .dead :: .dead :: .dead :: []) := ⟨_, rfl⟩
  refine loop_of I ?_ 17 (by rw [hI]; exact ⟨rfl, 0, by omega, rfl⟩)
  intro m env h' hi
  rw [hI] at hi
  obtain ⟨rfl, i, him, rfl⟩ := hi
  by_cases hlt : i < 17
  · obtain ⟨n, hn⟩ : ∃ n, errNs[i]? = some n := ⟨_, List.getElem?_eq_getElem (by simpa [errNs] using hlt)⟩
    have hne : ¬ ((n : Nat) : Int) = e := fun h => he n (List.mem_of_getElem? hn) h.symm
    have w1 : IntKind.i64.wrap ((i : Int) + 1) = ((i + 1 : Nat) : Int) := by rw [w64 (by omega) (by omega)]; omega
    have hget : (errNs.map fun n => AVal.int .i64 ((n : Nat) : Int))[i]? = some (.int .i64 ((n : Nat) : Int)) := by rw [List.getElem?_map, hn]; rfl
    obtain ⟨cs, hcs⟩ : ∃ cs, cs = (errNs.map fun n => AVal.int .i64 ((n : Nat) : Int)) := ⟨_, rfl⟩
    rw [← hcs] at hget ⊢
    have d1 : decide ((i : Int) < 17) = true := decide_eq_true (by omega)
    have x1 : idxNat (.int .i64 (i : Nat)) 17 = .ok i := ix_nat hlt
    have x2 : nthR cs i = .ok (.int .i64 ((n : Nat) : Int)) := nthR_get hget
    simp -implicitDefEqProofs [d1, w1, hne, x1, x2]
    exact .mk (m := m - 1) (by omega) (by rw [hI]; exact ⟨rfl, i + 1, by omega, by rw [hcs]; rfl⟩)
  · have d1 : decide ((i : Int) < 17) = false := decide_eq_false (by omega)
    simp -implicitDefEqProofs [d1]
    exact hq
theorem ConsoleWords_ev (ha : ∃ h', Run (cfgR ro) 6 [] heap0 (.bool true) h') (e : Int) : Ev (cfgR ro) 4 [.int .i64 e] heap0 (fun x _ => x = .bool true) := by
  refine Ev.wp rfl rfl Tryz.func4 rfl ?_
  obtain ⟨h1, ha⟩ := ha
  simp -implicitDefEqProofs [Tryz.f4, Ev.run ha]
  by_cases he : noErr e
  · refine word_none he ?_
    simp -implicitDefEqProofs
    refine rword_none he ?_
    simp -implicitDefEqProofs [same_self]
  · have : ∃ n ∈ errNs, e = ((n : Nat) : Int) := by
      apply Classical.byContradiction
      intro hc
      exact he (fun n hn h => hc ⟨n, hn, h⟩)
    obtain ⟨n, hn, rfl⟩ := this
    obtain ⟨i, hi⟩ := List.mem_iff_getElem?.1 hn
    have hil := (List.getElem?_eq_some_iff.1 hi).1
    have hl : errNs.length = 17 := rfl
    have hl2 : errWs.length = 17 := rfl
    have hz : (n, errWs[i]'(by omega)) ∈ errNs.zip errWs := List.mem_of_getElem? (i := i) (by rw [List.getElem?_zip_eq_some]; exact ⟨hi, List.getElem?_eq_getElem (by omega)⟩)
    obtain ⟨w, hw⟩ : ∃ w, w = errWs[i]'(by omega) := ⟨_, rfl⟩
    rw [← hw] at hz
    have hws : ∃ s, w = .str s := by
      have : ∀ x ∈ errWs, ∃ s, x = .str s := by
        intro x hx
        simp only [errWs, List.mem_cons, List.not_mem_nil, or_false] at hx
        rcases hx with rfl | rfl | rfl | rfl | rfl | rfl | rfl | rfl | rfl | rfl | rfl | rfl | rfl | rfl | rfl | rfl | rfl <;> exact ⟨_, rfl⟩
      exact this w (by rw [hw]; exact List.getElem_mem _)
    obtain ⟨s, rfl⟩ := hws
    simp -implicitDefEqProofs [Ev.run (word_r (ro := ro) (h := h1) n _ hz), Ev.run (rword_r (ro := ro) (h := h1) n _ hz), same_self]
end
end Go.Proofs.YtofnbldbggddmaaGreatDoor
set_option linter.all false
set_option maxRecDepth 100000
set_option maxHeartbeats 4000000
namespace Go.Proofs.YtofnbldbggddmaaGreatDoor
open Go Go.RowKit Go.Proofs
section
variable {ro : Nat → Option (List AVal)}
theorem unqR_nil (out : Str) : unqR [] out = none := rfl
theorem unqR_one (b : UInt8) (out : Str) : unqR [b] out = if b.toNat = 34 then (if plain out then some out else none) else none := rfl
theorem unqR_two (b c : UInt8) (r out : Str) : unqR (b :: c :: r) out = if b.toNat = 34 ∨ b.toNat = 10 then none else if b.toNat ≠ 92 then unqR (c :: r) (out ++ [b]) else if c.toNat = 110 then unqR r (out ++ [10]) else if c.toNat = 34 ∨ c.toNat = 92 then unqR r (out ++ [c]) else none := by
  conv => lhs; unfold unqR
theorem unqS_cons (b : UInt8) (r : Str) : unqS (b :: r) = if b.toNat = 34 then unqR r [] else none := rfl
theorem unqR_push {b : UInt8} {r out : Str} (h1 : b.toNat ≠ 34) (h2 : b.toNat ≠ 10) (h3 : b.toNat ≠ 92) : unqR (b :: r) out = unqR r (out ++ [b]) := by
  cases r with
  | nil => rw [unqR_one, if_neg h1]; rfl
  | cons c r => rw [unqR_two, if_neg (by omega), if_pos h3]
theorem bds_one {s : Str} {i : Nat} (hlt : i < s.length) : bounds2 s.length s.length (some (.int .i64 (i : Nat))) (some (.int .i64 ((i : Int) + 1))) = .ok (i, i + 1) := by
  have := bd_both (n := s.length) (top := s.length) (a := i) (b := i + 1) (by omega) (by omega) .i64 .i64
  rw [Int.natCast_add, Int.natCast_one] at this
  exact this
theorem part_one {s : Str} {i : Nat} {b : UInt8} (h : s[i]? = some b) : (s.take (i + 1)).drop i = [b] := by
  obtain ⟨hlt, e⟩ := List.getElem?_eq_some_iff.1 h
  rw [List.take_succ_eq_append_getElem hlt, e, List.drop_append_of_le_length (by rw [List.length_take]; omega), List.drop_of_length_le (by rw [List.length_take]; omega)]
  rfl
theorem runq_ev {h : AHeap} {q : Str} (hl : q.length < 2 ^ 30) {Q : AVal → AHeap → Prop} (hq1 : ∀ x, unqS q = some x → Q (.tuple [.str x, .bool true]) h) (hq2 : ∀ y, unqS q = none → Q (.tuple [.str y, .bool false]) h) : Ev (cfgR ro) 11 [.str q] h Q := by
  refine Ev.wp rfl rfl Tryz.func11 rfl ?_
  by_cases h2 : q.length < 2
  · have hn : unqS q = none := by
      match q, h2 with
      | [], _ => rfl
      | [b], _ => rw [unqS_cons]; split <;> rfl
    have d1 : decide ((q.length : Int) < 2) = true := decide_eq_true (by omega)
    simp -implicitDefEqProofs [Tryz.f11, h2, d1]
    exact hq2 _ hn
  have d1 : decide ((q.length : Int) < 2) = false := decide_eq_false (by omega)
  obtain ⟨b0, r0, hq0⟩ : ∃ b r, q = b :: r := by
    cases q with
    | nil => simp at h2
    | cons b r => exact ⟨b, r, rfl⟩
  have hg0 : q[0]? = some b0 := by rw [hq0]; rfl
  have hx0 : idxNat (.int .i64 0) q.length = .ok 0 := ix_nat (i := 0) (by omega)
  by_cases c0 : b0.toNat = 34
  · have e0 : decide ((b0.toNat : Int) = 34) = true := decide_eq_true (by omega)
    have hS : unqS q = unqR (q.drop 1) [] := by rw [hq0, unqS_cons, if_pos c0]; rfl
    simp -implicitDefEqProofs [Tryz.f11, h2, d1, hx0, hg0, e0]
    obtain ⟨I, hI⟩ : ∃ I : Nat → List AVal → AHeap → Prop, I = fun m env h' => h' = h ∧ ∃ (i : Nat) (out : Str), i + m = q.length ∧ out.length ≤ i ∧ unqS q = unqR (q.drop i) out ∧
      env = (.str q :: .dead :: .dead :: .dead :: .str out :: .int .i64 (i : Nat) :: .dead :: .dead :: .dead :: .dead :: .dead :: .dead :: .dead :: .dead :: .dead :: .dead :: .dead :: .dead :: .dead :: .dead :: .dead :: .dead :: .dead :: .dead :: .dead :: .dead :: .dead :: .dead :: .dead :: .dead :: .dead :: .dead :: .dead :: .dead :: .dead :: .dead :: .dead :: .dead :: .dead :: .dead :: .dead :: .dead :: .dead :: .dead :: .dead :: .dead :: .dead :: .dead :: .dead :: .dead :: .dead :: .dead :: .dead :: .dead :: .dead :: .dead :: .dead :: .dead :: .dead :: .dead :: .dead :: .dead :: .dead :: .dead :: .dead :: .dead :: .dead :: .dead :: .dead :: .dead :: .dead :: .dead :: .dead :: .dead :: .dead :: .dead :: .dead :: .dead :: []) := ⟨_, rfl⟩
    refine loop_of I ?_ (q.length - 1) (by rw [hI]; exact ⟨rfl, 1, [], by omega, by simp, hS, rfl⟩)
    intro m env h' hi
    rw [hI] at hi
    obtain ⟨rfl, i, out, him, hol, hu, rfl⟩ := hi
    by_cases hlt : i < q.length
    · obtain ⟨b, hb⟩ : ∃ b, q[i]? = some b := ⟨_, List.getElem?_eq_getElem hlt⟩
      have hgb : q[i]'hlt = b := by obtain ⟨_, e⟩ := List.getElem?_eq_some_iff.1 hb; exact e
      have hdr : q.drop i = b :: q.drop (i + 1) := by rw [List.drop_eq_getElem_cons hlt, hgb]
      rw [hdr] at hu
      have hx : idxNat (.int .i64 (i : Int)) q.length = .ok i := ix_nat hlt
      have w1 : IntKind.i64.wrap ((i : Int) + 1) = (i : Int) + 1 := w64 (by omega) (by omega)
      have wl : IntKind.i64.wrap ((q.length : Int) - 1) = (q.length : Int) - 1 := w64 (by omega) (by omega)
      have hb2 := bds_one hlt
      have hdt := part_one hb
      by_cases c1 : b.toNat = 34
      · have e1 : decide ((b.toNat : Int) = 34) = true := decide_eq_true (by omega)
        by_cases c2 : i + 1 = q.length
        · have e2 : decide ((i : Int) = (q.length : Int) - 1) = true := decide_eq_true (by omega)
          rw [List.drop_of_length_le (by omega), unqR_one, if_pos c1] at hu
          simp -implicitDefEqProofs [hlt, hx, hgb, e1, e2, w1, wl]
          refine plain8_ev (by omega) ?_
          cases hp : plain out with
          | true =>
            rw [hp] at hu
            simp -implicitDefEqProofs
            exact hq1 _ hu
          | false =>
            rw [hp] at hu
            simp -implicitDefEqProofs
            exact hq2 _ hu
        · have e2 : decide ((i : Int) = (q.length : Int) - 1) = false := decide_eq_false (by omega)
          have : unqS q = none := by
            rw [hu]
            cases hd : q.drop (i + 1) with
            | nil => have := congrArg List.length hd; rw [List.length_drop, List.length_nil] at this; omega
            | cons c r => rw [unqR_two, if_pos (.inl c1)]
          simp -implicitDefEqProofs [hlt, hx, hgb, e1, e2, w1, wl]
          exact hq2 _ this
      have e1 : decide ((b.toNat : Int) = 34) = false := decide_eq_false (by omega)
      by_cases c2 : b.toNat = 10
      · have e2 : decide ((b.toNat : Int) = 10) = true := decide_eq_true (by omega)
        have : unqS q = none := by
          rw [hu]
          cases hd : q.drop (i + 1) with
          | nil => rw [unqR_one, if_neg c1]
          | cons c r => rw [unqR_two, if_pos (.inr c2)]
        simp -implicitDefEqProofs [hlt, hx, hgb, e1, e2]
        exact hq2 _ this
      have e2 : decide ((b.toNat : Int) = 10) = false := decide_eq_false (by omega)
      by_cases c3 : b.toNat = 92
      · have e3 : decide ((b.toNat : Int) = 92) = true := decide_eq_true (by omega)
        by_cases c4 : i + 1 = q.length
        · have e4 : decide ((i : Int) + 1 = (q.length : Int)) = true := decide_eq_true (by omega)
          rw [List.drop_of_length_le (by omega), unqR_one, if_neg c1] at hu
          simp -implicitDefEqProofs [hlt, hx, hgb, e1, e2, e3, w1, e4]
          exact hq2 _ hu
        · have e4 : decide ((i : Int) + 1 = (q.length : Int)) = false := decide_eq_false (by omega)
          have hlt2 : i + 1 < q.length := by omega
          obtain ⟨c, hc⟩ : ∃ c, q[i + 1]? = some c := ⟨_, List.getElem?_eq_getElem hlt2⟩
          have hgc : q[i + 1]'hlt2 = c := by obtain ⟨_, e⟩ := List.getElem?_eq_some_iff.1 hc; exact e
          have hdr2 : q.drop (i + 1) = c :: q.drop (i + 2) := by rw [List.drop_eq_getElem_cons hlt2, hgc]
          rw [hdr2, unqR_two, if_neg (by omega), if_neg (by omega)] at hu
          have hx2 : idxNat (.int .i64 ((i : Int) + 1)) q.length = .ok (i + 1) := ix_nat (i := i + 1) hlt2
          have w2 : IntKind.i64.wrap ((i : Int) + 1 + 1) = (i : Int) + 1 + 1 := w64 (by omega) (by omega)
          have hb3 : bounds2 q.length q.length (some (.int .i64 ((i : Int) + 1))) (some (.int .i64 ((i : Int) + 1 + 1))) = .ok (i + 1, i + 2) := bds_one (i := i + 1) hlt2
          have hdt2 : (q.take (i + 2)).drop (i + 1) = [c] := part_one hc
          have fin : ∀ x : Str, x.length ≤ i + 2 → unqS q = unqR (q.drop (i + 2)) x → headK I m (.str q :: .dead :: .dead :: .dead :: .str x :: .int .i64 ((i : Int) + 1 + 1) :: .dead :: .dead :: .dead :: .dead :: .dead :: .dead :: .dead :: .dead :: .dead :: .dead :: .dead :: .dead :: .dead :: .dead :: .dead :: .dead :: .dead :: .dead :: .dead :: .dead :: .dead :: .dead :: .dead :: .dead :: .dead :: .dead :: .dead :: .dead :: .dead :: .dead :: .dead :: .dead :: .dead :: .dead :: .dead :: .dead :: .dead :: .dead :: .dead :: .dead :: .dead :: .dead :: .dead :: .dead :: .dead :: .dead :: .dead :: .dead :: .dead :: .dead :: .dead :: .dead :: .dead :: .dead :: .dead :: .dead :: .dead :: .dead :: .dead :: .dead :: .dead :: .dead :: .dead :: .dead :: .dead :: .dead :: .dead :: .dead :: .dead :: .dead :: .dead :: .dead :: []) h' := fun x h1 h2 =>
            .mk (m := m - 2) (by omega) (by rw [hI]; exact ⟨rfl, i + 2, x, by omega, h1, h2, by simp; omega⟩)
          by_cases c5 : c.toNat = 110
          · have e5 : decide ((c.toNat : Int) = 110) = true := decide_eq_true (by omega)
            rw [if_pos c5] at hu
            simp -implicitDefEqProofs [hlt, hx, hgb, e1, e2, e3, w1, e4, hlt2, hx2, hgc, hc, e5, w2]
            exact ⟨by omega, fin _ (by simp; omega) hu⟩
          · have e5 : decide ((c.toNat : Int) = 110) = false := decide_eq_false (by omega)
            rw [if_neg c5] at hu
            by_cases c6 : c.toNat = 34
            · have e6 : decide ((c.toNat : Int) = 34) = true := decide_eq_true (by omega)
              rw [if_pos (.inl c6)] at hu
              simp -implicitDefEqProofs [hlt, hx, hgb, e1, e2, e3, w1, e4, hlt2, hx2, hgc, hc, e5, e6, w2, hb3, hdt2]
              exact ⟨by omega, fin _ (by simp; omega) hu⟩
            · have e6 : decide ((c.toNat : Int) = 34) = false := decide_eq_false (by omega)
              by_cases c7 : c.toNat = 92
              · have e7 : decide ((c.toNat : Int) = 92) = true := decide_eq_true (by omega)
                rw [if_pos (.inr c7)] at hu
                simp -implicitDefEqProofs [hlt, hx, hgb, e1, e2, e3, w1, e4, hlt2, hx2, hgc, hc, e5, e6, e7, w2, hb3, hdt2]
                exact ⟨by omega, fin _ (by simp; omega) hu⟩
              · have e7 : decide ((c.toNat : Int) = 92) = false := decide_eq_false (by omega)
                rw [if_neg (by omega)] at hu
                simp -implicitDefEqProofs [hlt, hx, hgb, e1, e2, e3, w1, e4, hlt2, hx2, hgc, hc, e5, e6, e7, w2]
                exact hq2 _ hu
      · have e3 : decide ((b.toNat : Int) = 92) = false := decide_eq_false (by omega)
        rw [unqR_push c1 c2 c3] at hu
        simp -implicitDefEqProofs [hlt, hx, hgb, e1, e2, e3, hb2, hdt, w1]
        exact ⟨by omega, .mk (m := m - 1) (by omega) (by rw [hI]; exact ⟨rfl, i + 1, out ++ [b], by omega, by simp; omega, hu, by simp⟩)⟩
    · rw [List.drop_of_length_le (by omega)] at hu
      simp -implicitDefEqProofs [hlt]
      exact hq2 _ hu
  · have e0 : decide ((b0.toNat : Int) = 34) = false := decide_eq_false (by omega)
    have hS : unqS q = none := by rw [hq0, unqS_cons, if_neg c0]
    simp -implicitDefEqProofs [Tryz.f11, h2, d1, hx0, hg0, e0]
    exact hq2 _ hS
end
end Go.Proofs.YtofnbldbggddmaaGreatDoor
set_option linter.all false
set_option maxRecDepth 100000
set_option maxHeartbeats 4000000
namespace Go.Proofs.YtofnbldbggddmaaGreatDoor
open Go Go.RowKit Go.Proofs
section
variable {c : Cfg} {f : Nat} {K : List AVal → AHeap → Prop} {E : Nat → List AVal → AHeap → Prop} {R : List AVal → AHeap → Prop} {G : Nat → List AVal → AHeap → Prop}
theorem scope_loop2 {l : Nat} {body rest : Code} (hl : findLabel body l = some (Code.skip.seq rest)) (I : Nat → List AVal → AHeap → Prop)
    (hI : ∀ n env h, (∀ m, m < n → ∀ env h, I m env h → scpG c f K E R G body l env h) → I n env h → wp c f rest K E R (scpG c f K E R G body) env h) (n : Nat) {env : List AVal} {h : AHeap} (h0 : I n env h) :
    wp c f (.label l) (seqK c f K E R (scpG c f K E R G body) rest) E R (scpG c f K E R G body) env h := by
  have key : ∀ n {env : List AVal} {h : AHeap}, I n env h → scpG c f K E R G body l env h := by
    intro n
    induction n using Nat.strongRecOn with
    | _ n ih =>
      intro env h h0
      unfold scpG
      rw [hl]
      exact label_of (rest := Code.skip.seq rest) (hI n env h (fun m hm env h q => ih m hm q) h0)
  exact hI n env h (fun m _ env h q => key m q) h0
end
section
variable {ro : Nat → Option (List AVal)}
theorem unq_ev {h : AHeap} {q : Str} (hl : q.length < 2 ^ 30) {Q : AVal → AHeap → Prop} (hq1 : ∀ x h', unqS q = some x → Old h h' → Q (.tuple [.str x, .int .i64 0]) h') (hq2 : ∀ h', unqS q = none → Old h h' → Q (.tuple [.str [], .int .i64 11]) h') : Ev (cfgR ro) 8 [.str q] h Q := by
  refine Ev.wp rfl rfl Tryz.func8 rfl ?_
  by_cases h2 : q.length < 2
  · have hn : unqS q = none := by
      match q, h2 with
      | [], _ => rfl
      | [b], _ => rw [unqS_cons]; split <;> rfl
    have d1 : decide ((q.length : Int) < 2) = true := decide_eq_true (by omega)
    simp -implicitDefEqProofs [Tryz.f8, h2, d1]
    exact hq2 _ hn (Old.refl h)
  have d1 : decide ((q.length : Int) < 2) = false := decide_eq_false (by omega)
  obtain ⟨b0, r0, hq0⟩ : ∃ b r, q = b :: r := by
    cases q with
    | nil => simp at h2
    | cons b r => exact ⟨b, r, rfl⟩
  have hg0 : q[0]? = some b0 := by rw [hq0]; rfl
  have hx0 : idxNat (.int .i64 0) q.length = .ok 0 := ix_nat (i := 0) (by omega)
  have wl : IntKind.i64.wrap ((q.length : Int) - 1) = (q.length : Int) - 1 := w64 (by omega) (by omega)
  obtain ⟨n, hn⟩ : ∃ n, q.length = n + 1 := ⟨q.length - 1, by omega⟩
  have hcn : (q.length : Int) - 1 = (n : Int) := by omega
  rw [hcn] at wl
  have hxl : idxNat (.int .i64 (n : Nat)) q.length = .ok n := ix_nat (by omega)
  have hln : n < q.length := by omega
  obtain ⟨bl, hbl⟩ : ∃ b, q[n]? = some b := ⟨_, List.getElem?_eq_getElem (by omega)⟩
  have hgl : q[n]'hln = bl := by obtain ⟨_, e⟩ := List.getElem?_eq_some_iff.1 hbl; exact e
  by_cases c0 : b0.toNat = 34
  · have e0 : decide ((b0.toNat : Int) = 34) = true := decide_eq_true (by omega)
    have hS : unqS q = unqR (q.drop 1) [] := by rw [hq0, unqS_cons, if_pos c0]; rfl
    by_cases cl : bl.toNat = 34
    · have el : decide ((bl.toNat : Int) = 34) = true := decide_eq_true (by omega)
      simp -implicitDefEqProofs [Tryz.f8, h2, d1, hx0, hg0, e0, wl, hcn, hxl, hbl, hgl, hln, el]
      refine scope_loop2 (by simp [findLabel]) (fun m env h' => Old h h' ∧ ∃ (i : Nat) (out : Str) (v y : AVal), i + m = q.length ∧ i ≤ n ∧ out.length ≤ i ∧ unqS q = unqR (q.drop i) out ∧ BM h h' v out ∧
        env = (.str q :: .dead :: .dead :: .dead :: v :: .int .i64 (i : Nat) :: .dead :: .dead :: .dead :: .dead :: .dead :: .dead :: .dead :: .dead :: .dead :: .dead :: .dead :: .dead :: .dead :: .dead :: .dead :: .dead :: y :: .dead :: .dead :: .dead :: .dead :: .dead :: .dead :: .dead :: .dead :: .dead :: .dead :: .dead :: .dead :: .dead :: .dead :: .dead :: .dead :: .dead :: .dead :: .dead :: .dead :: .dead :: .dead :: .dead :: .dead :: .dead :: .dead :: .dead :: .dead :: .dead :: .dead :: .dead :: .dead :: .dead :: .dead :: .dead :: .dead :: .dead :: .dead :: .dead :: .dead :: .dead :: .dead :: .dead :: .dead :: .dead :: .dead :: .dead :: .dead :: .dead :: .dead :: .dead :: .dead :: .dead :: .dead :: .dead :: .dead :: .dead :: .dead :: .dead :: .dead :: .dead :: [])) ?_ n ⟨Old.refl h, 1, [], .nils, .bool false, by omega, by omega, by simp, hS, BM.nil, rfl⟩
      rintro m env h' ih ⟨oo, i, out, v, y, him, hin, hol, hu, mv, rfl⟩
      have hlt : i < q.length := by omega
      obtain ⟨b, hb⟩ : ∃ b, q[i]? = some b := ⟨_, List.getElem?_eq_getElem hlt⟩
      have hgb : q[i]'hlt = b := by obtain ⟨_, e⟩ := List.getElem?_eq_some_iff.1 hb; exact e
      have hdr : q.drop i = b :: q.drop (i + 1) := by rw [List.drop_eq_getElem_cons hlt, hgb]
      rw [hdr] at hu
      have hx : idxNat (.int .i64 (i : Int)) q.length = .ok i := ix_nat hlt
      have w1 : IntKind.i64.wrap ((i : Int) + 1) = (i : Int) + 1 := w64 (by omega) (by omega)
      have hconv : convR (cfgR ro) h' 36 9 v = .ok (.str out) := mv.toBS.conv un36 un9 un5
      by_cases cE : i = n
      · have hbb : b = bl := by rw [cE, hbl] at hb; exact (Option.some.inj hb).symm
        rw [List.drop_of_length_le (by omega), unqR_one, if_pos (by rw [hbb]; exact cl)] at hu
        have eE : decide (i = n) = true := decide_eq_true cE
        simp -implicitDefEqProofs [-convR, wl, hcn, eE, cE, hconv]
        refine plain_ev (by omega) (fun h2 o2 => ?_)
        have hconv2 : convR (cfgR ro) h2 36 9 v = .ok (.str out) := (mv.toBS.old o2).conv un36 un9 un5
        cases hp : plain out with
        | true =>
          rw [hp] at hu
          simp -implicitDefEqProofs [-convR, hconv2]
          exact hq1 _ h2 hu (oo.trans o2)
        | false =>
          rw [hp] at hu
          simp -implicitDefEqProofs [-convR]
          exact hq2 h2 hu (oo.trans o2)
      · have eE : decide ((i : Int) = (n : Int)) = false := decide_eq_false (by omega)
        have hlt2 : i + 1 < q.length := by omega
        obtain ⟨c, hc⟩ : ∃ c, q[i + 1]? = some c := ⟨_, List.getElem?_eq_getElem hlt2⟩
        have hgc : q[i + 1]'hlt2 = c := by obtain ⟨_, e⟩ := List.getElem?_eq_some_iff.1 hc; exact e
        have hdr2 : q.drop (i + 1) = c :: q.drop (i + 2) := by rw [List.drop_eq_getElem_cons hlt2, hgc]
        have hx2 : idxNat (.int .i64 ((i : Int) + 1)) q.length = .ok (i + 1) := ix_nat (i := i + 1) hlt2
        have w2 : IntKind.i64.wrap ((i : Int) + 1 + 1) = (i : Int) + 1 + 1 := w64 (by omega) (by omega)
        have none_of : (b.toNat = 34 ∨ b.toNat = 10) → unqS q = none := fun hh => by rw [hu, hdr2, unqR_two, if_pos hh]
        -- one more byte
        have put : ∀ x : UInt8, ∃ v2 h2, appCore 1 1 (h'.push (.row 1 false [.int .u8 (x.toNat : Nat)])) v 1 [.int .u8 (x.toNat : Nat)] = .ok (v2, h2) ∧ BM h h2 v2 (out ++ [x]) ∧ Old h h2 := fun x => by
          have op : Old h' (h'.push (.row 1 false [.int .u8 (x.toNat : Nat)])) := (Old.refl h').push _
          obtain ⟨v2, h2, k1, k2, k3⟩ := Mine.append1 (bytes := 1) (e := [bcell x]) (Mine.keep mv op) (by decide) rfl (by rw [bes_len]; omega) (oo.trans op)
          exact ⟨v2, h2, k1, by unfold BM; rw [bes_append]; exact k2, k3⟩
        by_cases c1 : b.toNat = 34
        · have e1 : decide ((b.toNat : Int) = 34) = true := decide_eq_true (by omega)
          simp -implicitDefEqProofs [-convR, wl, hcn, eE, cE, hlt, hx, hgb, e1]
          exact hq2 h' (none_of (.inl c1)) oo
        have e1 : decide ((b.toNat : Int) = 34) = false := decide_eq_false (by omega)
        by_cases c2 : b.toNat = 10
        · have e2 : decide ((b.toNat : Int) = 10) = true := decide_eq_true (by omega)
          simp -implicitDefEqProofs [-convR, wl, hcn, eE, cE, hlt, hx, hgb, e1, e2]
          exact hq2 h' (none_of (.inr c2)) oo
        have e2 : decide ((b.toNat : Int) = 10) = false := decide_eq_false (by omega)
        by_cases c3 : b.toNat = 92
        · have e3 : decide ((b.toNat : Int) = 92) = true := decide_eq_true (by omega)
          rw [hdr2, unqR_two, if_neg (by omega), if_neg (by omega)] at hu
          by_cases cF : i + 1 = n
          · have eF : decide ((i : Int) + 1 = (n : Int)) = true := decide_eq_true (by omega)
            have hcb : c = bl := by rw [cF, hbl] at hc; exact (Option.some.inj hc).symm
            rw [List.drop_of_length_le (by omega), if_neg (by rw [hcb]; omega), if_pos (.inl (by rw [hcb]; exact cl)), unqR_nil] at hu
            simp -implicitDefEqProofs [-convR, wl, hcn, eE, cE, hlt, hx, hgb, e1, e2, e3, w1, eF]
            exact hq2 h' hu oo
          · have eF : decide ((i : Int) + 1 = (n : Int)) = false := decide_eq_false (by omega)
            have fin : ∀ (x : Str) (v2 : AVal) (h2 : AHeap) (y : AVal), x.length ≤ i + 2 → unqS q = unqR (q.drop (i + 2)) x → BM h h2 v2 x → Old h h2 → _ := fun x v2 h2 y g1 g2 g3 g4 =>
              ih (m - 2) (by omega) (.str q :: .dead :: .dead :: .dead :: v2 :: .int .i64 ((i : Int) + 1 + 1) :: .dead :: .dead :: .dead :: .dead :: .dead :: .dead :: .dead :: .dead :: .dead :: .dead :: .dead :: .dead :: .dead :: .dead :: .dead :: .dead :: y :: .dead :: .dead :: .dead :: .dead :: .dead :: .dead :: .dead :: .dead :: .dead :: .dead :: .dead :: .dead :: .dead :: .dead :: .dead :: .dead :: .dead :: .dead :: .dead :: .dead :: .dead :: .dead :: .dead :: .dead :: .dead :: .dead :: .dead :: .dead :: .dead :: .dead :: .dead :: .dead :: .dead :: .dead :: .dead :: .dead :: .dead :: .dead :: .dead :: .dead :: .dead :: .dead :: .dead :: .dead :: .dead :: .dead :: .dead :: .dead :: .dead :: .dead :: .dead :: .dead :: .dead :: .dead :: .dead :: .dead :: .dead :: .dead :: .dead :: .dead :: .dead :: []) h2 ⟨g4, i + 2, x, v2, y, by omega, by omega, g1, g2, g3, by simp; omega⟩
            by_cases c5 : c.toNat = 110
            · have e5 : decide ((c.toNat : Int) = 110) = true := decide_eq_true (by omega)
              rw [if_pos c5] at hu
              obtain ⟨v2, h2, k1, k2, k3⟩ := put 10
              have k1' : appCore 1 1 (h'.push (.row 1 false [.int .u8 10])) v 1 [.int .u8 10] = .ok (v2, h2) := k1
              simp -implicitDefEqProofs [-convR, wl, hcn, eE, cE, hlt, hx, hgb, e1, e2, e3, w1, eF, hlt2, hx2, hgc, hc, e5, buildSliceR, reps, k1', w2]
              exact fin _ v2 h2 _ (by simp; omega) hu k2 k3
            · have e5 : decide ((c.toNat : Int) = 110) = false := decide_eq_false (by omega)
              rw [if_neg c5] at hu
              obtain ⟨v2, h2, k1, k2, k3⟩ := put c
              by_cases c6 : c.toNat = 34
              · have e6 : decide ((c.toNat : Int) = 34) = true := decide_eq_true (by omega)
                rw [if_pos (.inl c6)] at hu
                simp -implicitDefEqProofs [-convR, wl, hcn, eE, cE, hlt, hx, hgb, e1, e2, e3, w1, eF, hlt2, hx2, hgc, hc, e5, e6, buildSliceR, reps, k1, w2]
                exact fin _ v2 h2 _ (by simp; omega) hu k2 k3
              · have e6 : decide ((c.toNat : Int) = 34) = false := decide_eq_false (by omega)
                by_cases c7 : c.toNat = 92
                · have e7 : decide ((c.toNat : Int) = 92) = true := decide_eq_true (by omega)
                  rw [if_pos (.inr c7)] at hu
                  simp -implicitDefEqProofs [-convR, wl, hcn, eE, cE, hlt, hx, hgb, e1, e2, e3, w1, eF, hlt2, hx2, hgc, hc, e5, e6, e7, buildSliceR, reps, k1, w2]
                  exact fin _ v2 h2 _ (by simp; omega) hu k2 k3
                · have e7 : decide ((c.toNat : Int) = 92) = false := decide_eq_false (by omega)
                  rw [if_neg (by omega)] at hu
                  simp -implicitDefEqProofs [-convR, wl, hcn, eE, cE, hlt, hx, hgb, e1, e2, e3, w1, eF, hlt2, hx2, hgc, hc, e5, e6, e7, w2]
                  exact hq2 h' hu oo
        · have e3 : decide ((b.toNat : Int) = 92) = false := decide_eq_false (by omega)
          rw [unqR_push c1 c2 c3] at hu
          obtain ⟨v2, h2, k1, k2, k3⟩ := put b
          simp -implicitDefEqProofs [-convR, wl, hcn, eE, cE, hlt, hx, hgb, e1, e2, e3, buildSliceR, reps, k1, w1]
          exact ih (m - 1) (by omega) _ h2 ⟨k3, i + 1, out ++ [b], v2, _, by omega, by omega, by simp; omega, hu, k2, by simp; rfl⟩
    · have el : decide ((bl.toNat : Int) = 34) = false := decide_eq_false (by omega)
      have hS2 : unqS q = none := by
        cases hu : unqS q with
        | none => rfl
        | some x =>
          rw [hS] at hu
          obtain ⟨b, h1, h2⟩ := unqR_last _ _ _ _ (Nat.le_refl _) hu
          rw [List.getLast?_eq_getElem?, List.getElem?_drop, List.length_drop, show 1 + (q.length - 1 - 1) = n by omega, hbl] at h1
          cases h1
          exact (cl h2).elim
      simp -implicitDefEqProofs [Tryz.f8, h2, d1, hx0, hg0, e0, wl, hcn, hxl, hbl, hgl, hln, el]
      exact hq2 _ hS2 (Old.refl h)
  · have e0 : decide ((b0.toNat : Int) = 34) = false := decide_eq_false (by omega)
    have hS : unqS q = none := by rw [hq0, unqS_cons, if_neg c0]
    simp -implicitDefEqProofs [Tryz.f8, h2, d1, hx0, hg0, e0]
    exact hq2 _ hS (Old.refl h)
end
end Go.Proofs.YtofnbldbggddmaaGreatDoor
set_option linter.all false
set_option maxRecDepth 100000
set_option maxHeartbeats 4000000
namespace Go.Proofs.YtofnbldbggddmaaGreatDoor
open Go Go.RowKit Go.Proofs
/-! the words of a line -/
def wordsF : Str → List Str
  | [] => [[]]
  | b :: s => if b = 32 then [] :: wordsF s else match wordsF s with
    | [] => [[b]]
    | w :: l => (b :: w) :: l
theorem wordsF_ne : ∀ s, wordsF s ≠ []
  | [] => by simp [wordsF]
  | b :: s => by
    unfold wordsF
    split
    · simp
    · split <;> simp
theorem wordsF_no : ∀ (s : Str), (∀ b ∈ s, b ≠ 32) → wordsF s = [s]
  | [], _ => rfl
  | b :: s, h => by
    have ih := wordsF_no s (fun x hx => h x (by simp [hx]))
    unfold wordsF
    rw [if_neg (h b (by simp)), ih]
theorem wordsF_cut : ∀ (a b : Str), (∀ x ∈ a, x ≠ 32) → wordsF (a ++ 32 :: b) = a :: wordsF b
  | [], b, _ => by
    show wordsF (32 :: b) = _
    conv => lhs; unfold wordsF
    rw [if_pos rfl]
  | x :: a, b, h => by
    have ih := wordsF_cut a b (fun y hy => h y (by simp [hy]))
    show wordsF (x :: (a ++ 32 :: b)) = _
    conv => lhs; unfold wordsF
    rw [if_neg (h x (by simp)), ih]
theorem wordsF_len : ∀ s : Str, (wordsF s).length = Lib.countByte s 32 + 1
  | [] => rfl
  | b :: s => by
    have ih := wordsF_len s
    unfold Lib.countByte at ih ⊢
    unfold wordsF
    by_cases c : b = 32
    · rw [if_pos c, List.length_cons, ih, c, List.count_cons_self]
    · rw [if_neg c, List.count_cons_of_ne c]
      cases hw : wordsF s with
      | nil => exact (wordsF_ne s hw).elim
      | cons w l => rw [hw] at ih; simpa using ih
theorem idx_cases : ∀ s : Str, (Lib.indexByte s 32 = -1 ∧ ∀ b ∈ s, b ≠ 32) ∨ ∃ a b, s = a ++ 32 :: b ∧ (∀ x ∈ a, x ≠ 32) ∧ Lib.indexByte s 32 = (a.length : Int)
  | [] => .inl ⟨rfl, fun b h => by cases h⟩
  | b :: s => by
    by_cases c : b = 32
    · subst c
      exact .inr ⟨[], s, rfl, fun x h => (by cases h), by unfold Lib.indexByte; simp⟩
    · have hb : (b == 32) = false := by simpa using c
      rcases idx_cases s with ⟨h1, h2⟩ | ⟨x, y, h1, h2, h3⟩
      · refine .inl ⟨by unfold Lib.indexByte; simp [hb, h1], fun z hz => ?_⟩
        rcases List.mem_cons.1 hz with rfl | hz
        · exact c
        · exact h2 z hz
      · refine .inr ⟨b :: x, y, by rw [h1]; rfl, fun z hz => ?_, ?_⟩
        · rcases List.mem_cons.1 hz with rfl | hz
          · exact c
          · exact h2 z hz
        · have hne : ¬ ((x.length : Int) = -1) := by omega
          have hn2 : ((x.length : Int) == -1) = false := by simpa using hne
          unfold Lib.indexByte
          simp [hb, h3, hn2]
theorem words_le {s : Str} : (wordsF s).length ≤ s.length + 1 := by
  rw [wordsF_len]
  have : Lib.countByte s 32 ≤ s.length := by unfold Lib.countByte; exact List.count_le_length
  omega
section
variable {ro : Nat → Option (List AVal)}
theorem mkSlice_ok {P : Program} {h : AHeap} {t e n b : Nat} {k k' : IntKind} {l m : Nat} {z : List AVal} (he : elemSl P t = .ok e) (hi : ∃ i, infoR P e = .ok i ∧ i.size = n ∧ i.bytes = b) (hz : zeroCellsR P e = .ok z) (hn : n ≠ 0) (hzl : z.length = n)
    (hlm : l ≤ m) (hm : m < 2 ^ 62) (hb : b * m ≤ 2 ^ 48) : makeSliceR P h t (.int k l) (.int k' m) = .ok (.sl h.next 0 l, h.push (.row n false (reps m z))) := by
  obtain ⟨i, h1, rfl, rfl⟩ := hi
  unfold makeSliceR
  simp only [he, h1, hz, bind_ok]
  rw [if_pos, if_pos hzl]
  · simp
  · refine ⟨w64 (by omega) (by omega), w64 (by omega) (by omega), by omega, by omega, ?_, hn⟩
    have : ((i.bytes * m : Nat) : Int) ≤ 2 ^ 48 := by omega
    simpa using this
theorem index_ev {h : AHeap} {s : Str} {Q : AVal → AHeap → Prop} (hq : Q (.int .i64 (Lib.indexByte s 32)) h) : Ev (cfgR ro) 45 [.str s, .str [32]] h Q := by
  refine Ev.wp rfl rfl Tryz.func45 rfl ?_
  simp -implicitDefEqProofs [Tryz.f45]
  refine Ev.wp rfl rfl Tryz.func64 rfl ?_
  have hx : idxNat (.int .i64 0) 1 = .ok 0 := ix_nat (i := 0) (by omega)
  have h32 : (((32 : UInt8).toNat : Nat) : Int) = 32 := rfl
  by_cases c : [32] = s
  · subst c
    have e0 : Lib.indexByte [32] 32 = 0 := by decide
    rw [e0] at hq
    simp -implicitDefEqProofs [Tryz.f64]
    exact hq
  · have e1 : decide ([32] = s) = false := decide_eq_false c
    simp -implicitDefEqProofs [Tryz.f64, e1, hx]
    refine Ev.wp rfl rfl Tryz.func81 rfl ?_
    simp -implicitDefEqProofs [Tryz.f81]
    refine Ev.prim (v := .int .i64 (Lib.indexByte s 32)) (h' := h) rfl rfl ?_
    simp -implicitDefEqProofs
    exact hq
theorem count_ev {h : AHeap} {s : Str} {Q : AVal → AHeap → Prop} (hq : Q (.int .i64 (Lib.countByte s 32 : Nat)) h) : Ev (cfgR ro) 44 [.str s, .str [32]] h Q := by
  refine Ev.wp rfl rfl Tryz.func44 rfl ?_
  have hx : idxNat (.int .i64 0) 1 = .ok 0 := ix_nat (i := 0) (by omega)
  simp -implicitDefEqProofs [Tryz.f44, hx]
  refine Ev.prim (v := .int .i64 (Lib.countByte s 32 : Nat)) (h' := h) rfl rfl ?_
  simp -implicitDefEqProofs
  exact hq
theorem reps0 : ∀ N : Nat, reps N [AVal.str []] = List.replicate N (.str [])
  | 0 => rfl
  | k + 1 => by
    have ih := reps0 k
    unfold reps at ih ⊢
    rw [List.replicate_succ, List.flatten_cons, ih, List.replicate_succ]; rfl
theorem over1 {ws : List Str} {k : Nat} {x : Str} : overR (ws.map (fun w => AVal.str w) ++ List.replicate (k + 1) (.str [])) ws.length [.str x] = .ok ((ws ++ [x]).map (fun w => AVal.str w) ++ List.replicate k (.str [])) := by
  unfold overR
  rw [if_pos (by simp), List.take_left' (by simp), List.replicate_succ]
  have : (ws.map (fun w => AVal.str w) ++ AVal.str [] :: List.replicate k (AVal.str [])).drop (ws.length + [AVal.str x].length) = List.replicate k (AVal.str []) := by
    rw [show ws.map (fun w => AVal.str w) ++ AVal.str [] :: List.replicate k (AVal.str []) = (ws.map (fun w => AVal.str w) ++ [AVal.str []]) ++ List.replicate k (AVal.str []) by simp]
    exact List.drop_left' (by simp)
  rw [this]; simp
theorem split_ev {h : AHeap} {s : Str} (hl : s.length < 2 ^ 30) {Q : AVal → AHeap → Prop} (hq : ∀ v h', Old h h' → Mine h h' 1 ((wordsF s).map fun w => [.str w]) v → Q v h') : Ev (cfgR ro) 22 [.str s, .str [32]] h Q := by
  refine Ev.wp rfl rfl Tryz.func22 rfl ?_
  simp -implicitDefEqProofs [Tryz.f22]
  refine Ev.wp rfl rfl Tryz.func32 rfl ?_
  simp -implicitDefEqProofs [Tryz.f32]
  refine count_ev ?_
  have hwl := wordsF_len s
  have hle := words_le (s := s)
  obtain ⟨n, hn⟩ : ∃ n, n = Lib.countByte s 32 := ⟨_, rfl⟩
  rw [← hn] at hwl ⊢
  obtain ⟨N, hN⟩ : ∃ N, N = n + 1 := ⟨_, rfl⟩
  rw [← hN] at hwl
  have w1 : IntKind.i64.wrap ((n : Int) + 1) = (N : Int) := by rw [w64 (by omega) (by omega)]; omega
  have w2 : IntKind.i64.wrap ((s.length : Int) + 1) = (s.length : Int) + 1 := w64 (by omega) (by omega)
  have hmin : foldR min2R (.int .i64 (N : Nat)) [.int .i64 ((s.length : Int) + 1)] = .ok (.int .i64 (N : Nat)) := by
    have e : min ((N : Nat) : Int) ((s.length : Int) + 1) = (N : Int) := by omega
    have : min2R (.int .i64 (N : Nat)) (.int .i64 ((s.length : Int) + 1)) = .ok (.int .i64 (N : Nat)) := by
      simp only [min2R, if_true]
      rw [if_neg (by omega)]
    simp only [foldR, this, Res.ok_bind]
  have hM : makeSliceR Tryz.prog h 67 (.int .i64 (N : Nat)) (.int .i64 (N : Nat)) = .ok (.sl h.next 0 N, h.push (.row 1 false (reps N [.str []]))) :=
    mkSlice_ok (e := 9) (n := 1) (b := 16) (by kernel_rfl) ⟨_, rfl, by kernel_rfl, by kernel_rfl⟩ (by kernel_rfl) (by decide) rfl (Nat.le_refl _) (by omega) (by omega)
  have w3 : IntKind.i64.wrap ((N : Int) - 1) = (n : Int) := by rw [w64 (by omega) (by omega)]; omega
  simp -implicitDefEqProofs [w1, w2, hmin, hM, w3]
  obtain ⟨q, hqq⟩ : ∃ q, q = h.next := ⟨_, rfl⟩
  obtain ⟨H0, hH0⟩ : ∃ H0, H0 = h.push (.row 1 false (reps N [.str []])) := ⟨_, rfl⟩
  have o0 : Old h H0 := by rw [hH0]; exact (Old.refl h).push _
  have g0 : H0.get q = some (.row 1 false (([] : List Str).map (fun w => AVal.str w) ++ List.replicate N (.str []))) := by
    rw [hH0, hqq, AHeap.get_push, if_pos rfl]
    rw [reps0]; rfl
  have n0 : q < H0.next := by rw [hH0, hqq]; simp
  rw [← hH0, ← hqq]
  obtain ⟨I, hI⟩ : ∃ I : Nat → List AVal → AHeap → Prop, I = fun m env h' => Old h h' ∧ q < h'.next ∧ ∃ (i : Nat) (ws : List Str) (s' : Str), i + m = n ∧ ws.length = i ∧ s'.length ≤ s.length ∧ wordsF s = ws ++ wordsF s' ∧ h'.get q = some (.row 1 false (ws.map (fun w => AVal.str w) ++ List.replicate (N - i) (.str []))) ∧
    env = (.str s' :: .str [32] :: .int .i64 0 :: .int .i64 (n : Nat) :: .dead :: .dead :: .dead :: .dead :: .dead :: .sl q 0 N :: .int .i64 (i : Nat) :: .dead :: .dead :: .dead :: .dead :: .dead :: .dead :: .dead :: .dead :: .dead :: .dead :: .dead :: .dead :: .dead :: .dead :: .dead :: .dead :: .dead :: .dead :: .dead :: .dead :: .dead :: .dead :: .dead :: .dead :: .dead :: .dead :: .dead :: .dead :: .dead :: .dead :: .dead :: .dead :: .dead :: .dead :: .dead :: .dead :: .dead :: .dead :: .dead :: .dead :: .dead :: .dead :: .dead :: .dead :: .dead :: .dead :: .dead :: .dead :: .dead :: .dead :: .dead :: .dead :: .dead :: .dead :: .dead :: []) := ⟨_, rfl⟩
  refine loop_of I ?_ n (by rw [hI]; exact ⟨o0, n0, 0, [], s, by omega, rfl, Nat.le_refl _, rfl, g0, rfl⟩)
  intro m env h' hi
  rw [hI] at hi
  obtain ⟨oo, hqn, i, ws, s', him, hwsl, hsl, hww, hg, rfl⟩ := hi
  have hlen2 := congrArg List.length hww
  rw [List.length_append, hwl, hwsl] at hlen2
  have w4 : IntKind.i64.wrap ((i : Int) + 1) = (i : Int) + 1 := w64 (by omega) (by omega)
  by_cases hlt : i < n
  · rcases idx_cases s' with ⟨_, c2⟩ | ⟨a, b, rfl, c2, c3⟩
    · rw [wordsF_no s' c2] at hlen2; simp at hlen2; omega
    · rw [wordsF_cut a b c2] at hww
      have d1 : decide ((i : Int) < (n : Int)) = true := decide_eq_true (by omega)
      simp -implicitDefEqProofs [hlt]
      refine index_ev ?_
      rw [c3]
      have d2 : decide ((a.length : Int) < 0) = false := decide_eq_false (by omega)
      have al : a.length < 2 ^ 30 := by simp at hsl; omega
      have w5 : IntKind.i64.wrap (a.length : Int) = (a.length : Int) := w64 (by omega) (by omega)
      have w6 : IntKind.i64.wrap ((a.length : Int) + 1) = (a.length : Int) + 1 := w64 (by omega) (by omega)
      obtain ⟨k, hk⟩ : ∃ k, N - i = k + 1 := ⟨N - i - 1, by omega⟩
      have b1 : bounds2 (a.length + (b.length + 1)) (a.length + (b.length + 1)) none (some (.int .i64 (a.length : Nat))) = .ok (0, a.length) := bd_to (by omega) .i64
      have b2 : bounds2 (a.length + (b.length + 1)) (a.length + (b.length + 1)) (some (.int .i64 ((a.length : Int) + 1))) none = .ok (a.length + 1, a.length + (b.length + 1)) := by
        have := bd_from (n := a.length + (b.length + 1)) (top := a.length + (b.length + 1)) (at_ := a.length + 1) (by omega) .i64
        rw [Int.natCast_add, Int.natCast_one] at this
        exact this
      have t1 : (a ++ 32 :: b).take a.length = a := List.take_left' rfl
      have t2 : ((a ++ 32 :: b).take (a.length + (b.length + 1))).drop (a.length + 1) = b := by
        rw [List.take_of_length_le (by simp), show a ++ 32 :: b = (a ++ [32]) ++ b by simp]
        exact List.drop_left' (by simp)
      have ix : idxNat (.int .i64 (i : Nat)) N = .ok i := ix_nat (by omega)
      rw [hk] at hg
      have ov := over1 (ws := ws) (k := k) (x := a)
      rw [hwsl, List.replicate_succ] at ov
      rw [List.replicate_succ] at hg
      simp -implicitDefEqProofs [d2, w5, w6, w4, b1, b2, t1, t2, ix, hg, ov]
      exact .mk (m := m - 1) (by omega) (by rw [hI]; exact ⟨oo.set (by omega) _, by simpa using hqn, i + 1, ws ++ [a], b, by omega, by simp [hwsl], by simp at hsl; omega, by rw [hww]; simp, by rw [AHeap.get_set, if_pos rfl, show N - (i + 1) = k by omega]; simp, by simp⟩)
  · have hin : i = n := by omega
    obtain ⟨b0, hb0⟩ : ∃ b0, wordsF s' = [b0] := by
      match h1 : wordsF s', hlen2 with
      | [b0], _ => exact ⟨b0, rfl⟩
      | [], hl => exact (wordsF_ne _ h1).elim
      | _ :: _ :: _, hl => simp at hl; omega
    have hs' : b0 = s' := by
      rcases idx_cases s' with ⟨_, c2⟩ | ⟨a, b, rfl, c2, c3⟩
      · rw [wordsF_no s' c2] at hb0; simpa using hb0.symm
      · rw [wordsF_cut a b c2] at hb0
        simp only [List.cons.injEq] at hb0
        exact (wordsF_ne _ hb0.2).elim
    subst hs'
    have ix : idxNat (.int .i64 (i : Nat)) N = .ok i := ix_nat (by omega)
    have hk : N - i = 0 + 1 := by omega
    rw [hk] at hg
    have ov := over1 (ws := ws) (k := 0) (x := b0)
    rw [hwsl, List.replicate_succ, List.replicate_zero, List.append_nil] at ov
    rw [List.replicate_succ, List.replicate_zero] at hg
    rw [hb0] at hww
    obtain ⟨H1, hH1⟩ : ∃ H1, H1 = h'.set q (.row 1 false ((ws ++ [b0]).map (fun w => AVal.str w))) := ⟨_, rfl⟩
    have o1 : Old h H1 := by rw [hH1]; exact oo.set (by omega) _
    have hfl : ∀ l : List Str, (l.map fun w => [AVal.str w]).flatten = l.map fun w => AVal.str w := fun l => by
      induction l with
      | nil => rfl
      | cons x l ih => simp only [List.map_cons, List.flatten_cons, ih]; rfl
    have mine : Mine h H1 1 ((wordsF s).map fun w => [AVal.str w]) (.sl q 0 N) := by
      refine ⟨fun e he => ?_, .inr ⟨q, false, by rw [List.length_map, hwl], by omega, by rw [hH1]; simpa using hqn, by rw [hH1, AHeap.get_set, if_pos rfl, hfl, hww]⟩⟩
      obtain ⟨w, _, rfl⟩ := List.mem_map.1 he
      rfl
    have up := ((mine.sl (c := cfgR ro)).upto (at_ := N) (by decide) mine.notSlc (by rw [List.length_map, hwl]; exact Nat.le_refl _) .i64).1
    have hN1 : ((N : Nat) : Int) = (i : Int) + 1 := by omega
    rw [hN1, hH1] at up
    simp -implicitDefEqProofs only [cutV, Nat.zero_mul, Nat.add_zero, Nat.sub_zero] at up
    simp -implicitDefEqProofs [hlt, ix, hg, ov, w4]
    rw [List.map_append, List.map_cons, List.map_nil] at up hH1
    simp -implicitDefEqProofs [up]
    rw [← hH1]
    exact hq _ H1 o1 mine
end
end Go.Proofs.YtofnbldbggddmaaGreatDoor
set_option linter.all false
set_option maxRecDepth 100000
set_option maxHeartbeats 4000000
namespace Go.Proofs.YtofnbldbggddmaaGreatDoor
open Go Go.RowKit Go.Proofs
/-! the number that a word is -/
def numF (s : Str) : Option Nat := match Lib.atoiAll s with
  | .ok n => if s.length ≤ 9 ∧ Lib.itoa n = s ∧ 0 ≤ n then some n.toNat else none
  | _ => none
section
variable {ro : Nat → Option (List AVal)}
theorem atoi_bound {s : Str} {n : Int} (h : Lib.atoiAll s = .ok n) : -9223372036854775808 ≤ n ∧ n ≤ 9223372036854775807 := by
  have := Lib.atoiAll_bounds h
  omega
theorem itoa_ev {h : AHeap} {n : Int} (hn : -9223372036854775808 ≤ n ∧ n ≤ 9223372036854775807) {Q : AVal → AHeap → Prop} (hq : Q (.str (Lib.itoa n)) h) : Ev (cfgR ro) 49 [.int .i64 n] h Q := by
  refine Ev.wp rfl rfl Tryz.func49 rfl ?_
  simp -implicitDefEqProofs [Tryz.f49]
  refine Ev.wp rfl rfl Tryz.func69 rfl ?_
  simp -implicitDefEqProofs [Tryz.f69]
  refine Ev.prim (v := .str (Lib.itoa n)) (h' := h) rfl (by unfold itoaP; simp only []; rw [if_pos hn]) ?_
  simp -implicitDefEqProofs
  exact hq
theorem eqE1 (h : AHeap) : eqIn (cfgR ro) h 10000 60 .nili .nili = .ok true := by kernel_rfl
theorem eqE2 (h : AHeap) : eqIn (cfgR ro) h 10000 60 (.iface 150 .dead) .nili = .ok false := by kernel_rfl
theorem number_ev {h : AHeap} {s : Str} (hs : s.length < 2 ^ 30) {Q : AVal → AHeap → Prop} (hq1 : ∀ n, numF s = some n → Q (.tuple [.int .i64 (n : Nat), .bool true]) h) (hq2 : numF s = none → Q (.tuple [.int .i64 0, .bool false]) h) :
    Ev (cfgR ro) 35 [.str s] h Q := by
  refine Ev.wp rfl rfl Tryz.func35 rfl ?_
  simp -implicitDefEqProofs [Tryz.f35]
  rcases ha : Lib.atoiAll s with n | _ | _
  · skip
    refine Ev.prim (v := .tuple [.int .i64 n, .nili]) (h' := h) rfl (by unfold atoiP; simp only [ha]; rw [if_pos (by omega)]) ?_
    simp -implicitDefEqProofs [eqE1]
    have hn := atoi_bound ha
    refine orD (fun c1 => ?_) (fun c1 => ?_)
    · simp -implicitDefEqProofs [c1]
      exact hq2 (by unfold numF; rw [ha]; simp only; rw [if_neg (fun x => by omega)])
    · simp -implicitDefEqProofs [c1]
      refine itoa_ev hn ?_
      simp -implicitDefEqProofs [c1]
      refine orD (fun c2 => ?_) (fun c2 => ?_)
      · simp -implicitDefEqProofs [c1, c2]
        refine orD (fun c3 => ?_) (fun c3 => ?_)
        · simp -implicitDefEqProofs [c1, c2, c3]
          exact hq2 (by unfold numF; rw [ha]; simp only; rw [if_neg (fun x => by omega)])
        · simp -implicitDefEqProofs [c1, c2, c3]
          obtain ⟨k, rfl⟩ : ∃ k : Nat, n = k := ⟨n.toNat, by omega⟩
          exact hq1 k (by unfold numF; rw [ha]; simp only; rw [if_pos ⟨by omega, c2, by omega⟩]; rfl)
      · simp -implicitDefEqProofs [c1, c2]
        exact hq2 (by unfold numF; rw [ha]; simp only; rw [if_neg (fun x => c2 x.2.1)])
  · skip
    refine Ev.prim (v := .tuple [.int .i64 0, .iface 150 .dead]) (h' := h) rfl (by unfold atoiP; simp only [ha]; rw [if_pos (by omega)]) ?_
    simp -implicitDefEqProofs [eqE2]
    exact hq2 (by unfold numF; rw [ha])
  · skip
    refine Ev.prim (v := .tuple [.int .i64 (Lib.atoiSat s), .iface 150 .dead]) (h' := h) rfl (by unfold atoiP; simp only [ha]; rw [if_pos (by omega)]) ?_
    simp -implicitDefEqProofs [eqE2]
    exact hq2 (by unfold numF; rw [ha])
end
end Go.Proofs.YtofnbldbggddmaaGreatDoor
set_option linter.all false
set_option maxRecDepth 100000
set_option maxHeartbeats 4000000
namespace Go.Proofs.YtofnbldbggddmaaGreatDoor
open Go Go.RowKit Go.Proofs
/-- a slice made with room, filled one by one -/
structure CapS (h : AHeap) (q sz cap : Nat) (es : List (List AVal)) : Prop where
  low : q < h.next
  w : ∀ e ∈ es, e.length = sz
  room : es.length ≤ cap
  row : ∃ vs, h.get q = some (.row sz false vs) ∧ vs.length = cap * sz ∧ vs.take (es.length * sz) = es.flatten
theorem CapS.keep {h h' : AHeap} {q sz cap : Nat} {es : List (List AVal)} (c : CapS h q sz cap es) (k : h'.get q = h.get q) (hn : h.next ≤ h'.next) : CapS h' q sz cap es :=
  ⟨Nat.lt_of_lt_of_le c.low hn, c.w, c.room, by rw [k]; exact c.row⟩
theorem CapS.sl {c : Cfg} {h : AHeap} {q sz cap : Nat} {es : List (List AVal)} (k : CapS h q sz cap es) : Sl c h sz (.sl q 0 es.length) es := by
  obtain ⟨vs, r1, r2, r3⟩ := k.row
  have hf := flat_len k.w
  refine ⟨rfl, (fun s h => by cases h), fun _ => ⟨vs, 0, by simp [rowOf, r1], fun i e he => ⟨k.w e (List.mem_of_getElem? he), ?_⟩⟩, k.low, (fun o f n hv => by cases hv; exact ⟨_, _, r1⟩)⟩
  have h2 := flat_take k.w he
  have hi := (List.getElem?_eq_some_iff.1 he).1
  rw [Nat.zero_add]
  unfold takeR at h2 ⊢
  have hle : i * sz + sz ≤ es.length * sz := by rw [← Nat.succ_mul]; exact Nat.mul_le_mul_right _ hi
  have hcap : es.length * sz ≤ cap * sz := Nat.mul_le_mul_right _ k.room
  rw [if_pos (by rw [hf]; exact hle)] at h2
  rw [if_pos (by omega)]
  rw [← r3] at h2
  rw [List.drop_take, List.take_take, Nat.min_eq_left (by omega)] at h2
  exact h2
theorem CapS.app {h : AHeap} {q sz cap b : Nat} {es : List (List AVal)} {e : List AVal} (k : CapS h q sz cap es) (hl : es.length < cap) (he : e.length = sz) :
    ∃ x, appCore sz b h (.sl q 0 es.length) 1 e = .ok (.sl q 0 (es.length + 1), h.set q x) ∧ CapS (h.set q x) q sz cap (es ++ [e]) := by
  obtain ⟨vs, r1, r2, r3⟩ := k.row
  have hf := flat_len k.w
  have hle : es.length * sz + sz ≤ cap * sz := by rw [← Nat.succ_mul]; exact Nat.mul_le_mul_right _ hl
  refine ⟨.row sz false (vs.take (es.length * sz) ++ e ++ vs.drop (es.length * sz + sz)), ?_, k.low, fun e' h' => ?_, by simp; omega, _, get_set_self _ _ _, ?_, ?_⟩
  · unfold appCore
    simp only [r1, if_true]
    have hm : (es.length + 1) * sz = es.length * sz + sz := Nat.succ_mul _ _
    rw [if_pos (by omega)]
    unfold overR
    rw [if_pos (by omega)]
    simp only [Nat.zero_add, he, Res.ok_bind]
  · rcases List.mem_append.1 h' with h1 | h1
    · exact k.w e' h1
    · simp at h1; rw [h1, he]
  · simp only [List.length_append, List.length_take, List.length_drop, he]; omega
  · have e1 : (es ++ [e]).length * sz = (vs.take (es.length * sz) ++ e).length := by
      rw [List.length_append, List.length_append, List.length_take, he, List.length_singleton, Nat.min_eq_left (by omega), Nat.succ_mul]
    rw [e1, List.take_left', r3]
    · simp
    · rfl

/-- a slice of words -/
abbrev SS (c : Cfg) (h : AHeap) (v : AVal) (ws : List Str) : Prop := Sl c h 1 v (ws.map fun w => [AVal.str w])
/-- a slice of numbers -/
abbrev NS (c : Cfg) (h : AHeap) (v : AVal) (ns : List Nat) : Prop := Sl c h 1 v (ns.map fun n => [AVal.int .i64 (n : Nat)])
def numsM : List Str → Option (List Nat)
  | [] => some []
  | w :: ws => match numF w, numsM ws with
    | some n, some ns => some (n :: ns)
    | _, _ => none
theorem numsM_app {w : Str} {B : List Str} : ∀ {A : List Str} {ns : List Nat}, numsM A = some ns → numsM (A ++ w :: B) = match numF w, numsM B with
    | some n, some ms => some (ns ++ n :: ms)
    | _, _ => none
  | [], ns, h => by cases h; rfl
  | x :: A, ns, h => by
    simp only [numsM] at h
    split at h
    · rename_i n ms h1 h2
      cases h
      have ih := numsM_app (w := w) (B := B) h2
      show numsM (x :: (A ++ w :: B)) = _
      simp only [numsM, h1, ih]
      cases numF w with
      | none => rfl
      | some k => cases numsM B <;> rfl
    · cases h
theorem numsM_len : ∀ {A : List Str} {ns : List Nat}, numsM A = some ns → ns.length = A.length
  | [], ns, h => by cases h; rfl
  | x :: A, ns, h => by
    simp only [numsM] at h
    split at h
    · rename_i n ms h1 h2
      cases h
      simp [numsM_len h2]
    · cases h
def numsF (ws : List Str) (n : Nat) : Option (List Nat) := if ws.length = n then numsM ws else none
section
variable {ro : Nat → Option (List AVal)} {h : AHeap}
theorem lenSS {v : AVal} {l : List Str} (hs : SS (cfgR ro) h v l) : lenR (cfgR ro) h 67 v = .ok (.int .i64 (l.length : Nat)) := by have := hs.lenR (t := 67) un67; simpa using this
theorem idxSS {v : AVal} {l : List Str} (hs : SS (cfgR ro) h v l) {k : IntKind} {i : Nat} {w : Str} (hw : l[i]? = some w) : indexAddrR Tryz.prog 67 v (.int k (i : Nat)) = .ok (elp v 1 i) :=
  hs.idx un67 sz9 (by simpa using (List.getElem?_eq_some_iff.1 hw).1)
theorem loadSS {v : AVal} {l : List Str} (hs : SS (cfgR ro) h v l) {i : Nat} {w : Str} (hw : l[i]? = some w) : loadR (cfgR ro) h 9 (elp v 1 i) = .ok (.str w) :=
  hs.load1 (e := [.str w]) (by rw [List.getElem?_map, hw]; rfl) rfl ag9
theorem mkNums {n : Nat} (hn : n < 2 ^ 40) : makeSliceR Tryz.prog h 73 (.int .i64 0) (.int .i64 (n : Nat)) = .ok (.sl h.next 0 0, h.push (.row 1 false (reps n [.int .i64 0]))) := by
  have hi : ∃ i, infoR Tryz.prog 3 = .ok i ∧ i.size = 1 ∧ i.bytes = 8 := ⟨_, rfl, by kernel_rfl, by kernel_rfl⟩
  obtain ⟨i, i1, i2, i3⟩ := hi
  have w0 : IntKind.i64.wrap 0 = 0 := by decide
  have w1 : IntKind.i64.wrap (n : Int) = (n : Int) := w64 (by omega) (by omega)
  unfold makeSliceR
  simp [i1, i2, i3, w0, w1]
  omega
theorem numbers_ev {v : AVal} {ws : List Str} {n : Nat} (hs : SS (cfgR ro) h v ws) (hl : ws.length < 2 ^ 30) (hw : ∀ w ∈ ws, w.length < 2 ^ 30) (hn : n < 2 ^ 30) {Q : AVal → AHeap → Prop}
    (hq1 : ∀ v' h' ns, Old h h' → numsF ws n = some ns → NS (cfgR ro) h' v' ns → Q (.tuple [v', .bool true]) h') (hq2 : ∀ h', Old h h' → numsF ws n = none → Q (.tuple [.nils, .bool false]) h') :
    Ev (cfgR ro) 25 [v, .int .i64 (n : Nat)] h Q := by
  refine Ev.wp rfl rfl Tryz.func25 rfl ?_
  have hL := lenSS hs
  have hM := mkNums (h := h) (n := n) (by omega)
  simp -implicitDefEqProofs [Tryz.f25, hL, hM]
  refine orD (fun c => ?_) (fun c => ?_)
  · have hc : n = ws.length := by omega
    subst hc
    obtain ⟨q, hq⟩ : ∃ q, q = h.next := ⟨_, rfl⟩
    obtain ⟨H, hH⟩ : ∃ H, H = h.push (.row 1 false (reps ws.length [.int .i64 0])) := ⟨_, rfl⟩
    have o1 : Old h H := by rw [hH]; exact (Old.refl h).push _
    have k0 : CapS H q 1 ws.length [] := ⟨by rw [hH, hq]; simp, by simp, Nat.zero_le _, _, by rw [hH, hq, get_push_next], by simp [reps], by simp⟩
    have hL2 := lenSS (hs.old o1)
    rw [← hH, ← hq] at hM
    simp -implicitDefEqProofs [hM, hL2]
    obtain ⟨I, hI⟩ : ∃ I : Nat → List AVal → AHeap → Prop, I = fun m env h' => Old h h' ∧ ∃ (i : Nat) (ns : List Nat), i + m = ws.length ∧ numsM (ws.take i) = some ns ∧ CapS h' q 1 ws.length (ns.map fun n => [AVal.int .i64 (n : Nat)]) ∧
      env = (.dead :: .dead :: .dead :: .dead :: .dead :: .dead :: .sl q 0 i :: .dead :: .dead :: .dead :: .dead :: .dead :: .dead :: .dead :: .dead :: .dead :: .dead :: v :: .int .i64 (ws.length : Nat) :: .int .i64 (i : Nat) :: .dead :: .dead :: .dead :: .dead :: .dead :: .dead :: .dead :: .dead :: .dead :: .dead :: .dead :: .dead :: .dead :: .dead :: .dead :: .dead :: []) := ⟨_, rfl⟩
    refine loop_of I ?_ ws.length (by rw [hI]; exact ⟨o1, 0, [], by omega, rfl, k0, rfl⟩)
    intro m env h' hi
    rw [hI] at hi
    obtain ⟨oo, i, ns, him, hns, kk, rfl⟩ := hi
    have hnl := numsM_len hns
    by_cases hlt : i < ws.length
    · obtain ⟨w, hx⟩ : ∃ w, ws[i]? = some w := ⟨_, List.getElem?_eq_getElem hlt⟩
      have hti : (ws.take i).length = i := by rw [List.length_take]; omega
      have hsplit : ws = ws.take i ++ w :: ws.drop (i + 1) := by
        obtain ⟨h1, e⟩ := List.getElem?_eq_some_iff.1 hx
        have := List.take_append_drop i ws
        rw [List.drop_eq_getElem_cons h1, e] at this
        exact this.symm
      have e1 := idxSS (hs.old oo) (k := .i64) hx
      have e2 := loadSS (hs.old oo) hx
      have w1 : IntKind.i64.wrap ((i : Int) + 1) = ((i + 1 : Nat) : Int) := by rw [w64 (by omega) (by omega)]; omega
      simp -implicitDefEqProofs [hlt, e1, e2]
      refine number_ev (hw w (List.mem_of_getElem? hx)) (fun k hk => ?_) (fun hk => ?_)
      · have op : Old h' (h'.push (.row 1 false [.int .i64 (k : Nat)])) := (Old.refl h').push _
        obtain ⟨y, a1, a2⟩ := (kk.keep (op.2 _ kk.low) op.1).app (b := 8) (e := [.int .i64 (k : Nat)]) (by simp; omega) rfl
        have hml : (ns.map fun n => [AVal.int .i64 (n : Nat)]).length = i := by rw [List.length_map, hnl, hti]
        rw [hml] at a1
        have hns2 : numsM (ws.take (i + 1)) = some (ns ++ [k]) := by
          obtain ⟨h1, e⟩ := List.getElem?_eq_some_iff.1 hx
          rw [List.take_succ_eq_append_getElem h1, e, numsM_app hns, hk]
          rfl
        simp -implicitDefEqProofs [buildSliceR, reps, a1, w1]
        refine .mk (m := m - 1) (by omega) (by rw [hI]; exact ⟨(oo.trans op).set (by rw [hq]; exact Nat.le_refl _) _, i + 1, ns ++ [k], by omega, hns2, by rw [List.map_append]; exact a2, rfl⟩)
      · simp -implicitDefEqProofs
        refine hq2 _ oo ?_
        unfold numsF
        rw [if_pos rfl, hsplit, numsM_app hns, hk]
    · rw [List.take_of_length_le (by omega)] at hns
      simp -implicitDefEqProofs [hlt]
      have hml : (ns.map fun n => [AVal.int .i64 (n : Nat)]).length = i := by rw [List.length_map]; rw [List.length_take] at hnl; omega
      have := kk.sl (c := cfgR ro)
      rw [hml] at this
      exact hq1 _ h' ns oo (by unfold numsF; rw [if_pos rfl, hns]) this
  · simp -implicitDefEqProofs [c]
    exact hq2 _ (Old.refl h) (by unfold numsF; rw [if_neg (by omega)])
end
end Go.Proofs.YtofnbldbggddmaaGreatDoor
set_option linter.all false
set_option maxRecDepth 100000
set_option maxHeartbeats 4000000
namespace Go.Proofs.YtofnbldbggddmaaGreatDoor
open Go Go.RowKit Go.Proofs
/-! hexadecimal digits -/
def hexD (c : UInt8) : Option Nat := if 48 ≤ c.toNat ∧ c.toNat ≤ 57 then some (c.toNat - 48) else if 97 ≤ c.toNat ∧ c.toNat ≤ 102 then some (c.toNat - 87) else none
def hexS : Str := [48, 49, 50, 51, 52, 53, 54, 55, 56, 57, 97, 98, 99, 100, 101, 102]
def hexI (c : UInt8) : Int := match hexD c with
  | some d => (d : Int)
  | none => -1
theorem hexD_lt {c : UInt8} {d : Nat} (h : hexD c = some d) : d < 16 := by
  unfold hexD at h
  split at h
  · cases h; omega
  · split at h
    · cases h; omega
    · cases h
theorem hexI_all : ∀ n : Nat, n < 256 → Lib.indexByte hexS (UInt8.ofNat n) = hexI (UInt8.ofNat n) := by decide +kernel
theorem hexI_ix (c : UInt8) : Lib.indexByte hexS c = hexI c := by
  have := hexI_all c.toNat (UInt8.toNat_lt c)
  rwa [UInt8.ofNat_toNat] at this
def hexP : Str → Option Str
  | [] => some []
  | [_] => none
  | a :: b :: r => match hexD a, hexD b, hexP r with
    | some x, some y, some t => some (UInt8.ofNat (16 * x + y) :: t)
    | _, _, _ => none
def hexF (s : Str) : Option Str := if s = [] then none else hexP s
theorem hexP_len : ∀ {s t : Str}, hexP s = some t → s.length = 2 * t.length
  | [], t, h => by cases h; rfl
  | [_], t, h => by cases h
  | a :: b :: r, t, h => by
    simp only [hexP] at h
    split at h
    · rename_i x y u h1 h2 h3
      cases h
      have := hexP_len h3
      simp [this]; omega
    · cases h
theorem hexP_app {a b : UInt8} {r : Str} : ∀ {A t : Str}, hexP A = some t → hexP (A ++ a :: b :: r) = match hexD a, hexD b, hexP r with
    | some x, some y, some u => some (t ++ UInt8.ofNat (16 * x + y) :: u)
    | _, _, _ => none
  | [], t, h => by cases h; rfl
  | [_], t, h => by cases h
  | p :: q :: A, t, h => by
    simp only [hexP] at h
    split at h
    · rename_i x y u h1 h2 h3
      cases h
      have ih := hexP_app (a := a) (b := b) (r := r) h3
      show hexP (p :: q :: (A ++ a :: b :: r)) = _
      simp only [hexP, h1, h2, ih]
      cases hexD a with
      | none => rfl
      | some k => cases hexD b with
        | none => rfl
        | some k2 => cases hexP r <;> rfl
    · cases h
theorem hexOr : ∀ x : Nat, x < 16 → ∀ y : Nat, y < 16 → ior .i64 (ishl .i64 (x : Int) 4) (y : Int) = ((16 * x + y : Nat) : Int) := by decide +kernel
section
variable {ro : Nat → Option (List AVal)} {h : AHeap}
theorem ixb_ev {c : UInt8} {Q : AVal → AHeap → Prop} (hq : Q (.int .i64 (hexI c)) h) : Ev (cfgR ro) 66 [.str hexS, .int .u8 (c.toNat : Nat)] h Q := by
  refine Ev.wp rfl rfl Tryz.func66 rfl ?_
  simp -implicitDefEqProofs [Tryz.f66]
  refine Ev.wp rfl rfl Tryz.func81 rfl ?_
  simp -implicitDefEqProofs [Tryz.f81]
  have hc : ((c.toNat : Int)).toNat.toUInt8 = c := by simp
  refine Ev.prim (v := .int .i64 (hexI c)) (h' := h) rfl (by unfold ixsP; simp only [hc, hexI_ix]) ?_
  simp -implicitDefEqProofs
  exact hq
theorem mkBytes {n : Nat} (hn : n < 2 ^ 40) : makeSliceR Tryz.prog h 36 (.int .i64 0) (.int .i64 (n : Nat)) = .ok (.sl h.next 0 0, h.push (.row 1 false (reps n [.int .u8 0]))) := by
  have hi : ∃ i, infoR Tryz.prog 5 = .ok i ∧ i.size = 1 ∧ i.bytes = 1 := ⟨_, rfl, by kernel_rfl, by kernel_rfl⟩
  obtain ⟨i, i1, i2, i3⟩ := hi
  have w0 : IntKind.i64.wrap 0 = 0 := by decide
  have w1 : IntKind.i64.wrap (n : Int) = (n : Int) := w64 (by omega) (by omega)
  unfold makeSliceR
  simp [i1, i2, i3, w0, w1]
  omega
theorem hexed_ev {s : Str} (hs : s.length < 2 ^ 30) {Q : AVal → AHeap → Prop} (hq1 : ∀ v' h' t, Old h h' → hexF s = some t → BS (cfgR ro) h' v' t → cellsV v' = .ok [v'] → Q (.tuple [v', .bool true]) h') (hq2 : ∀ h', Old h h' → hexF s = none → Q (.tuple [.nils, .bool false]) h') :
    Ev (cfgR ro) 47 [.str s] h Q := by
  refine Ev.wp rfl rfl Tryz.func47 rfl ?_
  simp -implicitDefEqProofs [Tryz.f47]
  refine orD (fun c => ?_) (fun c => ?_)
  · simp -implicitDefEqProofs [c]
    exact hq2 _ (Old.refl h) (by unfold hexF; rw [if_pos c])
  · simp -implicitDefEqProofs [c]
    refine orD (fun c2 => ?_) (fun c2 => ?_)
    · obtain ⟨k, hk⟩ : ∃ k, s.length = 2 * k := ⟨s.length / 2, by rw [Int.tmod_eq_emod_of_nonneg (by omega)] at c2; omega⟩
      have hd : (s.length : Int).tdiv 2 = (k : Int) := by rw [Int.tdiv_eq_ediv_of_nonneg (by omega)]; omega
      have wk : IntKind.i64.wrap (k : Int) = (k : Int) := w64 (by omega) (by omega)
      have hM := mkBytes (h := h) (n := k) (by omega)
      obtain ⟨q, hq⟩ : ∃ q, q = h.next := ⟨_, rfl⟩
      obtain ⟨H, hH⟩ : ∃ H, H = h.push (.row 1 false (reps k [.int .u8 0])) := ⟨_, rfl⟩
      have o1 : Old h H := by rw [hH]; exact (Old.refl h).push _
      have k0 : CapS H q 1 k [] := ⟨by rw [hH, hq]; simp, by simp, Nat.zero_le _, _, by rw [hH, hq, get_push_next], by simp [reps], by simp⟩
      rw [← hH, ← hq] at hM
      simp -implicitDefEqProofs [c2, hd, wk, hM]
      obtain ⟨I, hI⟩ : ∃ I : Nat → List AVal → AHeap → Prop, I = fun m env h' => Old h h' ∧ ∃ (j i : Nat) (t : Str), j + m = k ∧ i = 2 * j ∧ hexP (s.take i) = some t ∧ CapS h' q 1 k (bes t) ∧
        env = (.str s :: .dead :: .dead :: .dead :: .sl q 0 j :: .int .i64 (i : Nat) :: .dead :: .dead :: .dead :: .dead :: .dead :: .dead :: .dead :: .dead :: .dead :: .dead :: .dead :: .dead :: .dead :: .dead :: .dead :: .dead :: .dead :: .dead :: .dead :: .dead :: .dead :: .dead :: .dead :: .dead :: .dead :: .dead :: .dead :: .dead :: .dead :: .dead :: .dead :: .dead :: .dead :: .dead :: .dead :: .dead :: .dead :: .dead :: .dead :: .dead :: .dead :: .dead :: .dead :: .dead :: []) := ⟨_, rfl⟩
      refine loop_of I ?_ k (by rw [hI]; exact ⟨o1, 0, 0, [], by omega, rfl, rfl, k0, rfl⟩)
      intro m env h' hi
      rw [hI] at hi
      obtain ⟨oo, j, i, t, him, hij, ht, kk, rfl⟩ := hi
      have htl := hexP_len ht
      have hti : t.length = j := by rw [List.length_take] at htl; omega
      by_cases hlt : j < k
      · have hlt2 : i < s.length := by omega
        have hlt3 : i + 1 < s.length := by omega
        obtain ⟨a, ha⟩ : ∃ a, s[i]? = some a := ⟨_, List.getElem?_eq_getElem hlt2⟩
        obtain ⟨b, hb⟩ : ∃ b, s[i + 1]? = some b := ⟨_, List.getElem?_eq_getElem hlt3⟩
        have hga : s[i]'hlt2 = a := by obtain ⟨_, e⟩ := List.getElem?_eq_some_iff.1 ha; exact e
        have hgb : s[i + 1]'hlt3 = b := by obtain ⟨_, e⟩ := List.getElem?_eq_some_iff.1 hb; exact e
        have hx : idxNat (.int .i64 (i : Int)) s.length = .ok i := ix_nat hlt2
        have hx2 : idxNat (.int .i64 ((i : Int) + 1)) s.length = .ok (i + 1) := ix_nat (i := i + 1) hlt3
        have w1 : IntKind.i64.wrap ((i : Int) + 1) = (i : Int) + 1 := w64 (by omega) (by omega)
        have w2 : IntKind.i64.wrap ((i : Int) + 2) = ((i + 2 : Nat) : Int) := by rw [w64 (by omega) (by omega)]; omega
        have hsplit : s = s.take i ++ a :: b :: s.drop (i + 2) := by
          have := List.take_append_drop i s
          rw [List.drop_eq_getElem_cons hlt2, hga, List.drop_eq_getElem_cons hlt3, hgb] at this
          exact this.symm
        have fin : hexD a = none ∨ hexD b = none → hexF s = none := fun hn => by
          unfold hexF
          rw [if_neg c, hsplit, hexP_app ht]
          rcases hn with hn | hn
          · rw [hn]
          · rw [hn]; cases hexD a <;> rfl
        simp -implicitDefEqProofs [hlt2, hx, hga]
        refine ixb_ev ?_
        simp -implicitDefEqProofs [hlt2, hx, hga, w1, hx2, hlt3, hgb]
        refine ixb_ev ?_
        cases hda : hexD a with
        | none =>
          have ea : hexI a = -1 := by unfold hexI; rw [hda]
          simp -implicitDefEqProofs [ea, same_self]
          exact hq2 _ oo (fin (.inl hda))
        | some x =>
          have ea : hexI a = (x : Int) := by unfold hexI; rw [hda]
          have nx : ¬ ((x : Int) < 0) := by omega
          cases hdb : hexD b with
          | none =>
            have eb : hexI b = -1 := by unfold hexI; rw [hdb]
            simp -implicitDefEqProofs [ea, eb, nx, same_self]
            exact hq2 _ oo (fin (.inr hdb))
          | some y =>
            have eb : hexI b = (y : Int) := by unfold hexI; rw [hdb]
            have ny : ¬ ((y : Int) < 0) := by omega
            have l1 := hexD_lt hda
            have l2 := hexD_lt hdb
            have eo := hexOr x l1 y l2
            obtain ⟨z, hz⟩ : ∃ z, z = UInt8.ofNat (16 * x + y) := ⟨_, rfl⟩
            have ez : IntKind.u8.wrap (16 * (x : Int) + (y : Int)) = (z.toNat : Int) := by rw [wrap8, hz, toNat_ofNat (by omega)]; omega
            have op : Old h' (h'.push (.row 1 false [.int .u8 (z.toNat : Nat)])) := (Old.refl h').push _
            obtain ⟨w, a1, a2⟩ := (kk.keep (op.2 _ kk.low) op.1).app (b := 1) (e := [.int .u8 (z.toNat : Nat)]) (by rw [bes_len]; omega) rfl
            rw [bes_len, hti] at a1
            simp -implicitDefEqProofs [ea, eb, nx, ny, eo, ez, buildSliceR, reps, a1, w2, same_self]
            have ht2 : hexP (s.take (i + 2)) = some (t ++ [z]) := by
              have e : s.take (i + 2) = s.take i ++ [a, b] := by
                rw [List.take_succ_eq_append_getElem hlt3, List.take_succ_eq_append_getElem hlt2, hga, hgb]; simp
              rw [e, hexP_app ht, hda, hdb, hz]; rfl
            exact .mk (m := m - 1) (by omega) (by rw [hI]; exact ⟨(oo.trans op).set (by rw [hq]; exact Nat.le_refl _) _, j + 1, i + 2, t ++ [z], by omega, by omega, ht2, by rw [bes_append]; exact a2, rfl⟩)
      · have hlt2 : ¬ i < s.length := by omega
        simp -implicitDefEqProofs [hlt2]
        rw [List.take_of_length_le (by omega)] at ht
        have := kk.sl (c := cfgR ro)
        rw [bes_len, hti] at this
        exact hq1 _ h' t oo (by unfold hexF; rw [if_neg c, ht]) this rfl
    · simp -implicitDefEqProofs [c2]
      refine hq2 _ (Old.refl h) ?_
      unfold hexF
      rw [if_neg c]
      cases hp : hexP s with
      | none => rfl
      | some t =>
        have := hexP_len hp
        rw [Int.tmod_eq_emod_of_nonneg (by omega)] at c2
        omega
end
end Go.Proofs.YtofnbldbggddmaaGreatDoor
set_option linter.all false
set_option maxRecDepth 100000
set_option maxHeartbeats 4000000
namespace Go.Proofs.YtofnbldbggddmaaGreatDoor
open Go Go.RowKit Go.Proofs
/-! words of a line, in memory -/
structure WS (ro : Nat → Option (List AVal)) (h : AHeap) (v : AVal) (ws : List Str) : Prop where
  s : SS (cfgR ro) h v ws
  k : v = .nils ∨ ∃ o f n, v = .sl o f n
  l : ws.length < 2 ^ 30
  w : ∀ w ∈ ws, w.length < 2 ^ 30
section
variable {ro : Nat → Option (List AVal)} {h h' : AHeap} {v : AVal} {ws : List Str}
theorem WS.old (W : WS ro h v ws) (o : Old h h') : WS ro h' v ws := ⟨W.s.old o, W.k, W.l, W.w⟩
theorem WS.not (W : WS ro h v ws) : notSlc v := by
  rcases W.k with rfl | ⟨o, f, n, rfl⟩ <;> (intro a b c d e; cases e)
theorem WS.cutk (W : WS ro h v ws) (a b : Nat) : cutV v 1 a b = .nils ∨ ∃ o f n, cutV v 1 a b = .sl o f n := by
  rcases W.k with rfl | ⟨o, f, n, rfl⟩
  · exact .inl rfl
  · exact .inr ⟨_, _, _, rfl⟩
theorem WS.from_ (W : WS ro h v ws) {n : Nat} (hn : n ≤ ws.length) (k : IntKind) : ∃ v', sliceSl h 1 v (some (.int k (n : Nat))) none none = .ok v' ∧ WS ro h v' (ws.drop n) := by
  obtain ⟨a1, a2, _⟩ := Sl.from_ W.s (by decide) W.not (at_ := n) (by simpa using hn) k
  refine ⟨_, a1, by rw [← List.map_drop] at a2; exact a2, W.cutk _ _, by rw [List.length_drop]; have := W.l; omega, fun w hw => W.w w (List.mem_of_mem_drop hw)⟩
theorem WS.upto (W : WS ro h v ws) {n : Nat} (hn : n ≤ ws.length) (k : IntKind) : ∃ v', sliceSl h 1 v none (some (.int k (n : Nat))) none = .ok v' ∧ WS ro h v' (ws.take n) := by
  obtain ⟨a1, a2, _⟩ := Sl.upto W.s (by decide) W.not (at_ := n) (by simpa using hn) k
  refine ⟨_, a1, by rw [← List.map_take] at a2; exact a2, W.cutk _ _, by rw [List.length_take]; have := W.l; omega, fun w hw => W.w w (List.mem_of_mem_take hw)⟩
theorem WS.len (W : WS ro h v ws) : lenR (cfgR ro) h 67 v = .ok (.int .i64 (ws.length : Nat)) := lenSS W.s
theorem WS.ix (W : WS ro h v ws) {k : IntKind} {i : Nat} {w : Str} (hw : ws[i]? = some w) : indexAddrR Tryz.prog 67 v (.int k (i : Nat)) = .ok (elp v 1 i) := idxSS W.s hw
theorem WS.ld (W : WS ro h v ws) {i : Nat} {w : Str} (hw : ws[i]? = some w) : loadR (cfgR ro) h 9 (elp v 1 i) = .ok (.str w) := loadSS W.s hw
theorem WS.nums_ev (W : WS ro h v ws) {n : Nat} (hn : n < 2 ^ 30) {Q : AVal → AHeap → Prop}
    (hq1 : ∀ v' h' ns, Old h h' → numsF ws n = some ns → NS (cfgR ro) h' v' ns → Q (.tuple [v', .bool true]) h') (hq2 : ∀ h', Old h h' → numsF ws n = none → Q (.tuple [.nils, .bool false]) h') :
    Ev (cfgR ro) 25 [v, .int .i64 (n : Nat)] h Q := numbers_ev W.s W.l W.w hn hq1 hq2
theorem strsOf_map : ∀ ws : List Str, strsOf (ws.map fun w => AVal.str w) = some ws
  | [] => rfl
  | w :: ws => by simp only [List.map_cons, strsOf, strsOf_map ws]
theorem flat_strs : ∀ ws : List Str, (ws.map fun w => [AVal.str w]).flatten = ws.map fun w => AVal.str w
  | [] => rfl
  | w :: ws => by simp only [List.map_cons, List.flatten_cons, flat_strs ws]; rfl
theorem WS.join_ev (W : WS ro h v ws) (hne : ws ≠ []) (hj : (Lib.join ws [32]).length ≤ 140737488355328) {Q : AVal → AHeap → Prop} (hq : Q (.str (Lib.join ws [32])) h) : Ev (cfgR ro) 46 [v, .str [32]] h Q := by
  rcases W.k with rfl | ⟨o, f, n, rfl⟩
  · have := W.s.len
    simp [lenA] at this
    exact (hne (List.length_eq_zero_iff.1 this.symm)).elim
  · have hl := W.s.len
    simp [lenA] at hl
    obtain ⟨z, vs, hg⟩ := W.s.room o f n rfl
    have hr := W.s.read
    rw [flat_strs, List.length_map] at hr
    have hn0 : ws.length ≠ 0 := fun e => hne (List.length_eq_zero_iff.1 e)
    unfold readSl at hr
    simp only [hn0, if_false, hg, Nat.mul_one] at hr
    unfold takeR at hr
    have hwl := W.l
    split at hr
    · rename_i hle
      injection hr with hr
      refine Ev.prim (v := .str (Lib.join ws [32])) (h' := h) rfl ?_ hq
      unfold joinP
      simp only [hg]
      rw [if_pos ⟨by omega, by omega⟩, hl, hr, strsOf_map]
      simp only []
      rw [if_pos hj]
    · cases hr
abbrev sIns : Str := [105, 110, 115, 101, 114, 116]
abbrev sDel : Str := [100, 101, 108, 101, 116, 101]
abbrev sMov : Str := [109, 111, 118, 101]
structure EdV where
  kind : Nat
  at_ : Nat
  to : Nat
  dest : Nat
  text : Str
def EdV.zero : EdV := ⟨0, 0, 0, 0, []⟩
def edA (e : EdV) : AVal := .agg [.int .i64 (e.kind : Nat), .int .i64 (e.at_ : Nat), .int .i64 (e.to : Nat), .int .i64 (e.dest : Nat), .str e.text]
def editF : List Str → Option EdV
  | w :: r => if w = sIns then (match r with
      | a :: b :: t => match numF a, unqS (Lib.join (b :: t) [32]) with
        | some n, some x => some ⟨1, n, 0, 0, x⟩
        | _, _ => none
      | _ => none)
    else if w = sDel then (match numsF r 2 with
      | some [a, b] => some ⟨2, a, b, 0, []⟩
      | _ => none)
    else if w = sMov then (match numsF r 3 with
      | some [a, b, c] => some ⟨3, a, b, c, []⟩
      | _ => none)
    else none
  | [] => none
theorem idxNS {ns : List Nat} (hs : NS (cfgR ro) h v ns) {k : IntKind} {i : Nat} (hi : i < ns.length) : indexAddrR Tryz.prog 73 v (.int k (i : Nat)) = .ok (elp v 1 i) :=
  hs.idx un73 sz3 (by simpa using hi)
theorem loadNS {ns : List Nat} (hs : NS (cfgR ro) h v ns) {i n : Nat} (hw : ns[i]? = some n) : loadR (cfgR ro) h 3 (elp v 1 i) = .ok (.int .i64 (n : Nat)) :=
  hs.load1 (e := [.int .i64 (n : Nat)]) (by rw [List.getElem?_map, hw]; rfl) rfl ag3
theorem numsF_len {l : List Str} {n : Nat} {ns : List Nat} (hn : numsF l n = some ns) : ns.length = n := by
  unfold numsF at hn
  split at hn
  · rename_i e
    rw [numsM_len hn, e]
  · cases hn
theorem numsF1 {l : List Str} {ns : List Nat} (hn : numsF l 1 = some ns) : ∃ x, ns = [x] := List.length_eq_one_iff.1 (numsF_len hn)
theorem numsF2 {l : List Str} {ns : List Nat} (hn : numsF l 2 = some ns) : ∃ x y, ns = [x, y] := by
  have := numsF_len hn
  match ns, this with
  | [x, y], _ => exact ⟨x, y, rfl⟩
theorem numsF3 {l : List Str} {ns : List Nat} (hn : numsF l 3 = some ns) : ∃ x y z, ns = [x, y, z] := by
  have := numsF_len hn
  match ns, this with
  | [x, y, z], _ => exact ⟨x, y, z, rfl⟩
theorem edit_ev (W : WS ro h v ws) (hj : (Lib.join (ws.drop 2) [32]).length < 2 ^ 30) {Q : AVal → AHeap → Prop} (hq1 : ∀ h' e, Old h h' → editF ws = some e → Q (.tuple [edA e, .bool true]) h') (hq2 : ∀ h' e, Old h h' → editF ws = none → Q (.tuple [edA e, .bool false]) h') :
    Ev (cfgR ro) 33 [v] h Q := by
  refine Ev.wp rfl rfl Tryz.func33 rfl ?_
  simp -implicitDefEqProofs [Tryz.f33, W.len]
  refine orD (fun c => ?_) (fun c => ?_)
  · simp -implicitDefEqProofs [c]
    exact hq2 _ EdV.zero (Old.refl h) (by rw [c]; rfl)
  · obtain ⟨w, r, rfl⟩ : ∃ w r, ws = w :: r := by cases ws with
      | nil => exact (c rfl).elim
      | cons w r => exact ⟨w, r, rfl⟩
    have e1 : indexAddrR Tryz.prog 67 v (.int .i64 0) = .ok (elp v 1 0) := W.ix (i := 0) (w := w) rfl
    have l1 := W.ld (i := 0) (w := w) rfl
    have hL := W.len
    have hrl : r.length < 2 ^ 30 := by have := W.l; simp at this; omega
    simp -implicitDefEqProofs [e1, l1]
    refine orD (fun c1 => ?_) (fun c1 => ?_)
    · simp -implicitDefEqProofs [c1, hL]
      refine orD (fun c2 => ?_) (fun c2 => ?_)
      · simp -implicitDefEqProofs [c1, c2]
        refine hq2 _ EdV.zero (Old.refl h) ?_
        show (if w = sIns then _ else _) = none
        rw [if_pos c1]
        rcases r with _ | ⟨a, _ | ⟨b, t⟩⟩
        · rfl
        · rfl
        · simp at c2; omega
      · obtain ⟨a, b, t, rfl⟩ : ∃ a b t, r = a :: b :: t := by
          rcases r with _ | ⟨a, _ | ⟨b, t⟩⟩
          · simp at c2
          · simp at c2
          · exact ⟨_, _, _, rfl⟩
        have e2 : indexAddrR Tryz.prog 67 v (.int .i64 1) = .ok (elp v 1 1) := W.ix (i := 1) (w := a) rfl
        have l2 := W.ld (i := 1) (w := a) rfl
        obtain ⟨v2, s2, W2⟩ := W.from_ (n := 2) (by simp) .i64
        have s2' : sliceSl h 1 v (some (.int .i64 2)) none none = .ok v2 := s2
        have hed : editF (w :: a :: b :: t) = (match numF a, unqS (Lib.join (b :: t) [32]) with
            | some n, some x => some ⟨1, n, 0, 0, x⟩
            | _, _ => none) := by
          show (if w = sIns then _ else _) = _
          rw [if_pos c1]
        have hj' : (Lib.join (b :: t) [32]).length < 2 ^ 30 := hj
        simp -implicitDefEqProofs [c1, c2, e2, l2]
        refine number_ev (W.w a (by simp)) (fun n hn => ?_) (fun hn => ?_)
        · simp -implicitDefEqProofs [s2']
          refine W2.join_ev (by simp) (by show (Lib.join (b :: t) [32]).length ≤ _; omega) ?_
          simp -implicitDefEqProofs
          refine unq_ev hj' (fun x h2 hx o2 => ?_) (fun h2 hx o2 => ?_)
          · simp -implicitDefEqProofs
            exact hq1 h2 ⟨1, n, 0, 0, x⟩ o2 (by rw [hed, hn, hx])
          · simp -implicitDefEqProofs
            exact hq2 h2 ⟨1, n, 0, 0, []⟩ o2 (by rw [hed, hn, hx])
        · simp -implicitDefEqProofs [s2']
          refine W2.join_ev (by simp) (by show (Lib.join (b :: t) [32]).length ≤ _; omega) ?_
          simp -implicitDefEqProofs
          refine unq_ev hj' (fun x h2 hx o2 => ?_) (fun h2 hx o2 => ?_)
          · simp -implicitDefEqProofs
            exact hq2 h2 ⟨1, 0, 0, 0, x⟩ o2 (by rw [hed, hn])
          · simp -implicitDefEqProofs
            exact hq2 h2 ⟨1, 0, 0, 0, []⟩ o2 (by rw [hed, hn])
    · simp -implicitDefEqProofs [c1]
      obtain ⟨v2, s2, W2⟩ := W.from_ (n := 1) (by simp) .i64
      have s2' : sliceSl h 1 v (some (.int .i64 1)) none none = .ok v2 := s2
      have W2 : WS ro h v2 r := W2
      refine orD (fun c2 => ?_) (fun c2 => ?_)
      · have hed : editF (w :: r) = (match numsF r 2 with
            | some [a, b] => some ⟨2, a, b, 0, []⟩
            | _ => none) := by
          show (if w = sIns then _ else if w = sDel then _ else _) = _
          rw [if_neg c1, if_pos c2]
        simp -implicitDefEqProofs [c1, c2, s2']
        refine W2.nums_ev (n := 2) (by decide) (fun v3 h3 ns o3 hns N3 => ?_) (fun h3 o3 hns => ?_)
        · obtain ⟨x, y, rfl⟩ := numsF2 hns
          have i0 : indexAddrR Tryz.prog 73 v3 (.int .i64 0) = .ok (elp v3 1 0) := idxNS N3 (i := 0) (by simp)
          have i1 : indexAddrR Tryz.prog 73 v3 (.int .i64 1) = .ok (elp v3 1 1) := idxNS N3 (i := 1) (by simp)
          have k0 := loadNS N3 (i := 0) (n := x) rfl
          have k1 := loadNS N3 (i := 1) (n := y) rfl
          simp -implicitDefEqProofs [i0, i1, k0, k1, same_self]
          exact hq1 h3 ⟨2, x, y, 0, []⟩ o3 (by rw [hed, hns])
        · simp -implicitDefEqProofs
          exact hq2 h3 EdV.zero o3 (by rw [hed, hns])
      · simp -implicitDefEqProofs [c1, c2]
        refine orD (fun c3 => ?_) (fun c3 => ?_)
        · have hed : editF (w :: r) = (match numsF r 3 with
              | some [a, b, c] => some ⟨3, a, b, c, []⟩
              | _ => none) := by
            show (if w = sIns then _ else if w = sDel then _ else if w = sMov then _ else _) = _
            rw [if_neg c1, if_neg c2, if_pos c3]
          simp -implicitDefEqProofs [c1, c2, c3, s2']
          refine W2.nums_ev (n := 3) (by decide) (fun v3 h3 ns o3 hns N3 => ?_) (fun h3 o3 hns => ?_)
          · obtain ⟨x, y, z, rfl⟩ := numsF3 hns
            have i0 : indexAddrR Tryz.prog 73 v3 (.int .i64 0) = .ok (elp v3 1 0) := idxNS N3 (i := 0) (by simp)
            have i1 : indexAddrR Tryz.prog 73 v3 (.int .i64 1) = .ok (elp v3 1 1) := idxNS N3 (i := 1) (by simp)
            have i2 : indexAddrR Tryz.prog 73 v3 (.int .i64 2) = .ok (elp v3 1 2) := idxNS N3 (i := 2) (by simp)
            have k0 := loadNS N3 (i := 0) (n := x) rfl
            have k1 := loadNS N3 (i := 1) (n := y) rfl
            have k2 := loadNS N3 (i := 2) (n := z) rfl
            simp -implicitDefEqProofs [i0, i1, i2, k0, k1, k2, same_self]
            exact hq1 h3 ⟨3, x, y, z, []⟩ o3 (by rw [hed, hns])
          · simp -implicitDefEqProofs
            exact hq2 h3 EdV.zero o3 (by rw [hed, hns])
        · simp -implicitDefEqProofs [c1, c2, c3]
          refine hq2 h EdV.zero (Old.refl h) ?_
          show (if w = sIns then _ else if w = sDel then _ else if w = sMov then _ else _) = _
          rw [if_neg c1, if_neg c2, if_neg c3]
end
end Go.Proofs.YtofnbldbggddmaaGreatDoor
set_option linter.all false
set_option maxRecDepth 100000
set_option maxHeartbeats 4000000
namespace Go.Proofs.YtofnbldbggddmaaGreatDoor
open Go Go.RowKit Go.Proofs
abbrev sFlip : Str := [102, 108, 105, 112]
abbrev sCut : Str := [99, 117, 116]
abbrev sTail : Str := [116, 97, 105, 108]
structure HmV where
  kind : Nat
  at_ : Nat
  bits : Nat
  more : Str
def HmV.zero : HmV := ⟨0, 0, 0, []⟩
def hmA (e : HmV) (v : AVal) : AVal := .agg [.int .i64 (e.kind : Nat), .int .i64 (e.at_ : Nat), .int .u32 (e.bits : Nat), v]
def bitsF (l : Str) : Nat := l.foldl (fun a c => a * 256 + c.toNat) 0
theorem bitsF_snoc (l : Str) (c : UInt8) : bitsF (l ++ [c]) = bitsF l * 256 + c.toNat := by unfold bitsF; rw [List.foldl_append]; rfl
theorem bitsF_lt : ∀ (n : Nat) (l : Str), l.length = n → bitsF l < 256 ^ n
  | 0, l, h => by rw [List.length_eq_zero_iff.1 h]; decide
  | n + 1, l, h => by
    have hne : l ≠ [] := by rintro rfl; cases h
    obtain ⟨A, z, rfl⟩ : ∃ A z, l = A ++ [z] := ⟨l.dropLast, l.getLast hne, (List.dropLast_concat_getLast hne).symm⟩
    have ih := bitsF_lt n A (by simpa using h)
    have hz := z.toNat_lt
    rw [bitsF_snoc, Nat.pow_succ]
    omega
theorem ofInt_w (x : BitVec 32) : BitVec.ofInt 32 (x.toNat : Int) = x := by
  apply BitVec.eq_of_toNat_eq
  simp
theorem wrap_w (x : BitVec 32) : IntKind.u32.wrap (x.toNat : Int) = x.toNat := by
  have := x.isLt
  rw [wrap32]; omega
theorem ior_w (x y : BitVec 32) : ior .u32 (x.toNat : Int) (y.toNat : Int) = (x ||| y).toNat := by
  unfold ior
  show IntKind.u32.wrap ((BitVec.ofInt 32 (x.toNat : Int) ||| BitVec.ofInt 32 (y.toNat : Int)).toNat : Int) = _
  rw [ofInt_w, ofInt_w, wrap_w]
theorem ishl_w (x : BitVec 32) (n : Nat) (hn : n ≤ 32) : ishl .u32 (x.toNat : Int) (n : Int) = (x <<< n).toNat := by
  unfold ishl
  show IntKind.u32.wrap ((x.toNat : Int) * 2 ^ (min (n : Int).toNat 32)) = _
  have h1 : min (n : Int).toNat 32 = n := by simp; omega
  rw [h1, BitVec.toNat_shiftLeft, Nat.shiftLeft_eq, wrap32]
  simp
theorem or32 {a : Nat} (ha : a < 2 ^ 24) (c : UInt8) : ior .u32 (ishl .u32 (a : Int) 8) (c.toNat : Int) = ((a * 256 + c.toNat : Nat) : Int) := by
  have hc := c.toNat_lt
  have e1 : (a : Int) = ((BitVec.ofNat 32 a).toNat : Int) := by rw [BitVec.toNat_ofNat, Nat.mod_eq_of_lt (by omega)]
  have e2 : (c.toNat : Int) = ((BitVec.ofNat 32 c.toNat).toNat : Int) := by rw [BitVec.toNat_ofNat, Nat.mod_eq_of_lt (by omega)]
  rw [e1, show (8 : Int) = ((8 : Nat) : Int) from rfl, ishl_w _ 8 (by decide), e2, ior_w]
  rw [BitVec.toNat_or, BitVec.toNat_shiftLeft]
  have h1 : (BitVec.ofNat 32 a).toNat = a := by rw [BitVec.toNat_ofNat, Nat.mod_eq_of_lt (by omega)]
  have h2 : (BitVec.ofNat 32 c.toNat).toNat = c.toNat := by rw [BitVec.toNat_ofNat, Nat.mod_eq_of_lt (by omega)]
  rw [h1, h2, Nat.mod_eq_of_lt (by rw [Nat.shiftLeft_eq]; omega), ← Nat.shiftLeft_add_eq_or_of_lt (by omega), Nat.shiftLeft_eq]
def harmF : List Str → Option HmV
  | [] => some HmV.zero
  | [w, a, b] => if w = sFlip ∧ b.length = 8 then (match numF a, hexF b with
      | some n, some x => some ⟨1, n, bitsF x, []⟩
      | _, _ => none) else none
  | [w, a] => if w = sCut then (match numF a with
      | some n => some ⟨2, n, 0, []⟩
      | none => none)
    else if w = sTail then (match hexF a with
      | some x => some ⟨3, 0, 0, x⟩
      | none => none)
    else none
  | _ => none
section
variable {ro : Nat → Option (List AVal)} {h : AHeap} {v : AVal} {ws : List Str}
theorem lenBS {v : AVal} {l : Str} (hs : BS (cfgR ro) h v l) : lenR (cfgR ro) h 36 v = .ok (.int .i64 (l.length : Nat)) := hs.lenR un36
theorem number_ev2 {s : Str} (hs : s.length < 2 ^ 30) {Q : AVal → AHeap → Prop} (hq : ∀ (n : Nat) (ok : Bool), (numF s = if ok then some n else none) → Q (.tuple [.int .i64 (n : Nat), .bool ok]) h) : Ev (cfgR ro) 35 [.str s] h Q :=
  number_ev hs (fun n hn => hq n true hn) (fun hn => hq 0 false hn)
theorem hexed_ev2 {s : Str} (hs : s.length < 2 ^ 30) {Q : AVal → AHeap → Prop} (hq : ∀ v' h' (t : Str) (ok : Bool), Old h h' → (hexF s = if ok then some t else none) → BS (cfgR ro) h' v' t → cellsV v' = .ok [v'] → (ok = false → t = []) → Q (.tuple [v', .bool ok]) h') : Ev (cfgR ro) 47 [.str s] h Q :=
  hexed_ev hs (fun v' h' t o ht b c => hq v' h' t true o ht b c (fun e => by cases e)) (fun h' o ht => hq .nils h' [] false o ht BS.nil rfl (fun _ => rfl))
theorem harm_ev (W : WS ro h v ws) {Q : AVal → AHeap → Prop} (hq1 : ∀ h' e x, Old h h' → harmF ws = some e → BS (cfgR ro) h' x e.more → cellsV x = .ok [x] → Q (.tuple [hmA e x, .bool true]) h') (hq2 : ∀ h' e x, Old h h' → harmF ws = none → cellsV x = .ok [x] → Q (.tuple [hmA e x, .bool false]) h') :
    Ev (cfgR ro) 34 [v] h Q := by
  refine Ev.wp rfl rfl Tryz.func34 rfl ?_
  have hL := W.len
  simp -implicitDefEqProofs [Tryz.f34, hL]
  refine orD (fun c => ?_) (fun c => ?_)
  · simp -implicitDefEqProofs [c]
    exact hq1 _ HmV.zero .nils (Old.refl h) (by rw [c]; rfl) BS.nil rfl
  · obtain ⟨w, r, rfl⟩ : ∃ w r, ws = w :: r := by cases ws with
      | nil => exact (c rfl).elim
      | cons w r => exact ⟨w, r, rfl⟩
    have e1 : indexAddrR Tryz.prog 67 v (.int .i64 0) = .ok (elp v 1 0) := W.ix (i := 0) (w := w) rfl
    have l1 := W.ld (i := 0) (w := w) rfl
    rcases r with _ | ⟨a, _ | ⟨b, _ | ⟨d, t⟩⟩⟩
    · simp -implicitDefEqProofs [e1, l1]
      refine orD (fun c1 => ?_) (fun c1 => ?_)
      · simp -implicitDefEqProofs [c1, e1, l1, hL]
        exact hq2 _ HmV.zero .nils (Old.refl h) rfl rfl
      · simp -implicitDefEqProofs [c1, e1, l1, hL]
        refine orD (fun c2 => ?_) (fun c2 => ?_)
        · simp -implicitDefEqProofs [c1, c2, e1, l1, hL]
          exact hq2 _ HmV.zero .nils (Old.refl h) rfl rfl
        · simp -implicitDefEqProofs [c1, c2, e1, l1, hL]
          refine orD (fun c3 => ?_) (fun c3 => ?_)
          · simp -implicitDefEqProofs [c1, c2, c3, e1, l1, hL]
            exact hq2 _ HmV.zero .nils (Old.refl h) rfl rfl
          · simp -implicitDefEqProofs [c1, c2, c3, e1, l1, hL]
            exact hq2 _ HmV.zero .nils (Old.refl h) rfl rfl
    · have e2 : indexAddrR Tryz.prog 67 v (.int .i64 1) = .ok (elp v 1 1) := W.ix (i := 1) (w := a) rfl
      have l2 := W.ld (i := 1) (w := a) rfl
      have ha := W.w a (by simp)
      simp -implicitDefEqProofs [e1, l1]
      refine orD (fun c1 => ?_) (fun c1 => ?_)
      · simp -implicitDefEqProofs [c1, e1, l1, hL]
        refine hq2 _ HmV.zero .nils (Old.refl h) ?_ rfl
        subst c1; rfl
      · simp -implicitDefEqProofs [c1, e1, l1, hL]
        refine orD (fun c2 => ?_) (fun c2 => ?_)
        · simp -implicitDefEqProofs [c1, c2, e1, l1, hL, e2, l2]
          have hh : harmF [w, a] = (match numF a with
              | some n => some ⟨2, n, 0, []⟩
              | none => none) := by
            show (if w = sCut then _ else _) = _
            rw [if_pos c2]
          refine number_ev ha (fun n hn => ?_) (fun hn => ?_)
          · simp -implicitDefEqProofs
            exact hq1 h ⟨2, n, 0, []⟩ .nils (Old.refl h) (by rw [hh, hn]) BS.nil rfl
          · simp -implicitDefEqProofs
            exact hq2 h ⟨2, 0, 0, []⟩ .nils (Old.refl h) (by rw [hh, hn]) rfl
        · simp -implicitDefEqProofs [c1, c2, e1, l1, hL]
          refine orD (fun c3 => ?_) (fun c3 => ?_)
          · simp -implicitDefEqProofs [c1, c2, c3, e1, l1, hL, e2, l2]
            have hh : harmF [w, a] = (match hexF a with
                | some x => some ⟨3, 0, 0, x⟩
                | none => none) := by
              show (if w = sCut then _ else if w = sTail then _ else _) = _
              rw [if_neg c2, if_pos c3]
            refine hexed_ev ha (fun x h2 t o2 hx bx cx => ?_) (fun h2 o2 hx => ?_)
            · simp -implicitDefEqProofs [cx]
              exact hq1 h2 ⟨3, 0, 0, t⟩ x o2 (by rw [hh, hx]) bx cx
            · simp -implicitDefEqProofs
              exact hq2 h2 ⟨3, 0, 0, []⟩ .nils o2 (by rw [hh, hx]) rfl
          · simp -implicitDefEqProofs [c1, c2, c3, e1, l1, hL]
            refine hq2 _ HmV.zero .nils (Old.refl h) ?_ rfl
            show (if w = sCut then _ else if w = sTail then _ else _) = _
            rw [if_neg c2, if_neg c3]
    · have e2 : indexAddrR Tryz.prog 67 v (.int .i64 1) = .ok (elp v 1 1) := W.ix (i := 1) (w := a) rfl
      have l2 := W.ld (i := 1) (w := a) rfl
      have e3 : indexAddrR Tryz.prog 67 v (.int .i64 2) = .ok (elp v 1 2) := W.ix (i := 2) (w := b) rfl
      have l3 := W.ld (i := 2) (w := b) rfl
      have ha := W.w a (by simp)
      have hb := W.w b (by simp)
      simp -implicitDefEqProofs [e1, l1]
      have last : ∀ x : ¬ (w = sFlip ∧ b.length = 8), harmF [w, a, b] = none := fun x => by
        show (if w = sFlip ∧ b.length = 8 then _ else _) = _
        rw [if_neg x]
      refine orD (fun c1 => ?_) (fun c1 => ?_)
      · simp -implicitDefEqProofs [c1, e1, l1, hL, e3, l3]
        refine orD (fun c2 => ?_) (fun c2 => ?_)
        · simp -implicitDefEqProofs [c1, c2, e1, l1, hL, e2, l2, e3, l3]
          have hh : harmF [w, a, b] = (match numF a, hexF b with
              | some n, some x => some ⟨1, n, bitsF x, []⟩
              | _, _ => none) := by
            show (if w = sFlip ∧ b.length = 8 then _ else _) = _
            rw [if_pos ⟨c1, by omega⟩]
          refine number_ev2 ha (fun n ok hn => ?_)
          simp -implicitDefEqProofs [e3, l3]
          refine hexed_ev2 hb (fun x h2 t is o2 hx bx cx hi => ?_)
          have hxl : t.length ≤ 4 := by
            cases is with
            | false => rw [hi rfl]; decide
            | true =>
              have hx' : hexF b = some t := hx
              unfold hexF at hx'
              split at hx'
              · cases hx'
              · have := hexP_len hx'; omega
          have hLx := lenBS bx
          simp -implicitDefEqProofs [hLx]
          obtain ⟨I, hI⟩ : ∃ I : Nat → List AVal → AHeap → Prop, I = fun m env h' => h' = h2 ∧ ∃ (i : Nat), i + m = t.length ∧
            env = (.dead :: .dead :: .cell [.int .i64 0, .int .i64 0, .int .u32 0, .nils] :: .dead :: .dead :: .bool ok :: .dead :: .bool is :: .cell [.int .i64 1, .int .i64 (n : Nat), .int .u32 (bitsF (t.take i) : Nat), .nils] :: .dead :: .dead :: .dead :: .dead :: .dead :: .dead :: .dead :: .dead :: .dead :: .dead :: .dead :: .dead :: .dead :: .dead :: .dead :: .dead :: .dead :: .dead :: .dead :: .dead :: .dead :: .dead :: .dead :: .dead :: .dead :: .dead :: .dead :: .dead :: .dead :: .dead :: .dead :: .dead :: .dead :: .dead :: .dead :: .dead :: .dead :: .dead :: .dead :: .dead :: .dead :: .dead :: .dead :: .dead :: x :: .int .i64 (t.length : Nat) :: .int .i64 (i : Nat) :: .dead :: .dead :: .dead :: .dead :: .dead :: .dead :: .dead :: .dead :: .dead :: .dead :: .dead :: .dead :: .dead :: .dead :: .dead :: .dead :: .dead :: .dead :: .dead :: .dead :: .dead :: .dead :: .dead :: .dead :: .dead :: .dead :: .dead :: .dead :: .dead :: .dead :: .dead :: .dead :: .dead :: .dead :: .dead :: .dead :: .dead :: .dead :: .dead :: .dead :: .dead :: .dead :: .dead :: .dead :: .dead :: .dead :: .dead :: .dead :: .dead :: .dead :: .dead :: .dead :: .dead :: .dead :: .dead :: .dead :: .dead :: []) := ⟨_, rfl⟩
          refine loop_of I ?_ t.length (by rw [hI]; exact ⟨rfl, 0, by omega, rfl⟩)
          intro m env h' hi2
          rw [hI] at hi2
          obtain ⟨rfl, i, him, rfl⟩ := hi2
          by_cases hlt : i < t.length
          · have w1 : IntKind.i64.wrap ((i : Int) + 1) = ((i + 1 : Nat) : Int) := by rw [w64 (by omega) (by omega)]; omega
            have ei := bx.idx (k := .i64) un36 sz5 hlt
            have li := bx.load (t := 5) hlt ag5
            have hsn := bitsF_snoc (t.take i) t[i]
            have ht1 : t.take (i + 1) = t.take i ++ [t[i]] := List.take_succ_eq_append_getElem hlt
            have hbl := bitsF_lt i (t.take i) (by rw [List.length_take]; omega)
            have hb24 : bitsF (t.take i) < 2 ^ 24 := Nat.lt_of_lt_of_le hbl (by
              have : i ≤ 3 := by omega
              exact Nat.le_trans (Nat.pow_le_pow_right (by decide) this) (by decide))
            obtain ⟨z, hz⟩ : ∃ z, z = bitsF (t.take i) := ⟨_, rfl⟩
            rw [← hz] at hsn hb24 ⊢
            obtain ⟨cc, hcc⟩ : ∃ cc, cc = t[i] := ⟨_, rfl⟩
            rw [← hcc] at li hsn ht1
            have eo := or32 hb24 cc
            have ec : IntKind.u32.wrap (cc.toNat : Int) = (cc.toNat : Int) := by rw [wrap32]; have := cc.toNat_lt; omega
            obtain ⟨z2, hz2⟩ : ∃ z2, z2 = z * 256 + cc.toNat := ⟨_, rfl⟩
            rw [← hz2] at eo hsn
            simp -implicitDefEqProofs [hlt, ei, li, eo, ec, w1]
            exact .mk (m := m - 1) (by omega) (by rw [hI]; exact ⟨rfl, i + 1, by omega, by rw [ht1, hsn]; rfl⟩)
          · have hti : t.take i = t := List.take_of_length_le (by omega)
            rw [hti]
            cases ok with
            | false =>
              simp -implicitDefEqProofs [hlt]
              exact hq2 h' ⟨1, n, bitsF t, []⟩ .nils o2 (by rw [hh, hn]; rfl) rfl
            | true => cases is with
              | false =>
                simp -implicitDefEqProofs [hlt]
                exact hq2 h' ⟨1, n, bitsF t, []⟩ .nils o2 (by rw [hh, hn, hx]; rfl) rfl
              | true =>
                simp -implicitDefEqProofs [hlt]
                exact hq1 h' ⟨1, n, bitsF t, []⟩ .nils o2 (by rw [hh, hn, hx]; rfl) BS.nil rfl
        · simp -implicitDefEqProofs [c1, c2, e1, l1, hL]
          exact hq2 _ HmV.zero .nils (Old.refl h) (last (fun x => by omega)) rfl
      · simp -implicitDefEqProofs [c1, e1, l1, hL]
        refine orD (fun c2 => ?_) (fun c2 => ?_)
        · simp -implicitDefEqProofs [c1, c2, e1, l1, hL]
          exact hq2 _ HmV.zero .nils (Old.refl h) (last (fun x => c1 x.1)) rfl
        · simp -implicitDefEqProofs [c1, c2, e1, l1, hL]
          refine orD (fun c3 => ?_) (fun c3 => ?_)
          · simp -implicitDefEqProofs [c1, c2, c3, e1, l1, hL]
            exact hq2 _ HmV.zero .nils (Old.refl h) (last (fun x => c1 x.1)) rfl
          · simp -implicitDefEqProofs [c1, c2, c3, e1, l1, hL]
            exact hq2 _ HmV.zero .nils (Old.refl h) (last (fun x => c1 x.1)) rfl
    · have n3 : ¬ ((t.length : Int) + 1 + 1 + 1 + 1 = 3) := by omega
      have n2 : ¬ ((t.length : Int) + 1 + 1 + 1 + 1 = 2) := by omega
      simp -implicitDefEqProofs [e1, l1]
      refine orD (fun c1 => ?_) (fun c1 => ?_)
      · simp -implicitDefEqProofs [c1, e1, l1, hL, n3, n2]
        exact hq2 _ HmV.zero .nils (Old.refl h) rfl rfl
      · simp -implicitDefEqProofs [c1, e1, l1, hL, n3, n2]
        refine orD (fun c2 => ?_) (fun c2 => ?_)
        · simp -implicitDefEqProofs [c1, c2, e1, l1, hL, n3, n2]
          exact hq2 _ HmV.zero .nils (Old.refl h) rfl rfl
        · simp -implicitDefEqProofs [c1, c2, e1, l1, hL, n3, n2]
          refine orD (fun c3 => ?_) (fun c3 => ?_)
          · simp -implicitDefEqProofs [c1, c2, c3, e1, l1, hL, n3, n2]
            exact hq2 _ HmV.zero .nils (Old.refl h) rfl rfl
          · simp -implicitDefEqProofs [c1, c2, c3, e1, l1, hL, n3, n2]
            exact hq2 _ HmV.zero .nils (Old.refl h) rfl rfl
end
end Go.Proofs.YtofnbldbggddmaaGreatDoor
set_option linter.all false
set_option maxRecDepth 100000
set_option maxHeartbeats 4000000
namespace Go.Proofs.YtofnbldbggddmaaGreatDoor
open Go Go.RowKit Go.Proofs
structure StV where
  kind : Nat
  at_ : Nat
  user : Nat
  k : Nat
  ed : Option EdV
  hm : HmV
def StV.zero : StV := ⟨0, 0, 0, 0, none, HmV.zero⟩
def stA (s : StV) (ev hv : AVal) : AVal := .agg [.int .i64 (s.kind : Nat), .int .i64 (s.at_ : Nat), .int .i64 (s.user : Nat), .int .i64 (s.k : Nat), ev, .int .i64 (s.hm.kind : Nat), .int .i64 (s.hm.at_ : Nat), .int .u32 (s.hm.bits : Nat), hv]
def edc (e : EdV) : List AVal := [.int .i64 (e.kind : Nat), .int .i64 (e.at_ : Nat), .int .i64 (e.to : Nat), .int .i64 (e.dest : Nat), .str e.text]
/-- a step's slices -/
structure StOk (ro : Nat → Option (List AVal)) (h : AHeap) (s : StV) (ev hv : AVal) : Prop where
  e : Sl (cfgR ro) h 5 ev (s.ed.toList.map edc)
  ce : cellsV ev = .ok [ev]
  m : BS (cfgR ro) h hv s.hm.more
  cm : cellsV hv = .ok [hv]
def stepF (kind : Nat) (l : List Str) : Option StV :=
  if kind = 6 then (if l.length < 1 then none else match numsF (l.take 1) 1 with
    | some [a] => if l.drop 1 = [] then some ⟨6, a, 0, 0, none, HmV.zero⟩ else none
    | _ => none)
  else if l.length < 2 then none else match numsF (l.take 2) 2 with
    | some [a, b] => if kind = 1 then (match editF (l.drop 2) with
          | some e => some ⟨1, a, b, 0, some e, HmV.zero⟩
          | none => none)
        else if kind = 4 then (match harmF (l.drop 2) with
          | some m => some ⟨4, a, 0, b, none, m⟩
          | none => none)
        else if l.drop 2 = [] then some ⟨kind, a, if kind ≤ 3 then b else 0, if kind ≤ 3 then 0 else b, none, HmV.zero⟩ else none
    | _ => none
section
variable {ro : Nat → Option (List AVal)} {h : AHeap} {v : AVal} {ws : List Str}
theorem StOk.nil {k a b c : Nat} : StOk ro h ⟨k, a, b, c, none, HmV.zero⟩ .nils .nils := ⟨Sl.nil, rfl, BS.nil, rfl⟩
theorem one_sl {c : Cfg} {h : AHeap} {sz : Nat} (e : List AVal) (he : e.length = sz) : Sl c (h.push (.row sz false e)) sz (.sl h.next 0 1) [e] := by
  refine ⟨rfl, (fun s h => by cases h), fun _ => ⟨e, 0, by simp [rowOf, get_push_next], fun i x hx => ?_⟩, by simp [lowV], (fun o f n hv => by cases hv; exact ⟨_, _, get_push_next _ _⟩)⟩
  cases i with
  | zero =>
    cases hx
    refine ⟨he, ?_⟩
    unfold takeR
    rw [if_pos (by simp; omega)]
    simp [← he]
  | succ i => simp at hx
theorem step6_ev (W : WS ro h v ws) (hj : (Lib.join (ws.drop 4) [32]).length < 2 ^ 30) {Q : AVal → AHeap → Prop} (hq1 : ∀ h' s ev hv, Old h h' → stepF 6 ws = some s → StOk ro h' s ev hv → Q (.tuple [stA s ev hv, .bool true]) h')
    (hq2 : ∀ h' s ev hv, Old h h' → stepF 6 ws = none → cellsV ev = .ok [ev] → cellsV hv = .ok [hv] → Q (.tuple [stA s ev hv, .bool false]) h') : Ev (cfgR ro) 24 [.int .i64 6, v] h Q := by
  have hL := W.len
  refine Ev.wp rfl rfl Tryz.func24 rfl ?_
  simp -implicitDefEqProofs [Tryz.f24, hL]
  refine orD (fun c1 => ?_) (fun c1 => ?_)
  · simp -implicitDefEqProofs [c1]
    exact hq2 _ ⟨6, 0, 0, 0, none, HmV.zero⟩ .nils .nils (Old.refl h) (by unfold stepF; rw [if_pos rfl, if_pos (by omega)]) rfl rfl
  · obtain ⟨v1, s1, W1⟩ := W.upto (n := 1) (by omega) .i64
    have s1' : sliceSl h 1 v none (some (.int .i64 1)) none = .ok v1 := s1
    simp -implicitDefEqProofs [c1, s1']
    refine W1.nums_ev (n := 1) (by decide) (fun v3 h3 ns o3 hns N3 => ?_) (fun h3 o3 hns => ?_)
    · obtain ⟨x, rfl⟩ := numsF1 hns
      have i0 : indexAddrR Tryz.prog 73 v3 (.int .i64 0) = .ok (elp v3 1 0) := idxNS N3 (i := 0) (by simp)
      have k0 := loadNS N3 (i := 0) (n := x) rfl
      obtain ⟨v4, s4, W4⟩ := (W.old o3).from_ (n := 1) (by omega) .i64
      have s4' : sliceSl h3 1 v (some (.int .i64 1)) none none = .ok v4 := s4
      have hL4 := W4.len
      have hst : stepF 6 ws = (if ws.drop 1 = [] then some ⟨6, x, 0, 0, none, HmV.zero⟩ else none) := by
        unfold stepF; rw [if_pos rfl, if_neg (by omega), hns]
      simp -implicitDefEqProofs [i0, k0, s4', hL4, same_self]
      by_cases hd : ws.drop 1 = []
      · rw [decide_eq_true (by have := List.drop_eq_nil_iff.1 hd; omega)]
        exact hq1 h3 ⟨6, x, 0, 0, none, HmV.zero⟩ .nils .nils o3 (by rw [hst, if_pos hd]) StOk.nil
      · rw [decide_eq_false (fun e => hd (List.drop_eq_nil_iff.2 (by omega)))]
        exact hq2 h3 ⟨6, x, 0, 0, none, HmV.zero⟩ .nils .nils o3 (by rw [hst, if_neg hd]) rfl rfl
    · simp -implicitDefEqProofs 
      exact hq2 h3 ⟨6, 0, 0, 0, none, HmV.zero⟩ .nils .nils o3 (by unfold stepF; rw [if_pos rfl, if_neg (by omega), hns]) rfl rfl
theorem step1_ev (W : WS ro h v ws) (hj : (Lib.join (ws.drop 4) [32]).length < 2 ^ 30) {Q : AVal → AHeap → Prop} (hq1 : ∀ h' s ev hv, Old h h' → stepF 1 ws = some s → StOk ro h' s ev hv → Q (.tuple [stA s ev hv, .bool true]) h')
    (hq2 : ∀ h' s ev hv, Old h h' → stepF 1 ws = none → cellsV ev = .ok [ev] → cellsV hv = .ok [hv] → Q (.tuple [stA s ev hv, .bool false]) h') : Ev (cfgR ro) 24 [.int .i64 1, v] h Q := by
  have hL := W.len
  refine Ev.wp rfl rfl Tryz.func24 rfl ?_
  simp -implicitDefEqProofs [Tryz.f24, hL]
  refine orD (fun c1 => ?_) (fun c1 => ?_)
  · simp -implicitDefEqProofs [c1]
    exact hq2 _ ⟨1, 0, 0, 0, none, HmV.zero⟩ .nils .nils (Old.refl h) (by unfold stepF; rw [if_neg (by decide), if_pos (by omega)]) rfl rfl
  · obtain ⟨v1, s1, W1⟩ := W.upto (n := 2) (by omega) .i64
    have s1' : sliceSl h 1 v none (some (.int .i64 2)) none = .ok v1 := s1
    simp -implicitDefEqProofs [c1, s1']
    refine W1.nums_ev (n := 2) (by decide) (fun v3 h3 ns o3 hns N3 => ?_) (fun h3 o3 hns => ?_)
    · obtain ⟨x, y, rfl⟩ := numsF2 hns
      have i0 : indexAddrR Tryz.prog 73 v3 (.int .i64 0) = .ok (elp v3 1 0) := idxNS N3 (i := 0) (by simp)
      have k0 := loadNS N3 (i := 0) (n := x) rfl
      have i1 : indexAddrR Tryz.prog 73 v3 (.int .i64 1) = .ok (elp v3 1 1) := idxNS N3 (i := 1) (by simp)
      have k1 := loadNS N3 (i := 1) (n := y) rfl
      obtain ⟨v4, s4, W4⟩ := (W.old o3).from_ (n := 2) (by omega) .i64
      have s4' : sliceSl h3 1 v (some (.int .i64 2)) none none = .ok v4 := s4
      have hL4 := W4.len
      have hst : stepF 1 ws = (match editF (ws.drop 2) with | some e => some ⟨1, x, y, 0, some e, HmV.zero⟩ | none => none) := by
        unfold stepF; rw [if_neg (by decide), if_neg (by omega), hns]; rfl
      simp -implicitDefEqProofs [i0, k0, s4']
      refine edit_ev W4 (by rw [List.drop_drop]; exact hj) (fun h5 e o5 he => ?_) (fun h5 e o5 he => ?_)
      · have k1' := loadNS (N3.old o5) (i := 1) (n := y) rfl
        have Sx : StOk ro (h5.push (.row 5 false (edc e))) ⟨1, x, y, 0, some e, HmV.zero⟩ (.sl h5.next 0 1) .nils := ⟨one_sl (edc e) rfl, rfl, BS.nil, rfl⟩
        unfold edc at Sx
        simp -implicitDefEqProofs [edA, i1, k1', buildSliceR, reps, same_self]
        exact hq1 _ _ _ _ ((o3.trans o5).push _) (by rw [hst, he]) Sx
      · have k1' := loadNS (N3.old o5) (i := 1) (n := y) rfl
        have Sx : StOk ro (h5.push (.row 5 false (edc e))) ⟨1, x, y, 0, some e, HmV.zero⟩ (.sl h5.next 0 1) .nils := ⟨one_sl (edc e) rfl, rfl, BS.nil, rfl⟩
        unfold edc at Sx
        simp -implicitDefEqProofs [edA, i1, k1', buildSliceR, reps, same_self]
        exact hq2 _ ⟨1, x, y, 0, some e, HmV.zero⟩ (.sl h5.next 0 1) .nils ((o3.trans o5).push _) (by rw [hst, he]) rfl rfl
    · simp -implicitDefEqProofs 
      exact hq2 h3 ⟨1, 0, 0, 0, none, HmV.zero⟩ .nils .nils o3 (by unfold stepF; rw [if_neg (by decide), if_neg (by omega), hns]) rfl rfl
theorem step2_ev (W : WS ro h v ws) (hj : (Lib.join (ws.drop 4) [32]).length < 2 ^ 30) {Q : AVal → AHeap → Prop} (hq1 : ∀ h' s ev hv, Old h h' → stepF 2 ws = some s → StOk ro h' s ev hv → Q (.tuple [stA s ev hv, .bool true]) h')
    (hq2 : ∀ h' s ev hv, Old h h' → stepF 2 ws = none → cellsV ev = .ok [ev] → cellsV hv = .ok [hv] → Q (.tuple [stA s ev hv, .bool false]) h') : Ev (cfgR ro) 24 [.int .i64 2, v] h Q := by
  have hL := W.len
  refine Ev.wp rfl rfl Tryz.func24 rfl ?_
  simp -implicitDefEqProofs [Tryz.f24, hL]
  refine orD (fun c1 => ?_) (fun c1 => ?_)
  · simp -implicitDefEqProofs [c1]
    exact hq2 _ ⟨2, 0, 0, 0, none, HmV.zero⟩ .nils .nils (Old.refl h) (by unfold stepF; rw [if_neg (by decide), if_pos (by omega)]) rfl rfl
  · obtain ⟨v1, s1, W1⟩ := W.upto (n := 2) (by omega) .i64
    have s1' : sliceSl h 1 v none (some (.int .i64 2)) none = .ok v1 := s1
    simp -implicitDefEqProofs [c1, s1']
    refine W1.nums_ev (n := 2) (by decide) (fun v3 h3 ns o3 hns N3 => ?_) (fun h3 o3 hns => ?_)
    · obtain ⟨x, y, rfl⟩ := numsF2 hns
      have i0 : indexAddrR Tryz.prog 73 v3 (.int .i64 0) = .ok (elp v3 1 0) := idxNS N3 (i := 0) (by simp)
      have k0 := loadNS N3 (i := 0) (n := x) rfl
      have i1 : indexAddrR Tryz.prog 73 v3 (.int .i64 1) = .ok (elp v3 1 1) := idxNS N3 (i := 1) (by simp)
      have k1 := loadNS N3 (i := 1) (n := y) rfl
      obtain ⟨v4, s4, W4⟩ := (W.old o3).from_ (n := 2) (by omega) .i64
      have s4' : sliceSl h3 1 v (some (.int .i64 2)) none none = .ok v4 := s4
      have hL4 := W4.len
      have hst : stepF 2 ws = (if ws.drop 2 = [] then some ⟨2, x, y, 0, none, HmV.zero⟩ else none) := by
        unfold stepF; rw [if_neg (by decide), if_neg (by omega), hns]; rfl
      simp -implicitDefEqProofs [i0, k0, s4', hL4, i1, k1, same_self]
      by_cases hd : ws.drop 2 = []
      · rw [decide_eq_true (by have := List.drop_eq_nil_iff.1 hd; omega)]
        exact hq1 h3 ⟨2, x, y, 0, none, HmV.zero⟩ .nils .nils o3 (by rw [hst, if_pos hd]) StOk.nil
      · rw [decide_eq_false (fun e => hd (List.drop_eq_nil_iff.2 (by omega)))]
        exact hq2 h3 ⟨2, x, y, 0, none, HmV.zero⟩ .nils .nils o3 (by rw [hst, if_neg hd]) rfl rfl
    · simp -implicitDefEqProofs 
      exact hq2 h3 ⟨2, 0, 0, 0, none, HmV.zero⟩ .nils .nils o3 (by unfold stepF; rw [if_neg (by decide), if_neg (by omega), hns]) rfl rfl
theorem step3_ev (W : WS ro h v ws) (hj : (Lib.join (ws.drop 4) [32]).length < 2 ^ 30) {Q : AVal → AHeap → Prop} (hq1 : ∀ h' s ev hv, Old h h' → stepF 3 ws = some s → StOk ro h' s ev hv → Q (.tuple [stA s ev hv, .bool true]) h')
    (hq2 : ∀ h' s ev hv, Old h h' → stepF 3 ws = none → cellsV ev = .ok [ev] → cellsV hv = .ok [hv] → Q (.tuple [stA s ev hv, .bool false]) h') : Ev (cfgR ro) 24 [.int .i64 3, v] h Q := by
  have hL := W.len
  refine Ev.wp rfl rfl Tryz.func24 rfl ?_
  simp -implicitDefEqProofs [Tryz.f24, hL]
  refine orD (fun c1 => ?_) (fun c1 => ?_)
  · simp -implicitDefEqProofs [c1]
    exact hq2 _ ⟨3, 0, 0, 0, none, HmV.zero⟩ .nils .nils (Old.refl h) (by unfold stepF; rw [if_neg (by decide), if_pos (by omega)]) rfl rfl
  · obtain ⟨v1, s1, W1⟩ := W.upto (n := 2) (by omega) .i64
    have s1' : sliceSl h 1 v none (some (.int .i64 2)) none = .ok v1 := s1
    simp -implicitDefEqProofs [c1, s1']
    refine W1.nums_ev (n := 2) (by decide) (fun v3 h3 ns o3 hns N3 => ?_) (fun h3 o3 hns => ?_)
    · obtain ⟨x, y, rfl⟩ := numsF2 hns
      have i0 : indexAddrR Tryz.prog 73 v3 (.int .i64 0) = .ok (elp v3 1 0) := idxNS N3 (i := 0) (by simp)
      have k0 := loadNS N3 (i := 0) (n := x) rfl
      have i1 : indexAddrR Tryz.prog 73 v3 (.int .i64 1) = .ok (elp v3 1 1) := idxNS N3 (i := 1) (by simp)
      have k1 := loadNS N3 (i := 1) (n := y) rfl
      obtain ⟨v4, s4, W4⟩ := (W.old o3).from_ (n := 2) (by omega) .i64
      have s4' : sliceSl h3 1 v (some (.int .i64 2)) none none = .ok v4 := s4
      have hL4 := W4.len
      have hst : stepF 3 ws = (if ws.drop 2 = [] then some ⟨3, x, y, 0, none, HmV.zero⟩ else none) := by
        unfold stepF; rw [if_neg (by decide), if_neg (by omega), hns]; rfl
      simp -implicitDefEqProofs [i0, k0, s4', hL4, i1, k1, same_self]
      by_cases hd : ws.drop 2 = []
      · rw [decide_eq_true (by have := List.drop_eq_nil_iff.1 hd; omega)]
        exact hq1 h3 ⟨3, x, y, 0, none, HmV.zero⟩ .nils .nils o3 (by rw [hst, if_pos hd]) StOk.nil
      · rw [decide_eq_false (fun e => hd (List.drop_eq_nil_iff.2 (by omega)))]
        exact hq2 h3 ⟨3, x, y, 0, none, HmV.zero⟩ .nils .nils o3 (by rw [hst, if_neg hd]) rfl rfl
    · simp -implicitDefEqProofs 
      exact hq2 h3 ⟨3, 0, 0, 0, none, HmV.zero⟩ .nils .nils o3 (by unfold stepF; rw [if_neg (by decide), if_neg (by omega), hns]) rfl rfl
theorem step4_ev (W : WS ro h v ws) (hj : (Lib.join (ws.drop 4) [32]).length < 2 ^ 30) {Q : AVal → AHeap → Prop} (hq1 : ∀ h' s ev hv, Old h h' → stepF 4 ws = some s → StOk ro h' s ev hv → Q (.tuple [stA s ev hv, .bool true]) h')
    (hq2 : ∀ h' s ev hv, Old h h' → stepF 4 ws = none → cellsV ev = .ok [ev] → cellsV hv = .ok [hv] → Q (.tuple [stA s ev hv, .bool false]) h') : Ev (cfgR ro) 24 [.int .i64 4, v] h Q := by
  have hL := W.len
  refine Ev.wp rfl rfl Tryz.func24 rfl ?_
  simp -implicitDefEqProofs [Tryz.f24, hL]
  refine orD (fun c1 => ?_) (fun c1 => ?_)
  · simp -implicitDefEqProofs [c1]
    exact hq2 _ ⟨4, 0, 0, 0, none, HmV.zero⟩ .nils .nils (Old.refl h) (by unfold stepF; rw [if_neg (by decide), if_pos (by omega)]) rfl rfl
  · obtain ⟨v1, s1, W1⟩ := W.upto (n := 2) (by omega) .i64
    have s1' : sliceSl h 1 v none (some (.int .i64 2)) none = .ok v1 := s1
    simp -implicitDefEqProofs [c1, s1']
    refine W1.nums_ev (n := 2) (by decide) (fun v3 h3 ns o3 hns N3 => ?_) (fun h3 o3 hns => ?_)
    · obtain ⟨x, y, rfl⟩ := numsF2 hns
      have i0 : indexAddrR Tryz.prog 73 v3 (.int .i64 0) = .ok (elp v3 1 0) := idxNS N3 (i := 0) (by simp)
      have k0 := loadNS N3 (i := 0) (n := x) rfl
      have i1 : indexAddrR Tryz.prog 73 v3 (.int .i64 1) = .ok (elp v3 1 1) := idxNS N3 (i := 1) (by simp)
      have k1 := loadNS N3 (i := 1) (n := y) rfl
      obtain ⟨v4, s4, W4⟩ := (W.old o3).from_ (n := 2) (by omega) .i64
      have s4' : sliceSl h3 1 v (some (.int .i64 2)) none none = .ok v4 := s4
      have hL4 := W4.len
      have hst : stepF 4 ws = (match harmF (ws.drop 2) with | some m => some ⟨4, x, 0, y, none, m⟩ | none => none) := by
        unfold stepF; rw [if_neg (by decide), if_neg (by omega), hns]; rfl
      simp -implicitDefEqProofs [i0, k0, s4']
      refine harm_ev W4 (fun h5 e z o5 he bz cz => ?_) (fun h5 e z o5 he cz => ?_)
      · have k1' := loadNS (N3.old o5) (i := 1) (n := y) rfl
        simp -implicitDefEqProofs [hmA, i1, k1', cz, same_self]
        exact hq1 _ ⟨4, x, 0, y, none, e⟩ .nils z (o3.trans o5) (by rw [hst, he]) ⟨Sl.nil, rfl, bz, cz⟩
      · have k1' := loadNS (N3.old o5) (i := 1) (n := y) rfl
        simp -implicitDefEqProofs [hmA, i1, k1', cz, same_self]
        exact hq2 _ ⟨4, x, 0, y, none, e⟩ .nils z (o3.trans o5) (by rw [hst, he]) rfl cz
    · simp -implicitDefEqProofs 
      exact hq2 h3 ⟨4, 0, 0, 0, none, HmV.zero⟩ .nils .nils o3 (by unfold stepF; rw [if_neg (by decide), if_neg (by omega), hns]) rfl rfl
theorem step5_ev (W : WS ro h v ws) (hj : (Lib.join (ws.drop 4) [32]).length < 2 ^ 30) {Q : AVal → AHeap → Prop} (hq1 : ∀ h' s ev hv, Old h h' → stepF 5 ws = some s → StOk ro h' s ev hv → Q (.tuple [stA s ev hv, .bool true]) h')
    (hq2 : ∀ h' s ev hv, Old h h' → stepF 5 ws = none → cellsV ev = .ok [ev] → cellsV hv = .ok [hv] → Q (.tuple [stA s ev hv, .bool false]) h') : Ev (cfgR ro) 24 [.int .i64 5, v] h Q := by
  have hL := W.len
  refine Ev.wp rfl rfl Tryz.func24 rfl ?_
  simp -implicitDefEqProofs [Tryz.f24, hL]
  refine orD (fun c1 => ?_) (fun c1 => ?_)
  · simp -implicitDefEqProofs [c1]
    exact hq2 _ ⟨5, 0, 0, 0, none, HmV.zero⟩ .nils .nils (Old.refl h) (by unfold stepF; rw [if_neg (by decide), if_pos (by omega)]) rfl rfl
  · obtain ⟨v1, s1, W1⟩ := W.upto (n := 2) (by omega) .i64
    have s1' : sliceSl h 1 v none (some (.int .i64 2)) none = .ok v1 := s1
    simp -implicitDefEqProofs [c1, s1']
    refine W1.nums_ev (n := 2) (by decide) (fun v3 h3 ns o3 hns N3 => ?_) (fun h3 o3 hns => ?_)
    · obtain ⟨x, y, rfl⟩ := numsF2 hns
      have i0 : indexAddrR Tryz.prog 73 v3 (.int .i64 0) = .ok (elp v3 1 0) := idxNS N3 (i := 0) (by simp)
      have k0 := loadNS N3 (i := 0) (n := x) rfl
      have i1 : indexAddrR Tryz.prog 73 v3 (.int .i64 1) = .ok (elp v3 1 1) := idxNS N3 (i := 1) (by simp)
      have k1 := loadNS N3 (i := 1) (n := y) rfl
      obtain ⟨v4, s4, W4⟩ := (W.old o3).from_ (n := 2) (by omega) .i64
      have s4' : sliceSl h3 1 v (some (.int .i64 2)) none none = .ok v4 := s4
      have hL4 := W4.len
      have hst : stepF 5 ws = (if ws.drop 2 = [] then some ⟨5, x, 0, y, none, HmV.zero⟩ else none) := by
        unfold stepF; rw [if_neg (by decide), if_neg (by omega), hns]; rfl
      simp -implicitDefEqProofs [i0, k0, s4', hL4, i1, k1, same_self]
      by_cases hd : ws.drop 2 = []
      · rw [decide_eq_true (by have := List.drop_eq_nil_iff.1 hd; omega)]
        exact hq1 h3 ⟨5, x, 0, y, none, HmV.zero⟩ .nils .nils o3 (by rw [hst, if_pos hd]) StOk.nil
      · rw [decide_eq_false (fun e => hd (List.drop_eq_nil_iff.2 (by omega)))]
        exact hq2 h3 ⟨5, x, 0, y, none, HmV.zero⟩ .nils .nils o3 (by rw [hst, if_neg hd]) rfl rfl
    · simp -implicitDefEqProofs 
      exact hq2 h3 ⟨5, 0, 0, 0, none, HmV.zero⟩ .nils .nils o3 (by unfold stepF; rw [if_neg (by decide), if_neg (by omega), hns]) rfl rfl
end
end Go.Proofs.YtofnbldbggddmaaGreatDoor
set_option linter.all false
set_option maxRecDepth 100000
set_option maxHeartbeats 4000000
namespace Go.Proofs.YtofnbldbggddmaaGreatDoor
open Go Go.RowKit Go.Proofs
abbrev wordL : List Str := [[], [100, 111], [117, 110, 100, 111], [114, 101, 100, 111], [99, 111, 109, 101], [97, 115, 107], [115, 116, 111, 114, 101]]
section
variable {ro : Nat → Option (List AVal)} {h : AHeap} {v : AVal} {ws : List Str}
theorem steps_ev (hw : ro 0 = some [.str [], .str [100, 111], .str [117, 110, 100, 111], .str [114, 101, 100, 111], .str [99, 111, 109, 101], .str [97, 115, 107], .str [115, 116, 111, 114, 101]]) {w : Str} {Q : AVal → AHeap → Prop} (hq1 : ∀ k : Nat, 1 ≤ k → wordL[k]? = some w → Q (.tuple [.int .i64 (k : Nat), .bool true]) h) (hq2 : (∀ k : Nat, 1 ≤ k → wordL[k]? ≠ some w) → Q (.tuple [.int .i64 0, .bool false]) h) :
    Ev (cfgR ro) 23 [.str w] h Q := by
  refine Ev.wp rfl rfl Tryz.func23 rfl ?_
  simp -implicitDefEqProofs [Tryz.f23, hw]
  obtain ⟨I, hI⟩ : ∃ I : Nat → List AVal → AHeap → Prop, I = fun m env h' => h' = h ∧ ∃ i : Nat, i + m = 7 ∧ (∀ k : Nat, 1 ≤ k → k < i → wordL[k]? ≠ some w) ∧
    env = (.str w :: .dead :: .dead :: .dead :: .dead :: .dead :: .agg [.str [], .str [100, 111], .str [117, 110, 100, 111], .str [114, 101, 100, 111], .str [99, 111, 109, 101], .str [97, 115, 107], .str [115, 116, 111, 114, 101]] :: .int .i64 (i : Nat) :: .dead :: .dead :: .dead :: .dead :: .dead :: .dead :: .dead :: .dead :: .dead :: .dead :: .dead :: .dead :: []) := ⟨_, rfl⟩
  refine loop_of I ?_ 7 (by rw [hI]; exact ⟨rfl, 0, by omega, fun k h1 h2 => by omega, rfl⟩)
  intro m env h' hi
  rw [hI] at hi
  obtain ⟨rfl, i, him, hno, rfl⟩ := hi
  have hi7 : i = 0 ∨ i = 1 ∨ i = 2 ∨ i = 3 ∨ i = 4 ∨ i = 5 ∨ i = 6 ∨ i = 7 := by omega
  rcases hi7 with rfl | rfl | rfl | rfl | rfl | rfl | rfl | rfl
  · have w1 : IntKind.i64.wrap 1 = 1 := by decide
    have hx : idxNat (.int .i64 0) 7 = .ok 0 := ix_nat (i := 0) (by decide)
    simp -implicitDefEqProofs [hx, w1]
    refine orD (fun c => ?_) (fun c => ?_)
    · subst c
      simp -implicitDefEqProofs [w1]
      exact .mk (m := m - 1) (by omega) (by rw [hI]; exact ⟨rfl, 1, by omega, fun k h1 h2 => by omega, rfl⟩)
    · simp -implicitDefEqProofs [c, w1]
      exact .mk (m := m - 1) (by omega) (by rw [hI]; exact ⟨rfl, 1, by omega, fun k h1 h2 => by omega, rfl⟩)
  · have w1 : IntKind.i64.wrap 2 = 2 := by decide
    have hx : idxNat (.int .i64 1) 7 = .ok 1 := ix_nat (i := 1) (by decide)
    simp -implicitDefEqProofs [hx, w1]
    refine orD (fun c => ?_) (fun c => ?_)
    · subst c
      simp -implicitDefEqProofs [w1]
      exact hq1 1 (by decide) rfl
    · simp -implicitDefEqProofs [c, w1]
      exact .mk (m := m - 1) (by omega) (by rw [hI]; exact ⟨rfl, 2, by omega, fun k h1 h2 => by
        by_cases e : k = 1
        · subst e; exact fun x => c (Option.some.inj x)
        · exact hno k h1 (by omega), rfl⟩)
  · have w1 : IntKind.i64.wrap 3 = 3 := by decide
    have hx : idxNat (.int .i64 2) 7 = .ok 2 := ix_nat (i := 2) (by decide)
    simp -implicitDefEqProofs [hx, w1]
    refine orD (fun c => ?_) (fun c => ?_)
    · subst c
      simp -implicitDefEqProofs [w1]
      exact hq1 2 (by decide) rfl
    · simp -implicitDefEqProofs [c, w1]
      exact .mk (m := m - 1) (by omega) (by rw [hI]; exact ⟨rfl, 3, by omega, fun k h1 h2 => by
        by_cases e : k = 2
        · subst e; exact fun x => c (Option.some.inj x)
        · exact hno k h1 (by omega), rfl⟩)
  · have w1 : IntKind.i64.wrap 4 = 4 := by decide
    have hx : idxNat (.int .i64 3) 7 = .ok 3 := ix_nat (i := 3) (by decide)
    simp -implicitDefEqProofs [hx, w1]
    refine orD (fun c => ?_) (fun c => ?_)
    · subst c
      simp -implicitDefEqProofs [w1]
      exact hq1 3 (by decide) rfl
    · simp -implicitDefEqProofs [c, w1]
      exact .mk (m := m - 1) (by omega) (by rw [hI]; exact ⟨rfl, 4, by omega, fun k h1 h2 => by
        by_cases e : k = 3
        · subst e; exact fun x => c (Option.some.inj x)
        · exact hno k h1 (by omega), rfl⟩)
  · have w1 : IntKind.i64.wrap 5 = 5 := by decide
    have hx : idxNat (.int .i64 4) 7 = .ok 4 := ix_nat (i := 4) (by decide)
    simp -implicitDefEqProofs [hx, w1]
    refine orD (fun c => ?_) (fun c => ?_)
    · subst c
      simp -implicitDefEqProofs [w1]
      exact hq1 4 (by decide) rfl
    · simp -implicitDefEqProofs [c, w1]
      exact .mk (m := m - 1) (by omega) (by rw [hI]; exact ⟨rfl, 5, by omega, fun k h1 h2 => by
        by_cases e : k = 4
        · subst e; exact fun x => c (Option.some.inj x)
        · exact hno k h1 (by omega), rfl⟩)
  · have w1 : IntKind.i64.wrap 6 = 6 := by decide
    have hx : idxNat (.int .i64 5) 7 = .ok 5 := ix_nat (i := 5) (by decide)
    simp -implicitDefEqProofs [hx, w1]
    refine orD (fun c => ?_) (fun c => ?_)
    · subst c
      simp -implicitDefEqProofs [w1]
      exact hq1 5 (by decide) rfl
    · simp -implicitDefEqProofs [c, w1]
      exact .mk (m := m - 1) (by omega) (by rw [hI]; exact ⟨rfl, 6, by omega, fun k h1 h2 => by
        by_cases e : k = 5
        · subst e; exact fun x => c (Option.some.inj x)
        · exact hno k h1 (by omega), rfl⟩)
  · have w1 : IntKind.i64.wrap 7 = 7 := by decide
    have hx : idxNat (.int .i64 6) 7 = .ok 6 := ix_nat (i := 6) (by decide)
    simp -implicitDefEqProofs [hx, w1]
    refine orD (fun c => ?_) (fun c => ?_)
    · subst c
      simp -implicitDefEqProofs [w1]
      exact hq1 6 (by decide) rfl
    · simp -implicitDefEqProofs [c, w1]
      exact .mk (m := m - 1) (by omega) (by rw [hI]; exact ⟨rfl, 7, by omega, fun k h1 h2 => by
        by_cases e : k = 6
        · subst e; exact fun x => c (Option.some.inj x)
        · exact hno k h1 (by omega), rfl⟩)
  · simp -implicitDefEqProofs
    exact hq2 (fun k h1 e => by
      by_cases c : k < 7
      · exact hno k h1 c e
      · rw [List.getElem?_eq_none (by simp; omega)] at e; cases e)
end
end Go.Proofs.YtofnbldbggddmaaGreatDoor
set_option linter.all false
set_option maxRecDepth 100000
set_option maxHeartbeats 4000000
namespace Go.Proofs.YtofnbldbggddmaaGreatDoor
open Go Go.RowKit Go.Proofs
theorem join_two (a b : Str) (t : List Str) : Lib.join (a :: b :: t) [32] = a ++ 32 :: Lib.join (b :: t) [32] := by
  simp [Lib.join, List.intercalate, List.intersperse]
theorem join_words : ∀ s : Str, Lib.join (wordsF s) [32] = s
  | [] => by simp [wordsF, Lib.join, List.intercalate]
  | b :: s => by
    have ih := join_words s
    have hne := wordsF_ne s
    unfold wordsF
    cases hw : wordsF s with
    | nil => exact (hne hw).elim
    | cons w l =>
      rw [hw] at ih
      split
      · rename_i hb
        rw [join_two, ih, hb]; rfl
      · cases l with
        | nil => simp [Lib.join, List.intercalate] at ih ⊢; exact ih
        | cons w2 l =>
          rw [join_two] at ih ⊢
          show b :: (w ++ 32 :: _) = _
          rw [ih]
theorem join_drop : ∀ (n : Nat) (ws : List Str), (Lib.join (ws.drop n) [32]).length ≤ (Lib.join ws [32]).length
  | 0, ws => Nat.le_refl _
  | n + 1, [] => by simp [Lib.join, List.intercalate]
  | n + 1, [a] => by simp [Lib.join, List.intercalate]
  | n + 1, a :: b :: t => by
    have := join_drop n (b :: t)
    rw [List.drop_succ_cons, join_two, List.length_append, List.length_cons]
    omega
abbrev sNodes : Str := [110, 111, 100, 101, 115]
abbrev sRead : Str := [114, 101, 97, 100]
abbrev sHave : Str := [104, 97, 118, 101]
abbrev sSettle : Str := [115, 101, 116, 116, 108, 101]
structure CmV where
  kind : Nat
  n : Nat
  st : StV
def CmV.zero : CmV := ⟨0, 0, StV.zero⟩
def cmA (c : CmV) (ev hv : AVal) : AVal := .agg [.int .i64 (c.kind : Nat), .int .i64 (c.n : Nat), .int .i64 (c.st.kind : Nat), .int .i64 (c.st.at_ : Nat), .int .i64 (c.st.user : Nat), .int .i64 (c.st.k : Nat), ev, .int .i64 (c.st.hm.kind : Nat), .int .i64 (c.st.hm.at_ : Nat), .int .u32 (c.st.hm.bits : Nat), hv]
def kindF (w : Str) : Nat := if w = [100, 111] then 1 else if w = [117, 110, 100, 111] then 2 else if w = [114, 101, 100, 111] then 3 else if w = [99, 111, 109, 101] then 4 else if w = [97, 115, 107] then 5 else if w = [115, 116, 111, 114, 101] then 6
  else if w = sNodes then 10 else if w = sRead then 11 else if w = sHave then 12 else if w = sSettle then 13 else 0
def cmdF (l : List Str) : Sum CmV Nat :=
  match l with
  | [] => .inr 50
  | w :: r => if kindF w = 0 then .inr 50
    else if kindF w ≤ 6 then (match stepF (kindF w) r with
      | some s => .inl ⟨kindF w, 0, s⟩
      | none => .inr 11)
    else if kindF w = 13 then (if r = [] then .inl ⟨13, 0, StV.zero⟩ else .inr 11)
    else match numsF r 1 with
      | some [n] => .inl ⟨kindF w, n, StV.zero⟩
      | _ => .inr 11
section
variable {ro : Nat → Option (List AVal)} {h : AHeap} {v : AVal} {ws : List Str}
theorem Mine.WS {h0 : AHeap} {v : AVal} {ws : List Str} (m : Mine h0 h 1 (ws.map fun w => [AVal.str w]) v) (hl : ws.length < 2 ^ 30) (hw : ∀ w ∈ ws, w.length < 2 ^ 30) : WS ro h v ws := by
  refine ⟨m.sl, ?_, hl, hw⟩
  obtain ⟨_, ⟨_, rfl⟩ | ⟨q, fz, rfl, _⟩⟩ := m
  · exact .inl rfl
  · exact .inr ⟨_, _, _, rfl⟩
theorem mem_words {w s : Str} (h : w ∈ wordsF s) : w.length ≤ s.length := by
  have hj := join_words s
  rw [← hj]
  generalize wordsF s = l at h
  clear hj
  induction l with
  | nil => cases h
  | cons a t ih =>
    cases t with
    | nil => simp at h; subst h; simp [Lib.join, List.intercalate]
    | cons b t =>
      rw [join_two, List.length_append, List.length_cons]
      rcases List.mem_cons.1 h with rfl | h
      · omega
      · have := ih h; omega
theorem stepK_ev {kind : Nat} (hk : 1 ≤ kind ∧ kind ≤ 6) (W : WS ro h v ws) (hj : (Lib.join (ws.drop 4) [32]).length < 2 ^ 30) {Q : AVal → AHeap → Prop} (hq1 : ∀ h' s ev hv, Old h h' → stepF kind ws = some s → StOk ro h' s ev hv → Q (.tuple [stA s ev hv, .bool true]) h')
    (hq2 : ∀ h' s ev hv, Old h h' → stepF kind ws = none → cellsV ev = .ok [ev] → cellsV hv = .ok [hv] → Q (.tuple [stA s ev hv, .bool false]) h') : Ev (cfgR ro) 24 [.int .i64 (kind : Nat), v] h Q := by
  have : kind = 1 ∨ kind = 2 ∨ kind = 3 ∨ kind = 4 ∨ kind = 5 ∨ kind = 6 := by omega
  rcases this with rfl | rfl | rfl | rfl | rfl | rfl
  · exact step1_ev W hj hq1 hq2
  · exact step2_ev W hj hq1 hq2
  · exact step3_ev W hj hq1 hq2
  · exact step4_ev W hj hq1 hq2
  · exact step5_ev W hj hq1 hq2
  · exact step6_ev W hj hq1 hq2
theorem kind_of {k : Nat} {w : Str} (h1 : 1 ≤ k) (h : wordL[k]? = some w) : kindF w = k ∧ k ≤ 6 := by
  have : k = 1 ∨ k = 2 ∨ k = 3 ∨ k = 4 ∨ k = 5 ∨ k = 6 ∨ 7 ≤ k := by omega
  rcases this with rfl | rfl | rfl | rfl | rfl | rfl | h7
  all_goals first | (cases h; exact ⟨by decide, by decide⟩) | (rw [List.getElem?_eq_none (by simpa using h7)] at h; cases h)
theorem kind_no {w : Str} (h : ∀ k : Nat, 1 ≤ k → wordL[k]? ≠ some w) : kindF w = if w = sNodes then 10 else if w = sRead then 11 else if w = sHave then 12 else if w = sSettle then 13 else 0 := by
  have h1 : w ≠ [100, 111] := fun e => h 1 (by decide) (by rw [e]; rfl)
  have h2 : w ≠ [117, 110, 100, 111] := fun e => h 2 (by decide) (by rw [e]; rfl)
  have h3 : w ≠ [114, 101, 100, 111] := fun e => h 3 (by decide) (by rw [e]; rfl)
  have h4 : w ≠ [99, 111, 109, 101] := fun e => h 4 (by decide) (by rw [e]; rfl)
  have h5 : w ≠ [97, 115, 107] := fun e => h 5 (by decide) (by rw [e]; rfl)
  have h6 : w ≠ [115, 116, 111, 114, 101] := fun e => h 6 (by decide) (by rw [e]; rfl)
  unfold kindF
  rw [if_neg h1, if_neg h2, if_neg h3, if_neg h4, if_neg h5, if_neg h6]
theorem parse_ev (hw : ro 0 = some [.str [], .str [100, 111], .str [117, 110, 100, 111], .str [114, 101, 100, 111], .str [99, 111, 109, 101], .str [97, 115, 107], .str [115, 116, 111, 114, 101]]) {s : Str} (hs : s.length ≤ 500) {Q : AVal → AHeap → Prop} (hq1 : ∀ h' c ev hv, Old h h' → cmdF (wordsF s) = .inl c → StOk ro h' c.st ev hv → Q (.tuple [cmA c ev hv, .int .i64 0]) h')
    (hq2 : ∀ h' (e : Nat), Old h h' → cmdF (wordsF s) = .inr e → Q (.tuple [cmA CmV.zero .nils .nils, .int .i64 (e : Nat)]) h') : Ev (cfgR ro) 14 [.str s] h Q := by
  refine Ev.wp rfl rfl Tryz.func14 rfl ?_
  simp -implicitDefEqProofs [Tryz.f14]
  have hjw := join_words s
  refine split_ev (by omega) (fun v h1 o1 m1 => ?_)
  have W : WS ro h1 v (wordsF s) := Mine.WS m1 (by have := words_le (s := s); omega) (fun w hm => by have := mem_words hm; omega)
  obtain ⟨w, r, hwr⟩ : ∃ w r, wordsF s = w :: r := by
    cases e : wordsF s with
    | nil => exact (wordsF_ne s e).elim
    | cons w r => exact ⟨w, r, rfl⟩
  rw [hwr] at W hjw hq1 hq2
  clear m1
  have e1 : indexAddrR Tryz.prog 67 v (.int .i64 0) = .ok (elp v 1 0) := W.ix (i := 0) (w := w) rfl
  have l1 := W.ld (i := 0) (w := w) rfl
  have hL := W.len
  obtain ⟨v2, s2, W2⟩ := W.from_ (n := 1) (by simp) .i64
  have s2' : sliceSl h1 1 v (some (.int .i64 1)) none none = .ok v2 := s2
  have W2 : WS ro h1 v2 r := W2
  simp -implicitDefEqProofs [e1, l1]
  refine steps_ev hw (fun k hk hkw => ?_) (fun hno => ?_)
  · obtain ⟨hkf, hk6⟩ := kind_of hk hkw
    have hc : cmdF (w :: r) = (match stepF k r with
        | some s => .inl ⟨k, 0, s⟩
        | none => .inr 11) := by
      show (if kindF w = 0 then _ else if kindF w ≤ 6 then _ else _) = _
      rw [hkf, if_neg (by omega), if_pos hk6]
    simp -implicitDefEqProofs [s2']
    refine stepK_ev ⟨hk, hk6⟩ W2 (by
      have e : r.drop 4 = (w :: r).drop 5 := rfl
      have := join_drop 5 (w :: r)
      rw [e]; rw [hjw] at this; omega) (fun h5 st ev hv o5 hst S => ?_) (fun h5 st ev hv o5 hst c1 c2 => ?_)
    · have c1 := S.ce
      have c2 := S.cm
      simp -implicitDefEqProofs [stA, c1, c2]
      exact hq1 h5 ⟨k, 0, st⟩ ev hv (o1.trans o5) (by rw [hc, hst]) S
    · simp -implicitDefEqProofs [stA, c1, c2]
      exact hq2 h5 11 (o1.trans o5) (by rw [hc, hst])
  · have hkf := kind_no hno
    simp -implicitDefEqProofs [e1, l1]
    refine orD (fun d0 => ?_) (fun d0 => ?_)
    · have hk : kindF w = 10 := by rw [hkf, if_pos d0]
      have hc : cmdF (w :: r) = (match numsF r 1 with
          | some [n] => .inl ⟨10, n, StV.zero⟩
          | _ => .inr 11) := by
        show (if kindF w = 0 then _ else if kindF w ≤ 6 then _ else if kindF w = 13 then _ else _) = _
        rw [hk, if_neg (by decide), if_neg (by decide), if_neg (by decide)]
      simp -implicitDefEqProofs [d0, s2']
      refine W2.nums_ev (n := 1) (by decide) (fun v3 h3 ns o3 hns N3 => ?_) (fun h3 o3 hns => ?_)
      · obtain ⟨x, rfl⟩ := numsF1 hns
        have i0 : indexAddrR Tryz.prog 73 v3 (.int .i64 0) = .ok (elp v3 1 0) := idxNS N3 (i := 0) (by simp)
        have k0 := loadNS N3 (i := 0) (n := x) rfl
        simp -implicitDefEqProofs [i0, k0, same_self]
        exact hq1 h3 ⟨10, x, StV.zero⟩ .nils .nils (o1.trans o3) (by rw [hc, hns]) StOk.nil
      · simp -implicitDefEqProofs 
        exact hq2 h3 11 (o1.trans o3) (by rw [hc, hns])
    · simp -implicitDefEqProofs [d0]
      refine orD (fun d1 => ?_) (fun d1 => ?_)
      · have hk : kindF w = 11 := by rw [hkf, if_neg d0, if_pos d1]
        have hc : cmdF (w :: r) = (match numsF r 1 with
            | some [n] => .inl ⟨11, n, StV.zero⟩
            | _ => .inr 11) := by
          show (if kindF w = 0 then _ else if kindF w ≤ 6 then _ else if kindF w = 13 then _ else _) = _
          rw [hk, if_neg (by decide), if_neg (by decide), if_neg (by decide)]
        simp -implicitDefEqProofs [d0, d1, s2']
        refine W2.nums_ev (n := 1) (by decide) (fun v3 h3 ns o3 hns N3 => ?_) (fun h3 o3 hns => ?_)
        · obtain ⟨x, rfl⟩ := numsF1 hns
          have i0 : indexAddrR Tryz.prog 73 v3 (.int .i64 0) = .ok (elp v3 1 0) := idxNS N3 (i := 0) (by simp)
          have k0 := loadNS N3 (i := 0) (n := x) rfl
          simp -implicitDefEqProofs [i0, k0, same_self]
          exact hq1 h3 ⟨11, x, StV.zero⟩ .nils .nils (o1.trans o3) (by rw [hc, hns]) StOk.nil
        · simp -implicitDefEqProofs 
          exact hq2 h3 11 (o1.trans o3) (by rw [hc, hns])
      · simp -implicitDefEqProofs [d0, d1]
        refine orD (fun d2 => ?_) (fun d2 => ?_)
        · have hk : kindF w = 12 := by rw [hkf, if_neg d0, if_neg d1, if_pos d2]
          have hc : cmdF (w :: r) = (match numsF r 1 with
              | some [n] => .inl ⟨12, n, StV.zero⟩
              | _ => .inr 11) := by
            show (if kindF w = 0 then _ else if kindF w ≤ 6 then _ else if kindF w = 13 then _ else _) = _
            rw [hk, if_neg (by decide), if_neg (by decide), if_neg (by decide)]
          simp -implicitDefEqProofs [d0, d1, d2, s2']
          refine W2.nums_ev (n := 1) (by decide) (fun v3 h3 ns o3 hns N3 => ?_) (fun h3 o3 hns => ?_)
          · obtain ⟨x, rfl⟩ := numsF1 hns
            have i0 : indexAddrR Tryz.prog 73 v3 (.int .i64 0) = .ok (elp v3 1 0) := idxNS N3 (i := 0) (by simp)
            have k0 := loadNS N3 (i := 0) (n := x) rfl
            simp -implicitDefEqProofs [i0, k0, same_self]
            exact hq1 h3 ⟨12, x, StV.zero⟩ .nils .nils (o1.trans o3) (by rw [hc, hns]) StOk.nil
          · simp -implicitDefEqProofs 
            exact hq2 h3 11 (o1.trans o3) (by rw [hc, hns])
        · simp -implicitDefEqProofs [d0, d1, d2]
          refine orD (fun d3 => ?_) (fun d3 => ?_)
          · have hk : kindF w = 13 := by rw [hkf, if_neg d0, if_neg d1, if_neg d2, if_pos d3]
            have hc : cmdF (w :: r) = (if r = [] then .inl ⟨13, 0, StV.zero⟩ else .inr 11) := by
              show (if kindF w = 0 then _ else if kindF w ≤ 6 then _ else if kindF w = 13 then _ else _) = _
              rw [hk, if_neg (by decide), if_neg (by decide), if_pos rfl]
            simp -implicitDefEqProofs [d0, d1, d2, d3, hL]
            refine orD (fun d4 => ?_) (fun d4 => ?_)
            · simp -implicitDefEqProofs [d0, d1, d2, d3, d4, hL]
              exact hq2 h1 11 o1 (by rw [hc, if_neg (fun e => by rw [e] at d4; simp at d4)])
            · simp -implicitDefEqProofs [d0, d1, d2, d3, d4, hL]
              exact hq1 h1 ⟨13, 0, StV.zero⟩ .nils .nils o1 (by rw [hc, if_pos (List.length_eq_zero_iff.1 (by omega))]) StOk.nil
          · have hk : kindF w = 0 := by rw [hkf, if_neg d0, if_neg d1, if_neg d2, if_neg d3]
            have hc : cmdF (w :: r) = .inr 50 := by
              show (if kindF w = 0 then _ else _) = _
              rw [if_pos hk]
            simp -implicitDefEqProofs [d0, d1, d2, d3]
            exact hq2 h1 50 o1 hc
end
end Go.Proofs.YtofnbldbggddmaaGreatDoor
set_option linter.all false
set_option maxRecDepth 100000
set_option maxHeartbeats 4000000
namespace Go.Proofs.YtofnbldbggddmaaGreatDoor
open Go Go.RowKit Go.Proofs
/-! the reference's numbers -/
def decW : Str → Nat → Option Nat
  | [], n => some n
  | c :: r, n => if 48 ≤ c.toNat ∧ c.toNat ≤ 57 then decW r (10 * n + (c.toNat - 48)) else none
def numR (s : Str) : Option Nat := if s.length < 1 ∨ 9 < s.length ∨ (1 < s.length ∧ s.head? = some 48) then none else decW s 0
theorem decW_le : ∀ {l : Str} {a v : Nat}, decW l a = some v → a ≤ v
  | [], a, v, h => by cases h; exact Nat.le_refl _
  | c :: r, a, v, h => by
    simp only [decW] at h
    split at h
    · have := decW_le h; omega
    · cases h
theorem decW_lt : ∀ {l : Str} {a v k : Nat}, a < 10 ^ k → decW l a = some v → v < 10 ^ (k + l.length)
  | [], a, v, k, ha, h => by cases h; simpa using ha
  | c :: r, a, v, k, ha, h => by
    simp only [decW] at h
    split at h
    · rename_i hc
      have hp : 10 ^ (k + 1) = 10 * 10 ^ k := by rw [Nat.pow_succ, Nat.mul_comm]
      have := decW_lt (k := k + 1) (by rw [hp]; omega) h
      rw [List.length_cons]
      rwa [show k + (r.length + 1) = k + 1 + r.length by omega]
    · cases h
theorem decW_uint : ∀ {l : Str} {a v : Nat}, decW l a = some v → v < 10 ^ 18 → Lib.parseUint10 a l = .ok v
  | [], a, v, h, _ => by cases h; rfl
  | c :: r, a, v, h, hv => by
    simp only [decW] at h
    split at h
    · rename_i hc
      have hle := decW_le h
      have ih := decW_uint h hv
      unfold Lib.parseUint10
      rw [if_pos hc, if_neg (by omega), if_neg (by omega), show a * 10 + (c.toNat - 48) = 10 * a + (c.toNat - 48) by omega]
      exact ih
    · cases h
theorem decW_app : ∀ {A B : Str} {a : Nat}, decW (A ++ B) a = (decW A a).bind fun u => decW B u
  | [], B, a => rfl
  | c :: A, B, a => by
    show decW (c :: (A ++ B)) a = _
    simp only [decW]
    split
    · exact decW_app
    · rfl
theorem dd_lo {v : Nat} (h : v < 10) : Lib.decDigits v = [UInt8.ofNat (48 + v)] := Lib.decDigits_one h
theorem dd_hi {v : Nat} (h : ¬ v < 10) : Lib.decDigits v = Lib.decDigits (v / 10) ++ [UInt8.ofNat (48 + v % 10)] := by
  rw [Lib.decDigits, dif_neg h]
theorem digit_back {c : UInt8} (h : 48 ≤ c.toNat) : UInt8.ofNat (48 + (c.toNat - 48)) = c := by
  rw [show 48 + (c.toNat - 48) = c.toNat by omega, UInt8.ofNat_toNat]
theorem decW_pos {c : UInt8} {r : Str} {v : Nat} (h : decW (c :: r) 0 = some v) (hc : c ≠ 48) : 1 ≤ v := by
  simp only [decW] at h
  split at h
  · rename_i hd
    have := decW_le h
    have : c.toNat ≠ 48 := fun e => hc (UInt8.toNat_inj.1 e)
    omega
  · cases h
theorem decW_digits : ∀ (n : Nat) {s : Str} {v : Nat}, s.length = n + 1 → (1 < s.length → s.head? ≠ some 48) → decW s 0 = some v → Lib.decDigits v = s
  | n, s, v, hl, h0, h => by
    have hne : s ≠ [] := by rintro rfl; cases hl
    obtain ⟨A, c, rfl⟩ : ∃ A z, s = A ++ [z] := ⟨s.dropLast, s.getLast hne, (List.dropLast_concat_getLast hne).symm⟩
    rw [decW_app] at h
    cases hA : decW A 0 with
    | none => rw [hA] at h; cases h
    | some u =>
      rw [hA] at h
      simp only [Option.bind_some, decW] at h
      split at h
      · rename_i hc
        injection h with h
        cases n with
        | zero =>
          have : A = [] := List.length_eq_zero_iff.1 (by simpa using hl)
          subst this
          cases hA
          rw [dd_lo (by omega), ← h, show 48 + (10 * 0 + (c.toNat - 48)) = 48 + (c.toNat - 48) by omega, digit_back hc.1]; rfl
        | succ n =>
          have hAl : A.length = n + 1 := by simpa using hl
          obtain ⟨a, A, rfl⟩ : ∃ a B, A = a :: B := by cases A with
            | nil => cases hAl
            | cons a B => exact ⟨a, B, rfl⟩
          have ha : a ≠ 48 := fun e => h0 (by simp) (by rw [e]; rfl)
          have hu := decW_pos hA ha
          have ih := decW_digits n hAl (fun _ e => ha (Option.some.inj e)) hA
          rw [dd_hi (by omega), show v / 10 = u by omega, ih, show v % 10 = c.toNat - 48 by omega, digit_back hc.1]
      · cases h
theorem dd_ne (v : Nat) : Lib.decDigits v ≠ [] := by
  by_cases h : v < 10
  · rw [dd_lo h]; simp
  · rw [dd_hi h]; simp
theorem dd_head : ∀ (v : Nat), 1 ≤ v → (Lib.decDigits v).head? ≠ some 48
  | v, h1 => by
    by_cases h : v < 10
    · rw [dd_lo h]
      intro e
      have e := congrArg UInt8.toNat (Option.some.inj e)
      rw [toNat_ofNat (by omega)] at e
      have : (48 : UInt8).toNat = 48 := rfl
      omega
    · have ih := dd_head (v / 10) (by omega)
      rw [dd_hi h]
      have hne := dd_ne (v / 10)
      cases hd : Lib.decDigits (v / 10) with
      | nil => exact (hne hd).elim
      | cons a r => rw [hd] at ih; exact ih
  termination_by v => v
  decreasing_by omega
theorem decW_dd (v : Nat) : decW (Lib.decDigits v) 0 = some v := by
    have hd : ∀ d u : Nat, d < 10 → decW [UInt8.ofNat (48 + d)] u = some (10 * u + d) := by
      intro d u h
      simp only [decW]
      rw [toNat_ofNat (by omega), if_pos (by omega)]
      congr 1; omega
    by_cases h : v < 10
    · rw [dd_lo h, hd v 0 h]; simp
    · have ih := decW_dd (v / 10)
      rw [dd_hi h, decW_app, ih, Option.bind_some, hd _ _ (by omega)]
      congr 1; omega
  termination_by v
  decreasing_by omega
theorem numR_eq (s : Str) : numF s = numR s := by
  have L1 : ∀ v, numR s = some v → numF s = some v := by
    intro v h
    unfold numR at h
    split at h
    · cases h
    · rename_i hc
      have hv := decW_lt (k := 0) (by decide) h
      have hv2 : v < 10 ^ 18 := Nat.lt_of_lt_of_le hv (Nat.pow_le_pow_right (by decide) (by omega))
      have hu := decW_uint h hv2
      obtain ⟨n, hn⟩ : ∃ n, s.length = n + 1 := ⟨s.length - 1, by omega⟩
      have hdd := decW_digits n hn (fun h1 e => hc (.inr (.inr ⟨h1, e⟩))) h
      have hit : Lib.itoa (v : Int) = s := by rw [Lib.itoa_nonneg, hdd]
      cases s with
      | nil => cases hn
      | cons c r =>
        have hcd : 48 ≤ c.toNat ∧ c.toNat ≤ 57 := by
          simp only [decW] at h
          split at h
          · assumption
          · cases h
        have ha : Lib.atoiAll (c :: r) = .ok (v : Int) := by
          unfold Lib.atoiAll
          simp only
          rw [if_neg (by omega)]
          unfold Lib.parseMag
          rw [if_neg (by simp), hu]
          simp only
          rw [if_neg (by omega), if_neg (by omega), if_neg (by omega)]
        unfold numF
        rw [ha]
        simp only
        rw [if_pos ⟨by omega, hit, by omega⟩]
        rfl
  cases hr : numR s with
  | some v => exact L1 v hr
  | none =>
    cases hf : numF s with
    | none => rfl
    | some v =>
      unfold numF at hf
      split at hf
      · rename_i n hn
        split at hf
        · rename_i hc
          obtain ⟨k, rfl⟩ : ∃ k : Nat, n = k := ⟨n.toNat, by omega⟩
          have hs : s = Lib.decDigits k := by rw [← hc.2.1, Lib.itoa_nonneg]
          unfold numR at hr
          rw [hs] at hr hc
          rw [decW_dd] at hr
          split at hr
          · rename_i hx
            have hne := List.length_pos_iff.2 (dd_ne k)
            rcases hx with hx | hx | ⟨h1, h2⟩
            · omega
            · omega
            · by_cases hk : 1 ≤ k
              · exact (dd_head k hk h2).elim
              · rw [dd_lo (by omega)] at h1; simp at h1
          · cases hr
        · cases hf
      · cases hf
end Go.Proofs.YtofnbldbggddmaaGreatDoor
set_option linter.all false
set_option maxRecDepth 100000
set_option maxHeartbeats 4000000
namespace Go.Proofs.YtofnbldbggddmaaGreatDoor
open Go Go.RowKit Go.Proofs
def numI (s : Str) : Int := match numF s with
  | some v => (v : Int)
  | none => -1
section
variable {ro : Nat → Option (List AVal)} {h : AHeap}
theorem num01_ev {s : Str} (hs : s.length ≤ 9) {Q : AVal → AHeap → Prop} (hq1 : ∀ v, numR s = some v → Q (.tuple [.int .u64 (v : Nat), .bool true]) h) (hq2 : numR s = none → Q (.tuple [.int .u64 0, .bool false]) h) :
    Ev (cfgR ro) 50 [.str s, .int .u64 999999999] h Q := by
  refine Ev.wp rfl rfl Tryz.func50 rfl ?_
  cases s with
  | nil =>
    simp -implicitDefEqProofs [Tryz.f50]
    exact hq2 rfl
  | cons c0 r0 =>
    obtain ⟨s, hse⟩ : ∃ s, s = c0 :: r0 := ⟨_, rfl⟩
    rw [← hse] at hs hq1 hq2 ⊢
    have hpos : 0 < s.length := by rw [hse]; simp
    have n1 : ¬ (s.length : Int) < 1 := by omega
    have n2 : ¬ (15 : Int) < (s.length : Int) := by omega
    have hx0 : idxNat (.int .i64 0) s.length = .ok 0 := ix_nat (i := 0) hpos
    have hg0 : s[0]'hpos = c0 := by subst hse; rfl
    have hh : s.head? = some c0 := by rw [hse]; rfl
    simp -implicitDefEqProofs [Tryz.f50, n1, n2]
    have hnr : ¬ (1 < s.length ∧ c0.toNat = 48) → numR s = decW s 0 := by
      intro hx
      unfold numR
      rw [if_neg]
      rintro (h1 | h1 | ⟨h1, h2⟩)
      · omega
      · omega
      · rw [hh] at h2
        exact hx ⟨h1, by rw [Option.some.inj h2]; rfl⟩
    generalize hK : seqK (cfgR ro) 50 _ _ _ _ (Code.seq (Code.region 3 _ _) _) = K
    have tail : ¬ (1 < s.length ∧ c0.toNat = 48) → K (.str s :: .int .u64 999999999 :: .dead :: .dead :: .dead :: .dead :: .dead :: .dead :: .dead :: .dead :: .dead :: .dead :: .dead :: .dead :: .dead :: .dead :: .dead :: .dead :: .dead :: .dead :: .dead :: .dead :: .dead :: .dead :: .dead :: .bool false :: .dead :: .dead :: .dead :: .dead :: .dead :: .dead :: .dead :: .dead :: .dead :: .dead :: .dead :: .dead :: .dead :: .dead :: .dead :: .dead :: .dead :: .dead :: .dead :: .dead :: .dead :: .dead :: .dead :: .dead :: .dead :: .dead :: .dead :: .dead :: []) h := by
      intro hz
      have hnr := hnr hz
      rw [← hK]
      simp -implicitDefEqProofs
      obtain ⟨I, hI⟩ : ∃ I : Nat → List AVal → AHeap → Prop, I = fun m env h' => h' = h ∧ ∃ (i n : Nat), i + m = s.length ∧ decW (s.take i) 0 = some n ∧
        env = (.str s :: .int .u64 999999999 :: .dead :: .dead :: .dead :: .dead :: .int .u64 (n : Nat) :: .int .i64 (i : Nat) :: .dead :: .dead :: .dead :: .dead :: .dead :: .dead :: .dead :: .dead :: .dead :: .dead :: .dead :: .dead :: .dead :: .dead :: .dead :: .dead :: .dead :: .dead :: .dead :: .dead :: .dead :: .dead :: .dead :: .dead :: .dead :: .dead :: .dead :: .dead :: .dead :: .dead :: .dead :: .dead :: .dead :: .dead :: .dead :: .dead :: .dead :: .dead :: .dead :: .dead :: .dead :: .dead :: .dead :: .dead :: .dead :: .dead :: []) := ⟨_, rfl⟩
      refine loop_of I ?_ s.length (by rw [hI]; exact ⟨rfl, 0, 0, by omega, rfl, rfl⟩)
      intro m env h' hi
      rw [hI] at hi
      obtain ⟨rfl, i, n, him, hn, rfl⟩ := hi
      have hnl := decW_lt (k := 0) (by decide) hn
      rw [Nat.zero_add, List.length_take] at hnl
      have hn9 : n < 10 ^ 9 := Nat.lt_of_lt_of_le hnl (Nat.pow_le_pow_right (by decide) (by omega))
      by_cases hlt : i < s.length
      · obtain ⟨b, hb⟩ : ∃ b, s[i]? = some b := ⟨_, List.getElem?_eq_getElem hlt⟩
        have hgb : s[i]'hlt = b := by obtain ⟨_, e⟩ := List.getElem?_eq_some_iff.1 hb; exact e
        have hx : idxNat (.int .i64 (i : Int)) s.length = .ok i := ix_nat hlt
        have w1 : IntKind.i64.wrap ((i : Int) + 1) = ((i + 1 : Nat) : Int) := by rw [w64 (by omega) (by omega)]; omega
        have hsplit : s = s.take i ++ b :: s.drop (i + 1) := by
          have := List.take_append_drop i s
          rw [List.drop_eq_getElem_cons hlt, hgb] at this
          exact this.symm
        have bad : ¬ (48 ≤ b.toNat ∧ b.toNat ≤ 57) → numR s = none := by
          intro hbad
          rw [hnr, hsplit, decW_app, hn, Option.bind_some]
          show (if 48 ≤ b.toNat ∧ b.toNat ≤ 57 then _ else none) = none
          rw [if_neg hbad]
        simp -implicitDefEqProofs [hlt, hx, hgb]
        refine orD (fun d1 => ?_) (fun d1 => ?_)
        · simp -implicitDefEqProofs [hlt, hx, hgb, d1]
          exact hq2 (bad (by omega))
        · simp -implicitDefEqProofs [hlt, hx, hgb, d1]
          refine orD (fun d2 => ?_) (fun d2 => ?_)
          · simp -implicitDefEqProofs [hlt, hx, hgb, d1, d2]
            exact hq2 (bad (by omega))
          · have e1 : IntKind.u8.wrap ((b.toNat : Int) - 48) = ((b.toNat - 48 : Nat) : Int) := by rw [wrap8]; have := b.toNat_lt; omega
            obtain ⟨d, hd⟩ : ∃ d, d = b.toNat - 48 := ⟨_, rfl⟩
            rw [← hd] at e1
            have e2 : IntKind.u64.wrap (d : Int) = (d : Int) := by rw [wrap64]; omega
            have e3 : IntKind.u64.wrap (10 * (n : Int)) = ((10 * n : Nat) : Int) := by rw [wrap64]; omega
            obtain ⟨t, ht⟩ : ∃ t, t = 10 * n := ⟨_, rfl⟩
            rw [← ht] at e3
            have e4 : IntKind.u64.wrap ((t : Int) + (d : Int)) = ((t + d : Nat) : Int) := by rw [wrap64]; have := b.toNat_lt; omega
            have hn2 : decW (s.take (i + 1)) 0 = some (t + d) := by
              rw [List.take_succ_eq_append_getElem hlt, hgb, decW_app, hn, Option.bind_some]
              show (if 48 ≤ b.toNat ∧ b.toNat ≤ 57 then some _ else none) = some _
              rw [if_pos (by omega), ht, hd]
            simp -implicitDefEqProofs [hlt, hx, hgb, d1, d2, e1, e2, e3, e4, w1]
            exact .mk (m := m - 1) (by omega) (by rw [hI]; exact ⟨rfl, i + 1, t + d, by omega, hn2, rfl⟩)
      · rw [List.take_of_length_le (by omega)] at hn
        have e1 : (n : Int) ≤ 999999999 := by omega
        simp -implicitDefEqProofs [hlt, e1]
        exact hq1 n (by rw [hnr, hn])
    refine orD (fun d1 => ?_) (fun d1 => ?_)
    · simp -implicitDefEqProofs [d1, hx0, hg0, hpos]
      refine orD (fun d2 => ?_) (fun d2 => ?_)
      · simp -implicitDefEqProofs [d1, d2, hx0, hg0, hpos]
        refine hq2 ?_
        unfold numR
        rw [if_pos (.inr (.inr ⟨by omega, by rw [hh]; congr 1; exact UInt8.toNat_inj.1 (by show c0.toNat = 48; omega)⟩))]
      · simp -implicitDefEqProofs [d1, d2, hx0, hg0, hpos]
        exact tail (fun x => d2 (by omega))
    · simp -implicitDefEqProofs [d1]
      exact tail (fun x => d1 (by omega))
end
end Go.Proofs.YtofnbldbggddmaaGreatDoor
set_option linter.all false
set_option maxRecDepth 100000
set_option maxHeartbeats 4000000
namespace Go.Proofs.YtofnbldbggddmaaGreatDoor
open Go Go.RowKit Go.Proofs
section
variable {ro : Nat → Option (List AVal)} {h : AHeap} {v : AVal} {ws : List Str}
theorem numF_lt {s : Str} {v : Nat} (h : numF s = some v) : v < 10 ^ 9 := by
  rw [numR_eq] at h
  unfold numR at h
  split at h
  · cases h
  · have := decW_lt (k := 0) (by decide) h
    exact Nat.lt_of_lt_of_le this (Nat.pow_le_pow_right (by decide) (by omega))
theorem rnum_ev {s : Str} {Q : AVal → AHeap → Prop} (hq : Q (.int .i64 (numI s)) h) : Ev (cfgR ro) 36 [.str s] h Q := by
  refine Ev.wp rfl rfl Tryz.func36 rfl ?_
  simp -implicitDefEqProofs [Tryz.f36]
  have hr := numR_eq s
  refine orD (fun c => ?_) (fun c => ?_)
  · simp -implicitDefEqProofs [c]
    have e : numI s = -1 := by
      unfold numI
      rw [hr]
      unfold numR
      rw [if_pos (.inr (.inl (by omega)))]
    rw [e] at hq
    exact hq
  · simp -implicitDefEqProofs [c]
    refine num01_ev (by omega) (fun v hv => ?_) (fun hv => ?_)
    · have hf : numF s = some v := by rw [hr, hv]
      have e : numI s = (v : Int) := by unfold numI; rw [hf]
      have hl := numF_lt hf
      have w1 : IntKind.i64.wrap (v : Int) = (v : Int) := w64 (by omega) (by omega)
      simp -implicitDefEqProofs [w1]
      rw [e] at hq
      exact hq
    · simp -implicitDefEqProofs
      have e : numI s = -1 := by unfold numI; rw [hr, hv]
      rw [e] at hq
      exact hq
theorem numI_some {s : Str} {v : Nat} (h : numF s = some v) : numI s = (v : Int) := by unfold numI; rw [h]
theorem numI_none {s : Str} (h : numF s = none) : numI s = -1 := by unfold numI; rw [h]
def arr4 (a b c d : Int) : AVal := .agg [.int .i64 a, .int .i64 b, .int .i64 c, .int .i64 d]
theorem rnums11_ev (W : WS ro h v ws) {Q : AVal → AHeap → Prop} (hq1 : ∀ x0 : Nat, ws.length = 2 → numsF (ws.drop 1) 1 = some [x0] → Q (.tuple [arr4 (x0 : Nat) 0 0 0, .bool true]) h) (hq2 : ∀ a b c d : Int, (ws.length = 2 → numsF (ws.drop 1) 1 = none) → Q (.tuple [arr4 a b c d, .bool false]) h) :
    Ev (cfgR ro) 28 [v, .int .i64 1, .int .i64 1] h Q := by
  refine Ev.wp rfl rfl Tryz.func28 rfl ?_
  have hL := W.len
  have wr0 : IntKind.i64.wrap 2 = 2 := by decide
  by_cases hl : ws.length = 2
  · obtain ⟨w0, w1, rfl⟩ : ∃ w0 w1, ws = [w0, w1] := by
      match ws, hl with
      | [w0, w1], _ => exact ⟨w0, w1, rfl⟩
    simp -implicitDefEqProofs [Tryz.f28, hL, wr0]
    obtain ⟨I, hI⟩ : ∃ I : Nat → List AVal → AHeap → Prop, I = fun m env h' => h' = h ∧ ∃ (i : Nat) (a0 a1 a2 a3 : Int), i + m = 1 ∧ (i ≤ 0 → a0 = 0) ∧ (i ≤ 1 → a1 = 0) ∧ (i ≤ 2 → a2 = 0) ∧ (i ≤ 3 → a3 = 0) ∧ (0 < i → ∃ x : Nat, numF w1 = some x ∧ a0 = (x : Int)) ∧
      env = (v :: .int .i64 1 :: .int .i64 1 :: .dead :: .dead :: .dead :: .cell [.int .i64 0, .int .i64 0, .int .i64 0, .int .i64 0] :: .dead :: .cell [.int .i64 (a0), .int .i64 (a1), .int .i64 (a2), .int .i64 (a3)] :: .int .i64 (i : Nat) :: .dead :: .dead :: .dead :: .dead :: .dead :: .dead :: .dead :: .dead :: .dead :: .dead :: .dead :: .dead :: .dead :: .dead :: .dead :: .dead :: .dead :: .dead :: .dead :: .dead :: .dead :: .dead :: .dead :: .dead :: .dead :: .dead :: .dead :: []) := ⟨_, rfl⟩
    refine loop_of I ?_ 1 (by rw [hI]; exact ⟨rfl, 0, 0, 0, 0, 0, by omega, fun _ => rfl, fun _ => rfl, fun _ => rfl, fun _ => rfl, fun h => by omega, rfl⟩)
    intro m env h' hi
    rw [hI] at hi
    obtain ⟨rfl, i, a0, a1, a2, a3, him, z0, z1, z2, z3, y0, rfl⟩ := hi
    have hi7 : i = 0 ∨ i = 1 := by omega
    rcases hi7 with rfl | rfl
    · have e1 : indexAddrR Tryz.prog 67 v (.int .i64 1) = .ok (elp v 1 1) := W.ix (i := 1) (w := w1) rfl
      have l1 := W.ld (i := 1) (w := w1) rfl
      have wr1 : IntKind.i64.wrap 1 = 1 := by decide
      have hi4 : idxNat (.int .i64 0) 4 = .ok 0 := ix_nat (i := 0) (by decide)
      have wr2 : IntKind.i64.wrap 1 = 1 := by decide
      simp -implicitDefEqProofs [e1, l1, wr1, wr2]
      refine rnum_ev ?_
      cases hx : numF w1 with
      | none =>
        have en := numI_none hx
        simp -implicitDefEqProofs [en, hi4]
        refine hq2 _ _ _ _ (fun _ => ?_)
        show numsM [w1] = none
        simp only [numsM, hx]
        try (cases numF w1 <;> try (cases numF w1 <;> rfl))
        try rfl
      | some x =>
        have en := numI_some hx
        have nx : ¬ ((x : Int) < 0) := by omega
        simp -implicitDefEqProofs [en, nx, wr1, wr2, hi4]
        exact .mk (m := m - 1) (by omega) (by rw [hI]; exact ⟨rfl, 1, (x : Int), a1, a2, a3, by omega, fun h => by omega, fun h => z1 (by omega), fun h => z2 (by omega), fun h => z3 (by omega), fun h => ⟨x, hx, rfl⟩, rfl⟩)
    · simp -implicitDefEqProofs
      obtain ⟨b0, g0, e0⟩ := y0 (by omega)
      have e : numsF ([w0, w1].drop 1) 1 = some [b0] := by
        show numsM [w1] = _
        simp only [numsM, g0]
      have := hq1 b0 rfl e
      rw [e0, z1 (by omega), z2 (by omega), z3 (by omega)]
      simpa [arr4] using this
  · have hn : ¬ ((ws.length : Int) = 2) := by omega
    simp -implicitDefEqProofs [Tryz.f28, hL, wr0, hn]
    exact hq2 0 0 0 0 (fun e => (hl e).elim)
theorem rnums42_ev (W : WS ro h v ws) {Q : AVal → AHeap → Prop} (hq1 : ∀ x0 x1 : Nat, ws.length = 6 → numsF (ws.drop 4) 2 = some [x0, x1] → Q (.tuple [arr4 (x0 : Nat) (x1 : Nat) 0 0, .bool true]) h) (hq2 : ∀ a b c d : Int, (ws.length = 6 → numsF (ws.drop 4) 2 = none) → Q (.tuple [arr4 a b c d, .bool false]) h) :
    Ev (cfgR ro) 28 [v, .int .i64 4, .int .i64 2] h Q := by
  refine Ev.wp rfl rfl Tryz.func28 rfl ?_
  have hL := W.len
  have wr0 : IntKind.i64.wrap 6 = 6 := by decide
  by_cases hl : ws.length = 6
  · obtain ⟨w0, w1, w2, w3, w4, w5, rfl⟩ : ∃ w0 w1 w2 w3 w4 w5, ws = [w0, w1, w2, w3, w4, w5] := by
      match ws, hl with
      | [w0, w1, w2, w3, w4, w5], _ => exact ⟨w0, w1, w2, w3, w4, w5, rfl⟩
    simp -implicitDefEqProofs [Tryz.f28, hL, wr0]
    obtain ⟨I, hI⟩ : ∃ I : Nat → List AVal → AHeap → Prop, I = fun m env h' => h' = h ∧ ∃ (i : Nat) (a0 a1 a2 a3 : Int), i + m = 2 ∧ (i ≤ 0 → a0 = 0) ∧ (i ≤ 1 → a1 = 0) ∧ (i ≤ 2 → a2 = 0) ∧ (i ≤ 3 → a3 = 0) ∧ (0 < i → ∃ x : Nat, numF w4 = some x ∧ a0 = (x : Int)) ∧ (1 < i → ∃ x : Nat, numF w5 = some x ∧ a1 = (x : Int)) ∧
      env = (v :: .int .i64 4 :: .int .i64 2 :: .dead :: .dead :: .dead :: .cell [.int .i64 0, .int .i64 0, .int .i64 0, .int .i64 0] :: .dead :: .cell [.int .i64 (a0), .int .i64 (a1), .int .i64 (a2), .int .i64 (a3)] :: .int .i64 (i : Nat) :: .dead :: .dead :: .dead :: .dead :: .dead :: .dead :: .dead :: .dead :: .dead :: .dead :: .dead :: .dead :: .dead :: .dead :: .dead :: .dead :: .dead :: .dead :: .dead :: .dead :: .dead :: .dead :: .dead :: .dead :: .dead :: .dead :: .dead :: []) := ⟨_, rfl⟩
    refine loop_of I ?_ 2 (by rw [hI]; exact ⟨rfl, 0, 0, 0, 0, 0, by omega, fun _ => rfl, fun _ => rfl, fun _ => rfl, fun _ => rfl, fun h => by omega, fun h => by omega, rfl⟩)
    intro m env h' hi
    rw [hI] at hi
    obtain ⟨rfl, i, a0, a1, a2, a3, him, z0, z1, z2, z3, y0, y1, rfl⟩ := hi
    have hi7 : i = 0 ∨ i = 1 ∨ i = 2 := by omega
    rcases hi7 with rfl | rfl | rfl
    · have e1 : indexAddrR Tryz.prog 67 v (.int .i64 4) = .ok (elp v 1 4) := W.ix (i := 4) (w := w4) rfl
      have l1 := W.ld (i := 4) (w := w4) rfl
      have wr1 : IntKind.i64.wrap 4 = 4 := by decide
      have hi4 : idxNat (.int .i64 0) 4 = .ok 0 := ix_nat (i := 0) (by decide)
      have wr2 : IntKind.i64.wrap 1 = 1 := by decide
      simp -implicitDefEqProofs [e1, l1, wr1, wr2]
      refine rnum_ev ?_
      cases hx : numF w4 with
      | none =>
        have en := numI_none hx
        simp -implicitDefEqProofs [en, hi4]
        refine hq2 _ _ _ _ (fun _ => ?_)
        show numsM [w4, w5] = none
        simp only [numsM, hx]
        try (cases numF w4 <;> try (cases numF w5 <;> rfl))
        try rfl
      | some x =>
        have en := numI_some hx
        have nx : ¬ ((x : Int) < 0) := by omega
        simp -implicitDefEqProofs [en, nx, wr1, wr2, hi4]
        exact .mk (m := m - 1) (by omega) (by rw [hI]; exact ⟨rfl, 1, (x : Int), a1, a2, a3, by omega, fun h => by omega, fun h => z1 (by omega), fun h => z2 (by omega), fun h => z3 (by omega), fun h => ⟨x, hx, rfl⟩, fun h => by omega, rfl⟩)
    · have e1 : indexAddrR Tryz.prog 67 v (.int .i64 5) = .ok (elp v 1 5) := W.ix (i := 5) (w := w5) rfl
      have l1 := W.ld (i := 5) (w := w5) rfl
      have wr1 : IntKind.i64.wrap 5 = 5 := by decide
      have hi4 : idxNat (.int .i64 1) 4 = .ok 1 := ix_nat (i := 1) (by decide)
      have wr2 : IntKind.i64.wrap 2 = 2 := by decide
      simp -implicitDefEqProofs [e1, l1, wr1, wr2]
      refine rnum_ev ?_
      cases hx : numF w5 with
      | none =>
        have en := numI_none hx
        simp -implicitDefEqProofs [en, hi4]
        refine hq2 _ _ _ _ (fun _ => ?_)
        show numsM [w4, w5] = none
        simp only [numsM, hx]
        try (cases numF w4 <;> try (cases numF w5 <;> rfl))
        try rfl
      | some x =>
        have en := numI_some hx
        have nx : ¬ ((x : Int) < 0) := by omega
        simp -implicitDefEqProofs [en, nx, wr1, wr2, hi4]
        exact .mk (m := m - 1) (by omega) (by rw [hI]; exact ⟨rfl, 2, a0, (x : Int), a2, a3, by omega, fun h => by omega, fun h => by omega, fun h => z2 (by omega), fun h => z3 (by omega), fun h => y0 (by omega), fun h => ⟨x, hx, rfl⟩, rfl⟩)
    · simp -implicitDefEqProofs
      obtain ⟨b0, g0, e0⟩ := y0 (by omega)
      obtain ⟨b1, g1, e1⟩ := y1 (by omega)
      have e : numsF ([w0, w1, w2, w3, w4, w5].drop 4) 2 = some [b0, b1] := by
        show numsM [w4, w5] = _
        simp only [numsM, g0, g1]
      have := hq1 b0 b1 rfl e
      rw [e0, e1, z2 (by omega), z3 (by omega)]
      simpa [arr4] using this
  · have hn : ¬ ((ws.length : Int) = 6) := by omega
    simp -implicitDefEqProofs [Tryz.f28, hL, wr0, hn]
    exact hq2 0 0 0 0 (fun e => (hl e).elim)
theorem rnums43_ev (W : WS ro h v ws) {Q : AVal → AHeap → Prop} (hq1 : ∀ x0 x1 x2 : Nat, ws.length = 7 → numsF (ws.drop 4) 3 = some [x0, x1, x2] → Q (.tuple [arr4 (x0 : Nat) (x1 : Nat) (x2 : Nat) 0, .bool true]) h) (hq2 : ∀ a b c d : Int, (ws.length = 7 → numsF (ws.drop 4) 3 = none) → Q (.tuple [arr4 a b c d, .bool false]) h) :
    Ev (cfgR ro) 28 [v, .int .i64 4, .int .i64 3] h Q := by
  refine Ev.wp rfl rfl Tryz.func28 rfl ?_
  have hL := W.len
  have wr0 : IntKind.i64.wrap 7 = 7 := by decide
  by_cases hl : ws.length = 7
  · obtain ⟨w0, w1, w2, w3, w4, w5, w6, rfl⟩ : ∃ w0 w1 w2 w3 w4 w5 w6, ws = [w0, w1, w2, w3, w4, w5, w6] := by
      match ws, hl with
      | [w0, w1, w2, w3, w4, w5, w6], _ => exact ⟨w0, w1, w2, w3, w4, w5, w6, rfl⟩
    simp -implicitDefEqProofs [Tryz.f28, hL, wr0]
    obtain ⟨I, hI⟩ : ∃ I : Nat → List AVal → AHeap → Prop, I = fun m env h' => h' = h ∧ ∃ (i : Nat) (a0 a1 a2 a3 : Int), i + m = 3 ∧ (i ≤ 0 → a0 = 0) ∧ (i ≤ 1 → a1 = 0) ∧ (i ≤ 2 → a2 = 0) ∧ (i ≤ 3 → a3 = 0) ∧ (0 < i → ∃ x : Nat, numF w4 = some x ∧ a0 = (x : Int)) ∧ (1 < i → ∃ x : Nat, numF w5 = some x ∧ a1 = (x : Int)) ∧ (2 < i → ∃ x : Nat, numF w6 = some x ∧ a2 = (x : Int)) ∧
      env = (v :: .int .i64 4 :: .int .i64 3 :: .dead :: .dead :: .dead :: .cell [.int .i64 0, .int .i64 0, .int .i64 0, .int .i64 0] :: .dead :: .cell [.int .i64 (a0), .int .i64 (a1), .int .i64 (a2), .int .i64 (a3)] :: .int .i64 (i : Nat) :: .dead :: .dead :: .dead :: .dead :: .dead :: .dead :: .dead :: .dead :: .dead :: .dead :: .dead :: .dead :: .dead :: .dead :: .dead :: .dead :: .dead :: .dead :: .dead :: .dead :: .dead :: .dead :: .dead :: .dead :: .dead :: .dead :: .dead :: []) := ⟨_, rfl⟩
    refine loop_of I ?_ 3 (by rw [hI]; exact ⟨rfl, 0, 0, 0, 0, 0, by omega, fun _ => rfl, fun _ => rfl, fun _ => rfl, fun _ => rfl, fun h => by omega, fun h => by omega, fun h => by omega, rfl⟩)
    intro m env h' hi
    rw [hI] at hi
    obtain ⟨rfl, i, a0, a1, a2, a3, him, z0, z1, z2, z3, y0, y1, y2, rfl⟩ := hi
    have hi7 : i = 0 ∨ i = 1 ∨ i = 2 ∨ i = 3 := by omega
    rcases hi7 with rfl | rfl | rfl | rfl
    · have e1 : indexAddrR Tryz.prog 67 v (.int .i64 4) = .ok (elp v 1 4) := W.ix (i := 4) (w := w4) rfl
      have l1 := W.ld (i := 4) (w := w4) rfl
      have wr1 : IntKind.i64.wrap 4 = 4 := by decide
      have hi4 : idxNat (.int .i64 0) 4 = .ok 0 := ix_nat (i := 0) (by decide)
      have wr2 : IntKind.i64.wrap 1 = 1 := by decide
      simp -implicitDefEqProofs [e1, l1, wr1, wr2]
      refine rnum_ev ?_
      cases hx : numF w4 with
      | none =>
        have en := numI_none hx
        simp -implicitDefEqProofs [en, hi4]
        refine hq2 _ _ _ _ (fun _ => ?_)
        show numsM [w4, w5, w6] = none
        simp only [numsM, hx]
        try (cases numF w4 <;> try (cases numF w5 <;> rfl))
        try rfl
      | some x =>
        have en := numI_some hx
        have nx : ¬ ((x : Int) < 0) := by omega
        simp -implicitDefEqProofs [en, nx, wr1, wr2, hi4]
        exact .mk (m := m - 1) (by omega) (by rw [hI]; exact ⟨rfl, 1, (x : Int), a1, a2, a3, by omega, fun h => by omega, fun h => z1 (by omega), fun h => z2 (by omega), fun h => z3 (by omega), fun h => ⟨x, hx, rfl⟩, fun h => by omega, fun h => by omega, rfl⟩)
    · have e1 : indexAddrR Tryz.prog 67 v (.int .i64 5) = .ok (elp v 1 5) := W.ix (i := 5) (w := w5) rfl
      have l1 := W.ld (i := 5) (w := w5) rfl
      have wr1 : IntKind.i64.wrap 5 = 5 := by decide
      have hi4 : idxNat (.int .i64 1) 4 = .ok 1 := ix_nat (i := 1) (by decide)
      have wr2 : IntKind.i64.wrap 2 = 2 := by decide
      simp -implicitDefEqProofs [e1, l1, wr1, wr2]
      refine rnum_ev ?_
      cases hx : numF w5 with
      | none =>
        have en := numI_none hx
        simp -implicitDefEqProofs [en, hi4]
        refine hq2 _ _ _ _ (fun _ => ?_)
        show numsM [w4, w5, w6] = none
        simp only [numsM, hx]
        try (cases numF w4 <;> try (cases numF w5 <;> rfl))
        try rfl
      | some x =>
        have en := numI_some hx
        have nx : ¬ ((x : Int) < 0) := by omega
        simp -implicitDefEqProofs [en, nx, wr1, wr2, hi4]
        exact .mk (m := m - 1) (by omega) (by rw [hI]; exact ⟨rfl, 2, a0, (x : Int), a2, a3, by omega, fun h => by omega, fun h => by omega, fun h => z2 (by omega), fun h => z3 (by omega), fun h => y0 (by omega), fun h => ⟨x, hx, rfl⟩, fun h => by omega, rfl⟩)
    · have e1 : indexAddrR Tryz.prog 67 v (.int .i64 6) = .ok (elp v 1 6) := W.ix (i := 6) (w := w6) rfl
      have l1 := W.ld (i := 6) (w := w6) rfl
      have wr1 : IntKind.i64.wrap 6 = 6 := by decide
      have hi4 : idxNat (.int .i64 2) 4 = .ok 2 := ix_nat (i := 2) (by decide)
      have wr2 : IntKind.i64.wrap 3 = 3 := by decide
      simp -implicitDefEqProofs [e1, l1, wr1, wr2]
      refine rnum_ev ?_
      cases hx : numF w6 with
      | none =>
        have en := numI_none hx
        simp -implicitDefEqProofs [en, hi4]
        refine hq2 _ _ _ _ (fun _ => ?_)
        show numsM [w4, w5, w6] = none
        simp only [numsM, hx]
        try (cases numF w4 <;> try (cases numF w5 <;> rfl))
        try rfl
      | some x =>
        have en := numI_some hx
        have nx : ¬ ((x : Int) < 0) := by omega
        simp -implicitDefEqProofs [en, nx, wr1, wr2, hi4]
        exact .mk (m := m - 1) (by omega) (by rw [hI]; exact ⟨rfl, 3, a0, a1, (x : Int), a3, by omega, fun h => by omega, fun h => by omega, fun h => by omega, fun h => z3 (by omega), fun h => y0 (by omega), fun h => y1 (by omega), fun h => ⟨x, hx, rfl⟩, rfl⟩)
    · simp -implicitDefEqProofs
      obtain ⟨b0, g0, e0⟩ := y0 (by omega)
      obtain ⟨b1, g1, e1⟩ := y1 (by omega)
      obtain ⟨b2, g2, e2⟩ := y2 (by omega)
      have e : numsF ([w0, w1, w2, w3, w4, w5, w6].drop 4) 3 = some [b0, b1, b2] := by
        show numsM [w4, w5, w6] = _
        simp only [numsM, g0, g1, g2]
      have := hq1 b0 b1 b2 rfl e
      rw [e0, e1, e2, z3 (by omega)]
      simpa [arr4] using this
  · have hn : ¬ ((ws.length : Int) = 7) := by omega
    simp -implicitDefEqProofs [Tryz.f28, hL, wr0, hn]
    exact hq2 0 0 0 0 (fun e => (hl e).elim)
end
end Go.Proofs.YtofnbldbggddmaaGreatDoor
