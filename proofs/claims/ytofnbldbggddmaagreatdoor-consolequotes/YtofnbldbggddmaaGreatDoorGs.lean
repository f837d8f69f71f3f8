/-
  A part of the proof of ConsoleWords, over the seat YtofnbldbggddmaaGreatDoor: for every input the law returns true, and the input reads as it did.
-/
import Derived.Test.YtofnbldbggddmaaGreatDoorGg
set_option linter.all false
set_option linter.all false
set_option maxRecDepth 100000
set_option maxHeartbeats 4000000
namespace Go.Proofs.YtofnbldbggddmaaGreatDoor
open Go Go.RowKit Go.Proofs
abbrev Str := List UInt8
@[simp] theorem get_set_self (h : AHeap) (o : Nat) (x : AObj) : (h.set o x).get o = some x := by rw [AHeap.get_set, if_pos rfl]
theorem get_set_ne {h : AHeap} {o q : Nat} {x : AObj} (d : q ≠ o) : (h.set q x).get o = h.get o := by rw [AHeap.get_set, if_neg d.symm]
def plainB (b : UInt8) : Bool := decide (b.toNat = 10 ∨ (32 ≤ b.toNat ∧ b.toNat ≤ 126))
def plain (s : Str) : Bool := s.all plainB
theorem plain_step (s : Str) (i : Nat) (hi : i < s.length) : plain (s.drop i) = (plainB (s[i]'hi) && plain (s.drop (i + 1))) := by
  unfold plain
  rw [List.drop_eq_getElem_cons hi, List.all_cons]
section
variable {ro : Nat → Option (List AVal)}
theorem plain_ev {h : AHeap} {s : Str} (hl : s.length < 2 ^ 60) {Q : AVal → AHeap → Prop} (hq : ∀ h', Old h h' → Q (.bool (plain s)) h') : Ev (cfgR ro) 18 [.str s] h Q := by
  refine Ev.wp rfl rfl Tryz.func18 rfl ?_
  simp -implicitDefEqProofs [Tryz.f18]
  obtain ⟨H, hH⟩ : ∃ H, H = h.push (.row 1 true (s.map fun x => .int .u8 (x.toNat : Int))) := ⟨_, rfl⟩
  have ho : Old h H := by rw [hH]; exact (Old.refl h).push _
  have hg : H.get h.next = some (.row 1 true (s.map fun x => .int .u8 (x.toNat : Int))) := by rw [hH, AHeap.get_push, if_pos rfl]
  rw [← hH]
  obtain ⟨I, hI⟩ : ∃ I : Nat → List AVal → AHeap → Prop, I = fun m env h' => h' = H ∧ ∃ i, m = s.length - i ∧ i ≤ s.length ∧ plain s = plain (s.drop i) ∧ env = (.dead :: .dead :: .dead :: .dead :: .dead :: .dead :: .sl h.next 0 s.length :: .int .i64 s.length :: .int .i64 (i : Nat) :: .dead :: .dead :: .dead :: .dead :: .dead :: .dead :: .dead :: .dead :: .dead :: .dead :: .dead :: .dead :: .dead :: .dead :: []) := ⟨_, rfl⟩
  refine loop_of I ?_ s.length (by rw [hI]; exact ⟨rfl, 0, by simp, Nat.zero_le _, rfl, rfl⟩)
  intro m env h' hi
  rw [hI] at hi
  obtain ⟨rfl, i, rfl, g1, g2, rfl⟩ := hi
  by_cases hlt : i < s.length
  · have d1 : decide ((i : Int) < (s.length : Int)) = true := decide_eq_true (by omega)
    obtain ⟨b, hb⟩ : ∃ b, b = s[i] := ⟨_, rfl⟩
    have hx : idxNat (.int .i64 (i : Int)) s.length = .ok i := ix_nat hlt
    have hn : nthR (s.map fun x => AVal.int .u8 (x.toNat : Int)) i = .ok (.int .u8 (b.toNat : Int)) := nthR_get (by rw [List.getElem?_map, List.getElem?_eq_getElem hlt, hb]; rfl)
    have hw : IntKind.i64.wrap ((i : Int) + 1) = ((i + 1 : Nat) : Int) := by rw [w64 (by omega) (by omega)]; omega
    have hs := plain_step s i hlt
    rw [← hb] at hs
    obtain ⟨n, hnn⟩ : ∃ n, n = b.toNat := ⟨_, rfl⟩
    unfold plainB at hs
    rw [← hnn] at hs hn
    obtain ⟨i1, hi1⟩ : ∃ i1, i1 = i + 1 := ⟨_, rfl⟩
    rw [← hi1] at hw hs
    have no : ¬ (n = 10 ∨ (32 ≤ n ∧ n ≤ 126)) → Q (.bool false) h' := fun hh => by
      have := hq h' ho
      rw [g2, hs, decide_eq_false hh, Bool.false_and] at this; exact this
    have yes : (n = 10 ∨ (32 ≤ n ∧ n ≤ 126)) → plain s = plain (s.drop i1) := fun hh => by rw [g2, hs, decide_eq_true hh, Bool.true_and]
    have go : plain s = plain (s.drop i1) → I (s.length - i1) ((.dead :: .dead :: .dead :: .dead :: .dead :: .dead :: .sl h.next 0 s.length :: .int .i64 s.length :: .int .i64 (i1 : Nat) :: .dead :: .dead :: .dead :: .dead :: .dead :: .dead :: .dead :: .dead :: .dead :: .dead :: .dead :: .dead :: .dead :: .dead :: [])) h' := fun hh => by rw [hI]; exact ⟨rfl, i1, rfl, by omega, hh, rfl⟩
    by_cases c1 : n = 10
    · subst c1
      simp -implicitDefEqProofs [d1, hlt, hx, hg, hn, hw]
      exact .mk (m := s.length - i1) (by omega) (go (yes (.inl rfl)))
    · have e1 : ¬ ((n : Int) = 10) := by omega
      by_cases c2 : n < 32
      · have d2 : decide ((n : Int) < 32) = true := decide_eq_true (by omega)
        simp -implicitDefEqProofs [d1, hlt, hx, hg, hn, hw, c1, e1, c2, d2]
        exact no (by omega)
      · have d2 : decide ((n : Int) < 32) = false := decide_eq_false (by omega)
        by_cases c3 : 126 < n
        · have d3 : decide (126 < (n : Int)) = true := decide_eq_true (by omega)
          simp -implicitDefEqProofs [d1, hlt, hx, hg, hn, hw, c1, e1, c2, d2, c3, d3]
          exact no (by omega)
        · have d3 : decide (126 < (n : Int)) = false := decide_eq_false (by omega)
          simp -implicitDefEqProofs [d1, hlt, hx, hg, hn, hw, c1, e1, c2, d2, c3, d3]
          exact .mk (m := s.length - i1) (by omega) (go (yes (.inr ⟨by omega, by omega⟩)))
  · have d1 : decide ((i : Int) < (s.length : Int)) = false := decide_eq_false (by omega)
    simp -implicitDefEqProofs [d1, hlt]
    have := hq h' ho
    rw [g2, List.drop_eq_nil_of_le (by omega)] at this
    exact this
theorem plain8_ev {h : AHeap} {s : Str} (hl : s.length < 2 ^ 60) {Q : AVal → AHeap → Prop} (hq : Q (.bool (plain s)) h) : Ev (cfgR ro) 7 [.str s] h Q := by
  refine Ev.wp rfl rfl Tryz.func7 rfl ?_
  simp -implicitDefEqProofs [Tryz.f7]
  obtain ⟨I, hI⟩ : ∃ I : Nat → List AVal → AHeap → Prop, I = fun m env h' => h' = h ∧ ∃ i, m = s.length - i ∧ i ≤ s.length ∧ plain s = plain (s.drop i) ∧ env = (.str s :: .dead :: .dead :: .int .i64 (i : Nat) :: .dead :: .dead :: .dead :: .dead :: .dead :: .dead :: .dead :: .dead :: .dead :: .dead :: .dead :: .dead :: .dead :: .dead :: .dead :: .dead :: .dead :: .dead :: .dead :: .dead :: .dead :: .dead :: []) := ⟨_, rfl⟩
  refine loop_of I ?_ s.length (by rw [hI]; exact ⟨rfl, 0, by simp, Nat.zero_le _, rfl, rfl⟩)
  intro m env h' hi
  rw [hI] at hi
  obtain ⟨rfl, i, rfl, g1, g2, rfl⟩ := hi
  by_cases hlt : i < s.length
  · obtain ⟨b, hb⟩ : ∃ b, b = s[i] := ⟨_, rfl⟩
    have hx : idxNat (.int .i64 (i : Int)) s.length = .ok i := ix_nat hlt
    have hn : s[i]'hlt = b := hb.symm
    have hw : IntKind.i64.wrap ((i : Int) + 1) = ((i + 1 : Nat) : Int) := by rw [w64 (by omega) (by omega)]; omega
    have hs := plain_step s i hlt
    rw [← hb] at hs
    obtain ⟨n, hnn⟩ : ∃ n, n = b.toNat := ⟨_, rfl⟩
    unfold plainB at hs
    rw [← hnn] at hs
    obtain ⟨i1, hi1⟩ : ∃ i1, i1 = i + 1 := ⟨_, rfl⟩
    rw [← hi1] at hw hs
    have no : ¬ (n = 10 ∨ (32 ≤ n ∧ n ≤ 126)) → Q (.bool false) h' := fun hh => by
      rw [g2, hs, decide_eq_false hh, Bool.false_and] at hq; exact hq
    have yes : (n = 10 ∨ (32 ≤ n ∧ n ≤ 126)) → plain s = plain (s.drop i1) := fun hh => by rw [g2, hs, decide_eq_true hh, Bool.true_and]
    have go : plain s = plain (s.drop i1) → I (s.length - i1) ((.str s :: .dead :: .dead :: .int .i64 (i1 : Nat) :: .dead :: .dead :: .dead :: .dead :: .dead :: .dead :: .dead :: .dead :: .dead :: .dead :: .dead :: .dead :: .dead :: .dead :: .dead :: .dead :: .dead :: .dead :: .dead :: .dead :: .dead :: .dead :: [])) h' := fun hh => by rw [hI]; exact ⟨rfl, i1, rfl, by omega, hh, rfl⟩
    by_cases c1 : n = 10
    · simp -implicitDefEqProofs [hlt, hx, hn, hw, ← hnn, c1]
      exact .mk (m := s.length - i1) (by omega) (go (yes (.inl c1)))
    · have e1 : ¬ ((n : Int) = 10) := by omega
      by_cases c2 : n < 32
      · have d2 : decide ((n : Int) < 32) = true := decide_eq_true (by omega)
        simp -implicitDefEqProofs [hlt, hx, hn, hw, ← hnn, c1, e1, c2, d2]
        exact no (by omega)
      · have d2 : decide ((n : Int) < 32) = false := decide_eq_false (by omega)
        by_cases c3 : 126 < n
        · have d3 : decide ((126 : Int) < (n : Int)) = true := decide_eq_true (by omega)
          simp -implicitDefEqProofs [hlt, hx, hn, hw, ← hnn, c1, e1, c2, d2, c3, d3]
          exact no (by omega)
        · have d3 : decide ((126 : Int) < (n : Int)) = false := decide_eq_false (by omega)
          simp -implicitDefEqProofs [hlt, hx, hn, hw, ← hnn, c1, e1, c2, d2, c3, d3]
          exact .mk (m := s.length - i1) (by omega) (go (yes (by omega)))
  · have e : s.drop i = [] := List.drop_eq_nil_of_le (by omega)
    rw [g2, e] at hq
    simp -implicitDefEqProofs [hlt]
    exact hq
/-- a builder of one's own, in which something stands -/
def BL (h0 h : AHeap) (o : Nat) (s : Str) : Prop := Old h0 h ∧ h0.next ≤ o ∧ o < h.next ∧ ((s = [] ∧ h.get o = some (.bld 58 none)) ∨ (s ≠ [] ∧ ∃ q, h0.next ≤ q ∧ q < h.next ∧ q ≠ o ∧ h.get o = some (.bld 58 (some (q, s.length))) ∧ h.get q = some (.buf 5 s)))
theorem write_ev {h0 h : AHeap} {o : Nat} {s x : Str} (hb : BL h0 h o s) (hl : s.length + x.length ≤ 2 ^ 40) {Q : AVal → AHeap → Prop} (hK : ∀ h', BL h0 h' o (s ++ x) → Q (.tuple [.int .i64 x.length, .nili]) h') : Ev (cfgR ro) 20 [.ptr o 0, .str x] h Q := by
  obtain ⟨b1, b2, b3, b4⟩ := hb
  rcases b4 with ⟨rfl, hg⟩ | ⟨hs, q, q1, q2, q3, hg, hgq⟩
  · have hlx : ¬ 2 ^ 40 < x.length := by simp at hl; omega
    by_cases hx : x = []
    · subst hx
      refine Ev.prim (v := .tuple [.int .i64 ((0 : Nat) : Int), .nili]) (h' := (h.set o (.bld 58 none)).set o (.bld 58 none)) rfl (by show bldWrite _ _ _ _ = _; unfold bldWrite; simp [hg]) (hK _ ⟨(b1.set b2 _).set b2 _, b2, b3, .inl ⟨rfl, get_set_self _ _ _⟩⟩)
    · refine Ev.prim (v := .tuple [.int .i64 ((x.length : Nat) : Int), .nili]) (h' := ((h.set o (.bld 58 none)).push (.buf 5 x)).set o (.bld 58 (some (h.next, x.length)))) rfl (by show bldWrite _ _ _ _ = _; unfold bldWrite; simp only [hg]; rw [if_neg (by omega), if_neg hx]) (hK _ ⟨((b1.set b2 _).push _).set b2 _, b2, by simp; omega, .inr ⟨by simpa using hx, h.next, b1.1, by simp, by omega, by rw [get_set_self]; rfl, ?_⟩⟩)
      rw [get_set_ne (by omega), AHeap.get_push]; exact if_pos rfl
  · refine Ev.prim (v := .tuple [.int .i64 ((x.length : Nat) : Int), .nili]) (h' := (((h.set o (.bld 58 (some (q, s.length)))).del q).push (.buf 5 (s ++ x))).set o (.bld 58 (some (h.next, s.length + x.length)))) rfl (by show bldWrite _ _ _ _ = _; unfold bldWrite; simp only [hg, hgq]; rw [if_neg (by omega)]) (hK _ ⟨(((b1.set b2 _).del q1).push _).set b2 _, b2, by simp; omega, .inr ⟨by simp [hs], h.next, b1.1, by simp, by omega, by rw [get_set_self, List.length_append], ?_⟩⟩)
    rw [get_set_ne (by omega), AHeap.get_push]; exact if_pos rfl
theorem wbyte_ev {h0 h : AHeap} {o : Nat} {s : Str} {b : UInt8} (hb : BL h0 h o s) (hl : s.length + 1 ≤ 2 ^ 40) {Q : AVal → AHeap → Prop} (hK : ∀ h', BL h0 h' o (s ++ [b]) → Q .nili h') : Ev (cfgR ro) 19 [.ptr o 0, .int .u8 (b.toNat : Nat)] h Q := by
  obtain ⟨k, v, h', e, hbl⟩ := write_ev (ro := ro) (x := [b]) hb hl (Q := fun _ h' => BL h0 h' o (s ++ [b])) (fun h' q => q)
  have hw : ∃ v, bldWrite 58 5 [.ptr o 0, .str [b]] h = .ok (v, h') := by
    cases k with
    | zero => unfold callF at e; cases e
    | succ k => unfold callF at e; exact ⟨v, e⟩
  obtain ⟨v, hw⟩ := hw
  have hbn : (((b.toNat : Nat) : Int).toNat.toUInt8) = b := by simp
  refine Ev.prim (v := .nili) (h' := h') rfl ?_ (hK _ hbl)
  show bldByte _ _ _ _ = _
  unfold bldByte
  have hlt := b.toNat_lt
  simp only
  rw [if_neg (by omega), hbn, hw]
theorem bstr_ev {h0 h : AHeap} {o : Nat} {s : Str} (hb : BL h0 h o s) (hl : s.length ≤ 2 ^ 40) {Q : AVal → AHeap → Prop} (hK : ∀ h', Old h0 h' → Q (.str s) h') : Ev (cfgR ro) 21 [.ptr o 0] h Q := by
  obtain ⟨b1, b2, b3, b4⟩ := hb
  rcases b4 with ⟨rfl, hg⟩ | ⟨hs, q, q1, q2, q3, hg, hgq⟩
  · exact Ev.prim (v := .str []) (h' := h.del o) rfl (by show bldString _ _ _ _ = _; unfold bldString; simp [hg]) (hK _ (b1.del b2))
  · have hs0 : s.length ≠ 0 := by simpa using hs
    exact Ev.prim (v := .str s) (h' := (h.del o).del q) rfl (by show bldString _ _ _ _ = _; unfold bldString; simp only [hg, hgq]; rw [if_neg (by omega)]) (hK _ ((b1.del b2).del q1))
/-- rows stay -/
def Rows (o : Nat) (h h' : AHeap) : Prop := h.next ≤ h'.next ∧ ∀ p e f vs, p ≠ o → p < h.next → h.get p = some (.row e f vs) → h'.get p = some (.row e f vs)
theorem writeK_ev {h0 h : AHeap} {o : Nat} {s x : Str} (hb : BL h0 h o s) (hl : s.length + x.length ≤ 2 ^ 40) {Q : AVal → AHeap → Prop} (hK : ∀ h', BL h0 h' o (s ++ x) → Rows o h h' → Q (.tuple [.int .i64 x.length, .nili]) h') : Ev (cfgR ro) 20 [.ptr o 0, .str x] h Q := by
  obtain ⟨b1, b2, b3, b4⟩ := hb
  rcases b4 with ⟨rfl, hg⟩ | ⟨hs, q, q1, q2, q3, hg, hgq⟩
  · have hlx : ¬ 2 ^ 40 < x.length := by simp at hl; omega
    by_cases hx : x = []
    · subst hx
      refine Ev.prim (v := .tuple [.int .i64 ((0 : Nat) : Int), .nili]) (h' := (h.set o (.bld 58 none)).set o (.bld 58 none)) rfl (by show bldWrite _ _ _ _ = _; unfold bldWrite; simp [hg]) (hK _ ⟨(b1.set b2 _).set b2 _, b2, b3, .inl ⟨rfl, get_set_self _ _ _⟩⟩ ⟨Nat.le_refl _, fun p e f vs hp _ hg => by rw [get_set_ne (Ne.symm hp), get_set_ne (Ne.symm hp)]; exact hg⟩)
    · refine Ev.prim (v := .tuple [.int .i64 ((x.length : Nat) : Int), .nili]) (h' := ((h.set o (.bld 58 none)).push (.buf 5 x)).set o (.bld 58 (some (h.next, x.length)))) rfl (by show bldWrite _ _ _ _ = _; unfold bldWrite; simp only [hg]; rw [if_neg (by omega), if_neg hx]) (hK _ ⟨((b1.set b2 _).push _).set b2 _, b2, by simp; omega, .inr ⟨by simpa using hx, h.next, b1.1, by simp, by omega, by rw [get_set_self]; rfl, ?_⟩⟩ ⟨by simp, fun p e f vs hp hl hg => by rw [get_set_ne (Ne.symm hp), AHeap.get_push, if_neg (by simp; omega), get_set_ne (Ne.symm hp)]; exact hg⟩)
      rw [get_set_ne (by omega), AHeap.get_push]; exact if_pos rfl
  · refine Ev.prim (v := .tuple [.int .i64 ((x.length : Nat) : Int), .nili]) (h' := (((h.set o (.bld 58 (some (q, s.length)))).del q).push (.buf 5 (s ++ x))).set o (.bld 58 (some (h.next, s.length + x.length)))) rfl (by show bldWrite _ _ _ _ = _; unfold bldWrite; simp only [hg, hgq]; rw [if_neg (by omega)]) (hK _ ⟨(((b1.set b2 _).del q1).push _).set b2 _, b2, by simp; omega, .inr ⟨by simp [hs], h.next, b1.1, by simp, by omega, by rw [get_set_self, List.length_append], ?_⟩⟩ ⟨by simp, fun p e f vs hp hl hg => by
      have hpq : p ≠ q := fun e9 => by rw [e9] at hg; rw [hgq] at hg; cases hg
      rw [get_set_ne (Ne.symm hp), AHeap.get_push, if_neg (by simp; omega), AHeap.get_del, if_neg hpq, get_set_ne (Ne.symm hp)]; exact hg⟩)
    rw [get_set_ne (by omega), AHeap.get_push]; exact if_pos rfl
theorem wbyteK_ev {h0 h : AHeap} {o : Nat} {s : Str} {b : UInt8} (hb : BL h0 h o s) (hl : s.length + 1 ≤ 2 ^ 40) {Q : AVal → AHeap → Prop} (hK : ∀ h', BL h0 h' o (s ++ [b]) → Rows o h h' → Q .nili h') : Ev (cfgR ro) 19 [.ptr o 0, .int .u8 (b.toNat : Nat)] h Q := by
  obtain ⟨k, v, h', e, hbl⟩ := writeK_ev (ro := ro) (x := [b]) hb hl (Q := fun _ h' => BL h0 h' o (s ++ [b]) ∧ Rows o h h') (fun h' q r => ⟨q, r⟩)
  have hw : ∃ v, bldWrite 58 5 [.ptr o 0, .str [b]] h = .ok (v, h') := by
    cases k with
    | zero => unfold callF at e; cases e
    | succ k => unfold callF at e; exact ⟨v, e⟩
  obtain ⟨v, hw⟩ := hw
  have hbn : (((b.toNat : Nat) : Int).toNat.toUInt8) = b := by simp
  refine Ev.prim (v := .nili) (h' := h') rfl ?_ (hK _ hbl.1 hbl.2)
  show bldByte _ _ _ _ = _
  unfold bldByte
  have hlt := b.toNat_lt
  simp only
  rw [if_neg (by omega), hbn, hw]
end
end Go.Proofs.YtofnbldbggddmaaGreatDoor
set_option linter.all false
set_option maxRecDepth 100000
set_option maxHeartbeats 4000000
namespace Go.Proofs.YtofnbldbggddmaaGreatDoor
open Go Go.RowKit Go.Proofs
/-! quoting -/
def escB (b : UInt8) : Str := if b.toNat = 10 then [92, 110] else if b.toNat = 34 ∨ b.toNat = 92 then [92, b] else [b]
def esc (s : Str) : Str := s.flatMap escB
def quoteS (s : Str) : Str := 34 :: (esc s ++ [34])
theorem escB_len (b : UInt8) : (escB b).length ≤ 2 := by
  unfold escB
  split
  · decide
  · split <;> simp
theorem esc_len : ∀ s : Str, (esc s).length ≤ 2 * s.length
  | [] => by simp [esc]
  | b :: s => by
    have h1 := esc_len s
    have h2 := escB_len b
    unfold esc at h1 ⊢
    rw [List.flatMap_cons, List.length_append, List.length_cons]; omega
theorem esc_take {s : Str} {i : Nat} {b : UInt8} (h : s[i]? = some b) : esc (s.take (i + 1)) = esc (s.take i) ++ escB b := by
  obtain ⟨l, e⟩ := List.getElem?_eq_some_iff.1 h
  rw [List.take_succ_eq_append_getElem l, e]
  unfold esc
  rw [List.flatMap_append]; simp
def unqR : Str → Str → Option Str
  | [], _ => none
  | [b], out => if b.toNat = 34 then (if plain out then some out else none) else none
  | b :: c :: r, out => if b.toNat = 34 ∨ b.toNat = 10 then none else if b.toNat ≠ 92 then unqR (c :: r) (out ++ [b]) else if c.toNat = 110 then unqR r (out ++ [10]) else if c.toNat = 34 ∨ c.toNat = 92 then unqR r (out ++ [c]) else none
def unqS : Str → Option Str
  | [] => none
  | b :: r => if b.toNat = 34 then unqR r [] else none
theorem unqR_last : ∀ (n : Nat) (r out x : Str), r.length ≤ n → unqR r out = some x → ∃ b, r.getLast? = some b ∧ b.toNat = 34
  | n, [], _, _, _, h => by simp [unqR] at h
  | n, [b], out, x, _, h => by
    unfold unqR at h
    split at h
    · rename_i hb; exact ⟨b, rfl, hb⟩
    · cases h
  | 0, b :: c :: r, _, _, hl, _ => by simp at hl
  | n + 1, b :: c :: r, out, x, hl, h => by
    simp only [List.length_cons] at hl
    have go : ∀ (r' out' : Str), r'.length ≤ n → (b :: c :: r).getLast? = (b :: c :: r).getLast? → unqR r' out' = some x → (∃ p, b :: c :: r = p ++ r') → ∃ b', (b :: c :: r).getLast? = some b' ∧ b'.toNat = 34 := by
      intro r' out' hl' _ hh ⟨p, hp⟩
      obtain ⟨b', h1, h2⟩ := unqR_last n r' out' x hl' hh
      refine ⟨b', ?_, h2⟩
      rw [hp, List.getLast?_append, h1]; rfl
    unfold unqR at h
    split at h
    · cases h
    split at h
    · exact go (c :: r) _ (by simp; omega) rfl h ⟨[b], rfl⟩
    split at h
    · exact go r _ (by omega) rfl h ⟨[b, c], rfl⟩
    split at h
    · exact go r _ (by omega) rfl h ⟨[b, c], rfl⟩
    · cases h
theorem unqR_esc : ∀ (s t out : Str), t ≠ [] → unqR (esc s ++ t) out = unqR t (out ++ s)
  | [], t, out, _ => by simp [esc]
  | b :: s, t, out, ht => by
    have ih := unqR_esc s t (out ++ [b]) ht
    have hne : esc s ++ t ≠ [] := by simp [ht]
    have e : esc (b :: s) = escB b ++ esc s := by unfold esc; rw [List.flatMap_cons]
    rw [e, List.append_assoc]
    unfold escB
    by_cases c1 : b.toNat = 10
    · have hb : b = 10 := UInt8.toNat_inj.1 c1
      rw [if_pos c1]
      subst hb
      show unqR (92 :: 110 :: (esc s ++ t)) out = _
      conv => lhs; unfold unqR
      rw [if_neg (by decide), if_neg (by decide), if_pos (by decide), ih]; simp
    · rw [if_neg c1]
      by_cases c2 : b.toNat = 34 ∨ b.toNat = 92
      · rw [if_pos c2]
        show unqR (92 :: b :: (esc s ++ t)) out = _
        conv => lhs; unfold unqR
        rw [if_neg (by decide), if_neg (by decide), if_neg (by omega), if_pos c2, ih]; simp
      · rw [if_neg c2]
        show unqR (b :: (esc s ++ t)) out = _
        obtain ⟨c, r, hr⟩ : ∃ c r, esc s ++ t = c :: r := by
          cases h : esc s ++ t with
          | nil => exact (hne h).elim
          | cons c r => exact ⟨c, r, rfl⟩
        rw [hr] at ih ⊢
        conv => lhs; unfold unqR
        rw [if_neg (by omega), if_pos (by omega), ih]; simp
theorem unq_quote {s : Str} (hp : plain s = true) : unqS (quoteS s) = some s := by
  show (if (34 : UInt8).toNat = 34 then unqR (esc s ++ [34]) [] else none) = some s
  rw [if_pos (by decide), unqR_esc s [34] [] (by simp)]
  unfold unqR
  rw [if_pos (by decide)]
  simp [hp]
end Go.Proofs.YtofnbldbggddmaaGreatDoor
set_option linter.all false
set_option maxRecDepth 100000
set_option maxHeartbeats 4000000
namespace Go.Proofs.YtofnbldbggddmaaGreatDoor
open Go Go.RowKit Go.Proofs
section
variable {ro : Nat → Option (List AVal)}
theorem quote_ev {h : AHeap} {s : Str} (hl : s.length < 2 ^ 30) {Q : AVal → AHeap → Prop} (hq : ∀ h', Old h h' → Q (.str (quoteS s)) h') : Ev (cfgR ro) 9 [.str s] h Q := by
  refine Ev.wp rfl rfl Tryz.func9 rfl ?_
  have hbld : bldR h 58 (.agg [.nilp, .nils]) = .ok (.ptr h.next 0, h.push (.bld 58 none)) := by rfl
  have hel := esc_len s
  have hn34 : ((34 : UInt8).toNat : Int) = 34 := rfl
  have hn92 : ((92 : UInt8).toNat : Int) = 92 := rfl
  simp -implicitDefEqProofs [Tryz.f9, hbld]
  obtain ⟨H1, hH1⟩ : ∃ H1, H1 = h.push (.bld 58 none) := ⟨_, rfl⟩
  obtain ⟨o, hoo⟩ : ∃ o, o = h.next := ⟨_, rfl⟩
  have bl : BL h H1 o [] := ⟨by rw [hH1]; exact (Old.refl h).push _, by omega, by rw [hH1, hoo]; simp, .inl ⟨rfl, by rw [hH1, hoo, AHeap.get_push, if_pos rfl]⟩⟩
  rw [← hH1, ← hoo]
  refine wbyteK_ev (b := 34) bl (by simp) (fun h2 bl2 _ => ?_)
  rw [List.nil_append] at bl2
  simp -implicitDefEqProofs
  obtain ⟨H3, hH3⟩ : ∃ H3, H3 = h2.push (.row 1 true (s.map fun x => .int .u8 (x.toNat : Int))) := ⟨_, rfl⟩
  obtain ⟨q, hqq⟩ : ∃ q, q = h2.next := ⟨_, rfl⟩
  have hg3 : H3.get q = some (.row 1 true (s.map fun x => .int .u8 (x.toNat : Int))) := by rw [hH3, hqq, AHeap.get_push, if_pos rfl]
  have hn3 : H3.next = h2.next + 1 := by rw [hH3]; rfl
  have hoq : q ≠ o := by have := bl2.2.2.1; omega
  have bl3 : BL h H3 o [34] := by
    obtain ⟨b1, b2, b3, b4⟩ := bl2
    have ho3 : ∀ p, p < h2.next → H3.get p = h2.get p := fun p hp => by rw [hH3, AHeap.get_push, if_neg (by omega)]
    refine ⟨by rw [hH3]; exact b1.push _, b2, by omega, b4.imp (fun ⟨c1, c2⟩ => ⟨c1, by rw [ho3 o b3]; exact c2⟩) (fun ⟨c1, p, c2, c3, c4, c5, c6⟩ => ⟨c1, p, c2, by omega, c4, by rw [ho3 o b3]; exact c5, by rw [ho3 p c3]; exact c6⟩)⟩
  rw [← hH3, ← hqq]
  obtain ⟨I, hI⟩ : ∃ I : Nat → List AVal → AHeap → Prop, I = fun m env h' => ∃ i : Nat, i + m = s.length ∧ BL h h' o (34 :: esc (s.take i)) ∧ h'.get q = some (.row 1 true (s.map fun x => .int .u8 (x.toNat : Int))) ∧ q < h'.next ∧
    env = (.dead :: .dead :: .dead :: .ptr o 0 :: .dead :: .dead :: .dead :: .dead :: .sl q 0 s.length :: .int .i64 (s.length : Nat) :: .int .i64 (i : Nat) :: .dead :: .dead :: .dead :: .dead :: .dead :: .dead :: .dead :: .dead :: .dead :: .dead :: .dead :: .dead :: .dead :: .dead :: .dead :: .dead :: .dead :: .dead :: []) := ⟨_, rfl⟩
  refine loop_of I ?_ s.length (by rw [hI]; exact ⟨0, by omega, bl3, hg3, by omega, rfl⟩)
  intro m env h' hi
  rw [hI] at hi
  obtain ⟨i, him, hbl, hgq, hqn, rfl⟩ := hi
  have hil : (esc (s.take i)).length ≤ 2 * s.length := by
    have := esc_len (s.take i)
    rw [List.length_take] at this; omega
  by_cases hlt : i < s.length
  · obtain ⟨b, hb⟩ : ∃ b, s[i]? = some b := ⟨_, List.getElem?_eq_getElem hlt⟩
    have hx : idxNat (.int .i64 (i : Int)) s.length = .ok i := ix_nat hlt
    have hn : nthR (s.map fun x => AVal.int .u8 (x.toNat : Int)) i = .ok (.int .u8 (b.toNat : Int)) := nthR_get (by rw [List.getElem?_map, hb]; rfl)
    have w1 : IntKind.i64.wrap ((i : Int) + 1) = ((i + 1 : Nat) : Int) := by rw [w64 (by omega) (by omega)]; omega
    have ht := esc_take hb
    have fin : ∀ h4, BL h h4 o (34 :: esc (s.take i) ++ escB b) → h4.get q = some (.row 1 true (s.map fun x => .int .u8 (x.toNat : Int))) → q < h4.next → headK I m (.dead :: .dead :: .dead :: .ptr o 0 :: .dead :: .dead :: .dead :: .dead :: .sl q 0 s.length :: .int .i64 (s.length : Nat) :: .int .i64 (i + 1 : Nat) :: .dead :: .dead :: .dead :: .dead :: .dead :: .dead :: .dead :: .dead :: .dead :: .dead :: .dead :: .dead :: .dead :: .dead :: .dead :: .dead :: .dead :: .dead :: []) h4 := fun h4 c1 c2 c3 =>
      .mk (m := m - 1) (by omega) (by rw [hI]; exact ⟨i + 1, by omega, by rw [ht]; exact c1, c2, c3, rfl⟩)
    have d1 : decide ((i : Int) < (s.length : Int)) = true := decide_eq_true (by omega)
    simp -implicitDefEqProofs [hlt, hx, hgq, hn, w1]
    unfold escB at fin
    by_cases c1 : b.toNat = 10
    · have e1 : decide ((b.toNat : Int) = 10) = true := decide_eq_true (by omega)
      rw [if_pos c1] at fin
      simp -implicitDefEqProofs [e1]
      refine writeK_ev (x := [92, 110]) hbl (by simp; omega) (fun h4 bl4 r4 => ?_)
      simp -implicitDefEqProofs [w1]
      exact fin h4 bl4 (r4.2 q _ _ _ hoq hqn hgq) (by have := r4.1; omega)
    · have e1 : decide ((b.toNat : Int) = 10) = false := decide_eq_false (by omega)
      rw [if_neg c1] at fin
      by_cases c2 : b.toNat = 34 ∨ b.toNat = 92
      · rw [if_pos c2] at fin
        have go : ∀ K : AVal → AHeap → Prop, (∀ h4, BL h h4 o (34 :: esc (s.take i) ++ [92]) → h4.get q = some (.row 1 true (s.map fun x => .int .u8 (x.toNat : Int))) → q < h4.next → K .nili h4) → Ev (cfgR ro) 19 [.ptr o 0, .int .u8 92] h' K := fun K hK => by
          refine wbyteK_ev (b := 92) hbl (by simp; omega) (fun h4 bl4 r4 => hK h4 bl4 (r4.2 q _ _ _ hoq hqn hgq) (by have := r4.1; omega))
        by_cases c3 : b.toNat = 34
        · have e2 : decide ((b.toNat : Int) = 34) = true := decide_eq_true (by omega)
          simp -implicitDefEqProofs [e1, e2]
          refine go _ (fun h4 bl4 g4 n4 => ?_)
          simp -implicitDefEqProofs
          refine wbyteK_ev (b := b) bl4 (by simp; omega) (fun h5 bl5 r5 => ?_)
          simp -implicitDefEqProofs [w1]
          exact fin h5 (by simpa using bl5) (r5.2 q _ _ _ hoq n4 g4) (by have := r5.1; omega)
        · have e2 : decide ((b.toNat : Int) = 34) = false := decide_eq_false (by omega)
          have e3 : decide ((b.toNat : Int) = 92) = true := decide_eq_true (by omega)
          simp -implicitDefEqProofs [e1, e2, e3]
          refine go _ (fun h4 bl4 g4 n4 => ?_)
          simp -implicitDefEqProofs
          refine wbyteK_ev (b := b) bl4 (by simp; omega) (fun h5 bl5 r5 => ?_)
          simp -implicitDefEqProofs [w1]
          exact fin h5 (by simpa using bl5) (r5.2 q _ _ _ hoq n4 g4) (by have := r5.1; omega)
      · have e2 : decide ((b.toNat : Int) = 34) = false := decide_eq_false (by omega)
        have e3 : decide ((b.toNat : Int) = 92) = false := decide_eq_false (by omega)
        rw [if_neg c2] at fin
        simp -implicitDefEqProofs [e1, e2, e3]
        refine wbyteK_ev (b := b) hbl (by simp; omega) (fun h5 bl5 r5 => ?_)
        simp -implicitDefEqProofs [w1]
        exact fin h5 bl5 (r5.2 q _ _ _ hoq hqn hgq) (by have := r5.1; omega)
  · have d1 : decide ((i : Int) < (s.length : Int)) = false := decide_eq_false (by omega)
    have : s.take i = s := List.take_of_length_le (by omega)
    rw [this] at hbl
    simp -implicitDefEqProofs [hlt]
    refine wbyteK_ev (b := 34) hbl (by simp; omega) (fun h4 bl4 _ => ?_)
    simp -implicitDefEqProofs
    refine bstr_ev bl4 (by simp; omega) (fun h5 o5 => ?_)
    simp -implicitDefEqProofs
    exact hq h5 o5
theorem rquote_ev {h : AHeap} {s : Str} (hl : s.length < 2 ^ 30) {Q : AVal → AHeap → Prop} (hq : Q (.str (quoteS s)) h) : Ev (cfgR ro) 10 [.str s] h Q := by
  refine Ev.wp rfl rfl Tryz.func10 rfl ?_
  simp -implicitDefEqProofs [Tryz.f10]
  obtain ⟨I, hI⟩ : ∃ I : Nat → List AVal → AHeap → Prop, I = fun m env h' => h' = h ∧ ∃ i : Nat, i + m = s.length ∧
    env = (.str s :: .dead :: .dead :: .str (34 :: esc (s.take i)) :: .int .i64 (i : Nat) :: .dead :: .dead :: .dead :: .dead :: .dead :: .dead :: .dead :: .dead :: .dead :: .dead :: .dead :: .dead :: .dead :: .dead :: .dead :: .dead :: .dead :: .dead :: .dead :: .dead :: .dead :: .dead :: .dead :: .dead :: .dead :: .dead :: .dead :: .dead :: .dead :: .dead :: .dead :: .dead :: .dead :: .dead :: .dead :: .dead :: .dead :: .dead :: .dead :: []) := ⟨_, rfl⟩
  refine loop_of I ?_ s.length (by rw [hI]; exact ⟨rfl, 0, by omega, rfl⟩)
  intro m env h' hi
  rw [hI] at hi
  obtain ⟨rfl, i, him, rfl⟩ := hi
  by_cases hlt : i < s.length
  · obtain ⟨b, hb⟩ : ∃ b, s[i]? = some b := ⟨_, List.getElem?_eq_getElem hlt⟩
    have hgb : s[i]'hlt = b := by obtain ⟨_, e⟩ := List.getElem?_eq_some_iff.1 hb; exact e
    have w1 : IntKind.i64.wrap ((i : Int) + 1) = ((i + 1 : Nat) : Int) := by rw [w64 (by omega) (by omega)]; omega
    have ht := esc_take hb
    have hil : (esc (s.take i)).length ≤ 2 * s.length := by
      have := esc_len (s.take i)
      rw [List.length_take] at this; omega
    have hx : idxNat (.int .i64 (i : Int)) s.length = .ok i := ix_nat hlt
    have hb2 : bounds2 s.length s.length (some (.int .i64 (i : Nat))) (some (.int .i64 ((i : Int) + 1))) = .ok (i, i + 1) := by
      have := bd_both (n := s.length) (top := s.length) (a := i) (b := i + 1) (by omega) (by omega) .i64 .i64
      rw [Int.natCast_add, Int.natCast_one] at this
      exact this
    have hdt : (s.take (i + 1)).drop i = [b] := by
      rw [List.take_succ_eq_append_getElem hlt, hgb, List.drop_append_of_le_length (by rw [List.length_take]; omega), List.drop_of_length_le (by rw [List.length_take]; omega)]
      rfl
    have fin : ∀ x : Str, esc (s.take (i + 1)) = x → headK I m (.str s :: .dead :: .dead :: .str (34 :: x) :: .int .i64 ((i : Int) + 1) :: .dead :: .dead :: .dead :: .dead :: .dead :: .dead :: .dead :: .dead :: .dead :: .dead :: .dead :: .dead :: .dead :: .dead :: .dead :: .dead :: .dead :: .dead :: .dead :: .dead :: .dead :: .dead :: .dead :: .dead :: .dead :: .dead :: .dead :: .dead :: .dead :: .dead :: .dead :: .dead :: .dead :: .dead :: .dead :: .dead :: .dead :: .dead :: .dead :: []) h' := fun x hx =>
      .mk (m := m - 1) (by omega) (by rw [hI]; exact ⟨rfl, i + 1, by omega, by rw [hx]; simp⟩)
    unfold escB at ht
    by_cases c1 : b.toNat = 10
    · have e1 : decide ((b.toNat : Int) = 10) = true := decide_eq_true (by omega)
      rw [if_pos c1] at ht
      simp -implicitDefEqProofs [hlt, w1, hx, hgb, e1]
      exact ⟨by omega, fin _ ht⟩
    · have e1 : decide ((b.toNat : Int) = 10) = false := decide_eq_false (by omega)
      rw [if_neg c1] at ht
      by_cases c2 : b.toNat = 34
      · have e2 : decide ((b.toNat : Int) = 34) = true := decide_eq_true (by omega)
        simp -implicitDefEqProofs [hlt, w1, hx, hgb, e1, e2, hb2, hdt]
        exact ⟨by omega, by omega, fin _ (by rw [ht, if_pos (.inl c2)])⟩
      · have e2 : decide ((b.toNat : Int) = 34) = false := decide_eq_false (by omega)
        by_cases c3 : b.toNat = 92
        · have e3 : decide ((b.toNat : Int) = 92) = true := decide_eq_true (by omega)
          simp -implicitDefEqProofs [hlt, w1, hx, hgb, e1, e2, e3, hb2, hdt]
          exact ⟨by omega, by omega, fin _ (by rw [ht, if_pos (.inr c3)])⟩
        · have e3 : decide ((b.toNat : Int) = 92) = false := decide_eq_false (by omega)
          simp -implicitDefEqProofs [hlt, w1, hx, hgb, e1, e2, e3, hb2, hdt]
          exact ⟨by omega, fin _ (by rw [ht, if_neg (by omega)])⟩
  · have : s.take i = s := List.take_of_length_le (by omega)
    rw [this]
    have hel := esc_len s
    simp -implicitDefEqProofs [hlt]
    exact ⟨by omega, hq⟩
end
end Go.Proofs.YtofnbldbggddmaaGreatDoor
set_option linter.all false
set_option maxRecDepth 100000
set_option maxHeartbeats 4000000
namespace Go.Proofs.YtofnbldbggddmaaGreatDoor
open Go Go.RowKit Go.Proofs
/-! the words of errors -/
def errNs : List Nat := [0, 10, 11, 12, 13, 14, 15, 16, 20, 21, 22, 30, 31, 40, 41, 42, 50]
def errWs : List AVal := [.str [111, 107], .str [114, 97, 110, 103, 101], .str [102, 111, 114, 109], .str [110, 111, 110, 101], .str [109, 97, 110, 121], .str [115, 104, 111, 114, 116], .str [108, 111, 110, 103], .str [116, 119, 105, 99, 101], .str [111, 118, 101, 114, 102, 108, 111, 119], .str [102, 117, 108, 108], .str [110, 111, 116, 104, 105, 110, 103], .str [102, 114, 97, 109, 101], .str [115, 117, 109], .str [114, 101, 102], .str [111, 119, 110], .str [117, 115, 101, 114], .str [119, 111, 114, 100]]
section
variable {ro : Nat → Option (List AVal)}
theorem word_r {h : AHeap} : ∀ (n : Nat) (w : AVal), (n, w) ∈ errNs.zip errWs → Run (cfgR ro) 12 [.int .i64 (n : Nat)] h w h := by
  intro n w hm
  simp only [errNs, errWs, List.zip_cons_cons, List.zip_nil_right, List.mem_cons, List.not_mem_nil, or_false, Prod.mk.injEq] at hm
  rcases hm with ⟨rfl, rfl⟩ | ⟨rfl, rfl⟩ | ⟨rfl, rfl⟩ | ⟨rfl, rfl⟩ | ⟨rfl, rfl⟩ | ⟨rfl, rfl⟩ | ⟨rfl, rfl⟩ | ⟨rfl, rfl⟩ | ⟨rfl, rfl⟩ | ⟨rfl, rfl⟩ | ⟨rfl, rfl⟩ | ⟨rfl, rfl⟩ | ⟨rfl, rfl⟩ | ⟨rfl, rfl⟩ | ⟨rfl, rfl⟩ | ⟨rfl, rfl⟩ | ⟨rfl, rfl⟩
  all_goals exact ⟨200, by kernel_rfl⟩
theorem rword_r {h : AHeap} : ∀ (n : Nat) (w : AVal), (n, w) ∈ errNs.zip errWs → Run (cfgR ro) 13 [.int .i64 (n : Nat)] h w h := by
  intro n w hm
  simp only [errNs, errWs, List.zip_cons_cons, List.zip_nil_right, List.mem_cons, List.not_mem_nil, or_false, Prod.mk.injEq] at hm
  rcases hm with ⟨rfl, rfl⟩ | ⟨rfl, rfl⟩ | ⟨rfl, rfl⟩ | ⟨rfl, rfl⟩ | ⟨rfl, rfl⟩ | ⟨rfl, rfl⟩ | ⟨rfl, rfl⟩ | ⟨rfl, rfl⟩ | ⟨rfl, rfl⟩ | ⟨rfl, rfl⟩ | ⟨rfl, rfl⟩ | ⟨rfl, rfl⟩ | ⟨rfl, rfl⟩ | ⟨rfl, rfl⟩ | ⟨rfl, rfl⟩ | ⟨rfl, rfl⟩ | ⟨rfl, rfl⟩
  all_goals exact ⟨200, by kernel_rfl⟩
def noErr (e : Int) : Prop := ∀ n ∈ errNs, e ≠ (n : Nat)
theorem word_none {h : AHeap} {e : Int} (he : noErr e) {Q : AVal → AHeap → Prop} (hq : Q (.str [101, 114, 114, 111, 114]) h) : Ev (cfgR ro) 12 [.int .i64 e] h Q := by
  refine Ev.wp rfl rfl Tryz.func12 rfl ?_
  have g : ∀ n, n ∈ errNs → ¬ e = ((n : Nat) : Int) := he
  have g0 : ¬ e = 0 := g 0 (by decide)
  have g1 : ¬ e = 10 := g 10 (by decide)
  have g2 : ¬ e = 11 := g 11 (by decide)
  have g3 : ¬ e = 12 := g 12 (by decide)
  have g4 : ¬ e = 13 := g 13 (by decide)
  have g5 : ¬ e = 14 := g 14 (by decide)
  have g6 : ¬ e = 15 := g 15 (by decide)
  have g7 : ¬ e = 16 := g 16 (by decide)
  have g8 : ¬ e = 20 := g 20 (by decide)
  have g9 : ¬ e = 21 := g 21 (by decide)
  have g10 : ¬ e = 22 := g 22 (by decide)
  have g11 : ¬ e = 30 := g 30 (by decide)
  have g12 : ¬ e = 31 := g 31 (by decide)
  have g13 : ¬ e = 40 := g 40 (by decide)
  have g14 : ¬ e = 41 := g 41 (by decide)
  have g15 : ¬ e = 42 := g 42 (by decide)
  have g16 : ¬ e = 50 := g 50 (by decide)
  simp -implicitDefEqProofs [Tryz.f12, g0, g1, g2, g3, g4, g5, g6, g7, g8, g9, g10, g11, g12, g13, g14, g15, g16]
  exact hq
theorem rword_none {h : AHeap} {e : Int} (he : noErr e) {Q : AVal → AHeap → Prop} (hq : Q (.str [101, 114, 114, 111, 114]) h) : Ev (cfgR ro) 13 [.int .i64 e] h Q := by
  refine Ev.wp rfl rfl Tryz.func13 rfl ?_
  simp -implicitDefEqProofs [Tryz.f13]
  obtain ⟨I, hI⟩ : ∃ I : Nat → List AVal → AHeap → Prop, I = fun m env h' => h' = h ∧ ∃ i : Nat, i + m = 17 ∧
    env = (.int .i64 e :: .dead :: .dead :: .cell (errNs.map fun n => .int .i64 ((n : Nat) : Int)) :: .cell errWs :: .int .i64 (i : Nat) :: .dead :: .dead :: .dead :: .dead :: .dead :: .dead :: .dead :: .dead :: .dead :: .dead :: .dead :: .dead :: .dead :: .dead :: []) := ⟨_, rfl⟩
  refine loop_of I ?_ 17 (by rw [hI]; exact ⟨rfl, 0, by omega, rfl⟩)
  intro m env h' hi
  rw [hI] at hi
  obtain ⟨rfl, i, him, rfl⟩ := hi
  by_cases hlt : i < 17
  · obtain ⟨n, hn⟩ : ∃ n, errNs[i]? = some n := ⟨_, List.getElem?_eq_getElem (by simpa [errNs] using hlt)⟩
    have hne : ¬ ((n : Nat) : Int) = e := fun h => he n (List.mem_of_getElem? hn) h.symm
    have w1 : IntKind.i64.wrap ((i : Int) + 1) = ((i + 1 : Nat) : Int) := by rw [w64 (by omega) (by omega)]; omega
    have hget : (errNs.map fun n => AVal.int .i64 ((n : Nat) : Int))[i]? = some (.int .i64 ((n : Nat) : Int)) := by rw [List.getElem?_map, hn]; rfl
    obtain ⟨cs, hcs⟩ : ∃ cs, cs = (errNs.map fun n => AVal.int .i64 ((n : Nat) : Int)) := ⟨_, rfl⟩
    rw [← hcs] at hget ⊢
    have d1 : decide ((i : Int) < 17) = true := decide_eq_true (by omega)
    have x1 : idxNat (.int .i64 (i : Nat)) 17 = .ok i := ix_nat hlt
    have x2 : nthR cs i = .ok (.int .i64 ((n : Nat) : Int)) := nthR_get hget
    simp -implicitDefEqProofs [d1, w1, hne, x1, x2]
    exact .mk (m := m - 1) (by omega) (by rw [hI]; exact ⟨rfl, i + 1, by omega, by rw [hcs]; rfl⟩)
  · have d1 : decide ((i : Int) < 17) = false := decide_eq_false (by omega)
    simp -implicitDefEqProofs [d1]
    exact hq
theorem ConsoleWords_ev (ha : ∃ h', Run (cfgR ro) 6 [] heap0 (.bool true) h') (e : Int) : Ev (cfgR ro) 4 [.int .i64 e] heap0 (fun x _ => x = .bool true) := by
  refine Ev.wp rfl rfl Tryz.func4 rfl ?_
  obtain ⟨h1, ha⟩ := ha
  simp -implicitDefEqProofs [Tryz.f4, Ev.run ha]
  by_cases he : noErr e
  · refine word_none he ?_
    simp -implicitDefEqProofs
    refine rword_none he ?_
    simp -implicitDefEqProofs [same_self]
  · have : ∃ n ∈ errNs, e = ((n : Nat) : Int) := by
      apply Classical.byContradiction
      intro hc
      exact he (fun n hn h => hc ⟨n, hn, h⟩)
    obtain ⟨n, hn, rfl⟩ := this
    obtain ⟨i, hi⟩ := List.mem_iff_getElem?.1 hn
    have hil := (List.getElem?_eq_some_iff.1 hi).1
    have hl : errNs.length = 17 := rfl
    have hl2 : errWs.length = 17 := rfl
    have hz : (n, errWs[i]'(by omega)) ∈ errNs.zip errWs := List.mem_of_getElem? (i := i) (by rw [List.getElem?_zip_eq_some]; exact ⟨hi, List.getElem?_eq_getElem (by omega)⟩)
    obtain ⟨w, hw⟩ : ∃ w, w = errWs[i]'(by omega) := ⟨_, rfl⟩
    rw [← hw] at hz
    have hws : ∃ s, w = .str s := by
      have : ∀ x ∈ errWs, ∃ s, x = .str s := by
        intro x hx
        simp only [errWs, List.mem_cons, List.not_mem_nil, or_false] at hx
        rcases hx with rfl | rfl | rfl | rfl | rfl | rfl | rfl | rfl | rfl | rfl | rfl | rfl | rfl | rfl | rfl | rfl | rfl <;> exact ⟨_, rfl⟩
      exact this w (by rw [hw]; exact List.getElem_mem _)
    obtain ⟨s, rfl⟩ := hws
    simp -implicitDefEqProofs [Ev.run (word_r (ro := ro) (h := h1) n _ hz), Ev.run (rword_r (ro := ro) (h := h1) n _ hz), same_self]
end
end Go.Proofs.YtofnbldbggddmaaGreatDoor
set_option linter.all false
set_option maxRecDepth 100000
set_option maxHeartbeats 4000000
namespace Go.Proofs.YtofnbldbggddmaaGreatDoor
open Go Go.RowKit Go.Proofs
section
variable {ro : Nat → Option (List AVal)}
theorem unqR_nil (out : Str) : unqR [] out = none := rfl
theorem unqR_one (b : UInt8) (out : Str) : unqR [b] out = if b.toNat = 34 then (if plain out then some out else none) else none := rfl
theorem unqR_two (b c : UInt8) (r out : Str) : unqR (b :: c :: r) out = if b.toNat = 34 ∨ b.toNat = 10 then none else if b.toNat ≠ 92 then unqR (c :: r) (out ++ [b]) else if c.toNat = 110 then unqR r (out ++ [10]) else if c.toNat = 34 ∨ c.toNat = 92 then unqR r (out ++ [c]) else none := by
  conv => lhs; unfold unqR
theorem unqS_cons (b : UInt8) (r : Str) : unqS (b :: r) = if b.toNat = 34 then unqR r [] else none := rfl
theorem unqR_push {b : UInt8} {r out : Str} (h1 : b.toNat ≠ 34) (h2 : b.toNat ≠ 10) (h3 : b.toNat ≠ 92) : unqR (b :: r) out = unqR r (out ++ [b]) := by
  cases r with
  | nil => rw [unqR_one, if_neg h1]; rfl
  | cons c r => rw [unqR_two, if_neg (by omega), if_pos h3]
theorem bds_one {s : Str} {i : Nat} (hlt : i < s.length) : bounds2 s.length s.length (some (.int .i64 (i : Nat))) (some (.int .i64 ((i : Int) + 1))) = .ok (i, i + 1) := by
  have := bd_both (n := s.length) (top := s.length) (a := i) (b := i + 1) (by omega) (by omega) .i64 .i64
  rw [Int.natCast_add, Int.natCast_one] at this
  exact this
theorem part_one {s : Str} {i : Nat} {b : UInt8} (h : s[i]? = some b) : (s.take (i + 1)).drop i = [b] := by
  obtain ⟨hlt, e⟩ := List.getElem?_eq_some_iff.1 h
  rw [List.take_succ_eq_append_getElem hlt, e, List.drop_append_of_le_length (by rw [List.length_take]; omega), List.drop_of_length_le (by rw [List.length_take]; omega)]
  rfl
theorem runq_ev {h : AHeap} {q : Str} (hl : q.length < 2 ^ 30) {Q : AVal → AHeap → Prop} (hq1 : ∀ x, unqS q = some x → Q (.tuple [.str x, .bool true]) h) (hq2 : ∀ y, unqS q = none → Q (.tuple [.str y, .bool false]) h) : Ev (cfgR ro) 11 [.str q] h Q := by
  refine Ev.wp rfl rfl Tryz.func11 rfl ?_
  by_cases h2 : q.length < 2
  · have hn : unqS q = none := by
      match q, h2 with
      | [], _ => rfl
      | [b], _ => rw [unqS_cons]; split <;> rfl
    have d1 : decide ((q.length : Int) < 2) = true := decide_eq_true (by omega)
    simp -implicitDefEqProofs [Tryz.f11, h2, d1]
    exact hq2 _ hn
  have d1 : decide ((q.length : Int) < 2) = false := decide_eq_false (by omega)
  obtain ⟨b0, r0, hq0⟩ : ∃ b r, q = b :: r := by
    cases q with
    | nil => simp at h2
    | cons b r => exact ⟨b, r, rfl⟩
  have hg0 : q[0]? = some b0 := by rw [hq0]; rfl
  have hx0 : idxNat (.int .i64 0) q.length = .ok 0 := ix_nat (i := 0) (by omega)
  by_cases c0 : b0.toNat = 34
  · have e0 : decide ((b0.toNat : Int) = 34) = true := decide_eq_true (by omega)
    have hS : unqS q = unqR (q.drop 1) [] := by rw [hq0, unqS_cons, if_pos c0]; rfl
    simp -implicitDefEqProofs [Tryz.f11, h2, d1, hx0, hg0, e0]
    obtain ⟨I, hI⟩ : ∃ I : Nat → List AVal → AHeap → Prop, I = fun m env h' => h' = h ∧ ∃ (i : Nat) (out : Str), i + m = q.length ∧ out.length ≤ i ∧ unqS q = unqR (q.drop i) out ∧
      env = (.str q :: .dead :: .dead :: .dead :: .str out :: .int .i64 (i : Nat) :: .dead :: .dead :: .dead :: .dead :: .dead :: .dead :: .dead :: .dead :: .dead :: .dead :: .dead :: .dead :: .dead :: .dead :: .dead :: .dead :: .dead :: .dead :: .dead :: .dead :: .dead :: .dead :: .dead :: .dead :: .dead :: .dead :: .dead :: .dead :: .dead :: .dead :: .dead :: .dead :: .dead :: .dead :: .dead :: .dead :: .dead :: .dead :: .dead :: .dead :: .dead :: .dead :: .dead :: .dead :: .dead :: .dead :: .dead :: .dead :: .dead :: .dead :: .dead :: .dead :: .dead :: .dead :: .dead :: .dead :: .dead :: .dead :: .dead :: .dead :: .dead :: .dead :: .dead :: .dead :: .dead :: .dead :: .dead :: .dead :: .dead :: .dead :: .dead :: .dead :: []) := ⟨_, rfl⟩
    refine loop_of I ?_ (q.length - 1) (by rw [hI]; exact ⟨rfl, 1, [], by omega, by simp, hS, rfl⟩)
    intro m env h' hi
    rw [hI] at hi
    obtain ⟨rfl, i, out, him, hol, hu, rfl⟩ := hi
    by_cases hlt : i < q.length
    · obtain ⟨b, hb⟩ : ∃ b, q[i]? = some b := ⟨_, List.getElem?_eq_getElem hlt⟩
      have hgb : q[i]'hlt = b := by obtain ⟨_, e⟩ := List.getElem?_eq_some_iff.1 hb; exact e
      have hdr : q.drop i = b :: q.drop (i + 1) := by rw [List.drop_eq_getElem_cons hlt, hgb]
      rw [hdr] at hu
      have hx : idxNat (.int .i64 (i : Int)) q.length = .ok i := ix_nat hlt
      have w1 : IntKind.i64.wrap ((i : Int) + 1) = (i : Int) + 1 := w64 (by omega) (by omega)
      have wl : IntKind.i64.wrap ((q.length : Int) - 1) = (q.length : Int) - 1 := w64 (by omega) (by omega)
      have hb2 := bds_one hlt
      have hdt := part_one hb
      by_cases c1 : b.toNat = 34
      · have e1 : decide ((b.toNat : Int) = 34) = true := decide_eq_true (by omega)
        by_cases c2 : i + 1 = q.length
        · have e2 : decide ((i : Int) = (q.length : Int) - 1) = true := decide_eq_true (by omega)
          rw [List.drop_of_length_le (by omega), unqR_one, if_pos c1] at hu
          simp -implicitDefEqProofs [hlt, hx, hgb, e1, e2, w1, wl]
          refine plain8_ev (by omega) ?_
          cases hp : plain out with
          | true =>
            rw [hp] at hu
            simp -implicitDefEqProofs
            exact hq1 _ hu
          | false =>
            rw [hp] at hu
            simp -implicitDefEqProofs
            exact hq2 _ hu
        · have e2 : decide ((i : Int) = (q.length : Int) - 1) = false := decide_eq_false (by omega)
          have : unqS q = none := by
            rw [hu]
            cases hd : q.drop (i + 1) with
            | nil => have := congrArg List.length hd; rw [List.length_drop, List.length_nil] at this; omega
            | cons c r => rw [unqR_two, if_pos (.inl c1)]
          simp -implicitDefEqProofs [hlt, hx, hgb, e1, e2, w1, wl]
          exact hq2 _ this
      have e1 : decide ((b.toNat : Int) = 34) = false := decide_eq_false (by omega)
      by_cases c2 : b.toNat = 10
      · have e2 : decide ((b.toNat : Int) = 10) = true := decide_eq_true (by omega)
        have : unqS q = none := by
          rw [hu]
          cases hd : q.drop (i + 1) with
          | nil => rw [unqR_one, if_neg c1]
          | cons c r => rw [unqR_two, if_pos (.inr c2)]
        simp -implicitDefEqProofs [hlt, hx, hgb, e1, e2]
        exact hq2 _ this
      have e2 : decide ((b.toNat : Int) = 10) = false := decide_eq_false (by omega)
      by_cases c3 : b.toNat = 92
      · have e3 : decide ((b.toNat : Int) = 92) = true := decide_eq_true (by omega)
        by_cases c4 : i + 1 = q.length
        · have e4 : decide ((i : Int) + 1 = (q.length : Int)) = true := decide_eq_true (by omega)
          rw [List.drop_of_length_le (by omega), unqR_one, if_neg c1] at hu
          simp -implicitDefEqProofs [hlt, hx, hgb, e1, e2, e3, w1, e4]
          exact hq2 _ hu
        · have e4 : decide ((i : Int) + 1 = (q.length : Int)) = false := decide_eq_false (by omega)
          have hlt2 : i + 1 < q.length := by omega
          obtain ⟨c, hc⟩ : ∃ c, q[i + 1]? = some c := ⟨_, List.getElem?_eq_getElem hlt2⟩
          have hgc : q[i + 1]'hlt2 = c := by obtain ⟨_, e⟩ := List.getElem?_eq_some_iff.1 hc; exact e
          have hdr2 : q.drop (i + 1) = c :: q.drop (i + 2) := by rw [List.drop_eq_getElem_cons hlt2, hgc]
          rw [hdr2, unqR_two, if_neg (by omega), if_neg (by omega)] at hu
          have hx2 : idxNat (.int .i64 ((i : Int) + 1)) q.length = .ok (i + 1) := ix_nat (i := i + 1) hlt2
          have w2 : IntKind.i64.wrap ((i : Int) + 1 + 1) = (i : Int) + 1 + 1 := w64 (by omega) (by omega)
          have hb3 : bounds2 q.length q.length (some (.int .i64 ((i : Int) + 1))) (some (.int .i64 ((i : Int) + 1 + 1))) = .ok (i + 1, i + 2) := bds_one (i := i + 1) hlt2
          have hdt2 : (q.take (i + 2)).drop (i + 1) = [c] := part_one hc
          have fin : ∀ x : Str, x.length ≤ i + 2 → unqS q = unqR (q.drop (i + 2)) x → headK I m (.str q :: .dead :: .dead :: .dead :: .str x :: .int .i64 ((i : Int) + 1 + 1) :: .dead :: .dead :: .dead :: .dead :: .dead :: .dead :: .dead :: .dead :: .dead :: .dead :: .dead :: .dead :: .dead :: .dead :: .dead :: .dead :: .dead :: .dead :: .dead :: .dead :: .dead :: .dead :: .dead :: .dead :: .dead :: .dead :: .dead :: .dead :: .dead :: .dead :: .dead :: .dead :: .dead :: .dead :: .dead :: .dead :: .dead :: .dead :: .dead :: .dead :: .dead :: .dead :: .dead :: .dead :: .dead :: .dead :: .dead :: .dead :: .dead :: .dead :: .dead :: .dead :: .dead :: .dead :: .dead :: .dead :: .dead :: .dead :: .dead :: .dead :: .dead :: .dead :: .dead :: .dead :: .dead :: .dead :: .dead :: .dead :: .dead :: .dead :: .dead :: .dead :: []) h' := fun x h1 h2 =>
            .mk (m := m - 2) (by omega) (by rw [hI]; exact ⟨rfl, i + 2, x, by omega, h1, h2, by simp; omega⟩)
          by_cases c5 : c.toNat = 110
          · have e5 : decide ((c.toNat : Int) = 110) = true := decide_eq_true (by omega)
            rw [if_pos c5] at hu
            simp -implicitDefEqProofs [hlt, hx, hgb, e1, e2, e3, w1, e4, hlt2, hx2, hgc, hc, e5, w2]
            exact ⟨by omega, fin _ (by simp; omega) hu⟩
          · have e5 : decide ((c.toNat : Int) = 110) = false := decide_eq_false (by omega)
            rw [if_neg c5] at hu
            by_cases c6 : c.toNat = 34
            · have e6 : decide ((c.toNat : Int) = 34) = true := decide_eq_true (by omega)
              rw [if_pos (.inl c6)] at hu
              simp -implicitDefEqProofs [hlt, hx, hgb, e1, e2, e3, w1, e4, hlt2, hx2, hgc, hc, e5, e6, w2, hb3, hdt2]
              exact ⟨by omega, fin _ (by simp; omega) hu⟩
            · have e6 : decide ((c.toNat : Int) = 34) = false := decide_eq_false (by omega)
              by_cases c7 : c.toNat = 92
              · have e7 : decide ((c.toNat : Int) = 92) = true := decide_eq_true (by omega)
                rw [if_pos (.inr c7)] at hu
                simp -implicitDefEqProofs [hlt, hx, hgb, e1, e2, e3, w1, e4, hlt2, hx2, hgc, hc, e5, e6, e7, w2, hb3, hdt2]
                exact ⟨by omega, fin _ (by simp; omega) hu⟩
              · have e7 : decide ((c.toNat : Int) = 92) = false := decide_eq_false (by omega)
                rw [if_neg (by omega)] at hu
                simp -implicitDefEqProofs [hlt, hx, hgb, e1, e2, e3, w1, e4, hlt2, hx2, hgc, hc, e5, e6, e7, w2]
                exact hq2 _ hu
      · have e3 : decide ((b.toNat : Int) = 92) = false := decide_eq_false (by omega)
        rw [unqR_push c1 c2 c3] at hu
        simp -implicitDefEqProofs [hlt, hx, hgb, e1, e2, e3, hb2, hdt, w1]
        exact ⟨by omega, .mk (m := m - 1) (by omega) (by rw [hI]; exact ⟨rfl, i + 1, out ++ [b], by omega, by simp; omega, hu, by simp⟩)⟩
    · rw [List.drop_of_length_le (by omega)] at hu
      simp -implicitDefEqProofs [hlt]
      exact hq2 _ hu
  · have e0 : decide ((b0.toNat : Int) = 34) = false := decide_eq_false (by omega)
    have hS : unqS q = none := by rw [hq0, unqS_cons, if_neg c0]
    simp -implicitDefEqProofs [Tryz.f11, h2, d1, hx0, hg0, e0]
    exact hq2 _ hS
end
end Go.Proofs.YtofnbldbggddmaaGreatDoor
set_option linter.all false
set_option maxRecDepth 100000
set_option maxHeartbeats 4000000
namespace Go.Proofs.YtofnbldbggddmaaGreatDoor
open Go Go.RowKit Go.Proofs
section
variable {c : Cfg} {f : Nat} {K : List AVal → AHeap → Prop} {E : Nat → List AVal → AHeap → Prop} {R : List AVal → AHeap → Prop} {G : Nat → List AVal → AHeap → Prop}
theorem scope_loop2 {l : Nat} {body rest : Code} (hl : findLabel body l = some (Code.skip.seq rest)) (I : Nat → List AVal → AHeap → Prop)
    (hI : ∀ n env h, (∀ m, m < n → ∀ env h, I m env h → scpG c f K E R G body l env h) → I n env h → wp c f rest K E R (scpG c f K E R G body) env h) (n : Nat) {env : List AVal} {h : AHeap} (h0 : I n env h) :
    wp c f (.label l) (seqK c f K E R (scpG c f K E R G body) rest) E R (scpG c f K E R G body) env h := by
  have key : ∀ n {env : List AVal} {h : AHeap}, I n env h → scpG c f K E R G body l env h := by
    intro n
    induction n using Nat.strongRecOn with
    | _ n ih =>
      intro env h h0
      unfold scpG
      rw [hl]
      exact label_of (rest := Code.skip.seq rest) (hI n env h (fun m hm env h q => ih m hm q) h0)
  exact hI n env h (fun m _ env h q => key m q) h0
end
section
variable {ro : Nat → Option (List AVal)}
theorem unq_ev {h : AHeap} {q : Str} (hl : q.length < 2 ^ 30) {Q : AVal → AHeap → Prop} (hq1 : ∀ x h', unqS q = some x → Old h h' → Q (.tuple [.str x, .int .i64 0]) h') (hq2 : ∀ h', unqS q = none → Old h h' → Q (.tuple [.str [], .int .i64 11]) h') : Ev (cfgR ro) 8 [.str q] h Q := by
  refine Ev.wp rfl rfl Tryz.func8 rfl ?_
  by_cases h2 : q.length < 2
  · have hn : unqS q = none := by
      match q, h2 with
      | [], _ => rfl
      | [b], _ => rw [unqS_cons]; split <;> rfl
    have d1 : decide ((q.length : Int) < 2) = true := decide_eq_true (by omega)
    simp -implicitDefEqProofs [Tryz.f8, h2, d1]
    exact hq2 _ hn (Old.refl h)
  have d1 : decide ((q.length : Int) < 2) = false := decide_eq_false (by omega)
  obtain ⟨b0, r0, hq0⟩ : ∃ b r, q = b :: r := by
    cases q with
    | nil => simp at h2
    | cons b r => exact ⟨b, r, rfl⟩
  have hg0 : q[0]? = some b0 := by rw [hq0]; rfl
  have hx0 : idxNat (.int .i64 0) q.length = .ok 0 := ix_nat (i := 0) (by omega)
  have wl : IntKind.i64.wrap ((q.length : Int) - 1) = (q.length : Int) - 1 := w64 (by omega) (by omega)
  obtain ⟨n, hn⟩ : ∃ n, q.length = n + 1 := ⟨q.length - 1, by omega⟩
  have hcn : (q.length : Int) - 1 = (n : Int) := by omega
  rw [hcn] at wl
  have hxl : idxNat (.int .i64 (n : Nat)) q.length = .ok n := ix_nat (by omega)
  have hln : n < q.length := by omega
  obtain ⟨bl, hbl⟩ : ∃ b, q[n]? = some b := ⟨_, List.getElem?_eq_getElem (by omega)⟩
  have hgl : q[n]'hln = bl := by obtain ⟨_, e⟩ := List.getElem?_eq_some_iff.1 hbl; exact e
  by_cases c0 : b0.toNat = 34
  · have e0 : decide ((b0.toNat : Int) = 34) = true := decide_eq_true (by omega)
    have hS : unqS q = unqR (q.drop 1) [] := by rw [hq0, unqS_cons, if_pos c0]; rfl
    by_cases cl : bl.toNat = 34
    · have el : decide ((bl.toNat : Int) = 34) = true := decide_eq_true (by omega)
      simp -implicitDefEqProofs [Tryz.f8, h2, d1, hx0, hg0, e0, wl, hcn, hxl, hbl, hgl, hln, el]
      refine scope_loop2 (by simp [findLabel]) (fun m env h' => Old h h' ∧ ∃ (i : Nat) (out : Str) (v y : AVal), i + m = q.length ∧ i ≤ n ∧ out.length ≤ i ∧ unqS q = unqR (q.drop i) out ∧ BM h h' v out ∧
        env = (.str q :: .dead :: .dead :: .dead :: v :: .int .i64 (i : Nat) :: .dead :: .dead :: .dead :: .dead :: .dead :: .dead :: .dead :: .dead :: .dead :: .dead :: .dead :: .dead :: .dead :: .dead :: .dead :: .dead :: y :: .dead :: .dead :: .dead :: .dead :: .dead :: .dead :: .dead :: .dead :: .dead :: .dead :: .dead :: .dead :: .dead :: .dead :: .dead :: .dead :: .dead :: .dead :: .dead :: .dead :: .dead :: .dead :: .dead :: .dead :: .dead :: .dead :: .dead :: .dead :: .dead :: .dead :: .dead :: .dead :: .dead :: .dead :: .dead :: .dead :: .dead :: .dead :: .dead :: .dead :: .dead :: .dead :: .dead :: .dead :: .dead :: .dead :: .dead :: .dead :: .dead :: .dead :: .dead :: .dead :: .dead :: .dead :: .dead :: .dead :: .dead :: .dead :: .dead :: .dead :: .dead :: [])) ?_ n ⟨Old.refl h, 1, [], .nils, .bool false, by omega, by omega, by simp, hS, BM.nil, rfl⟩
      rintro m env h' ih ⟨oo, i, out, v, y, him, hin, hol, hu, mv, rfl⟩
      have hlt : i < q.length := by omega
      obtain ⟨b, hb⟩ : ∃ b, q[i]? = some b := ⟨_, List.getElem?_eq_getElem hlt⟩
      have hgb : q[i]'hlt = b := by obtain ⟨_, e⟩ := List.getElem?_eq_some_iff.1 hb; exact e
      have hdr : q.drop i = b :: q.drop (i + 1) := by rw [List.drop_eq_getElem_cons hlt, hgb]
      rw [hdr] at hu
      have hx : idxNat (.int .i64 (i : Int)) q.length = .ok i := ix_nat hlt
      have w1 : IntKind.i64.wrap ((i : Int) + 1) = (i : Int) + 1 := w64 (by omega) (by omega)
      have hconv : convR (cfgR ro) h' 36 9 v = .ok (.str out) := mv.toBS.conv un36 un9 un5
      by_cases cE : i = n
      · have hbb : b = bl := by rw [cE, hbl] at hb; exact (Option.some.inj hb).symm
        rw [List.drop_of_length_le (by omega), unqR_one, if_pos (by rw [hbb]; exact cl)] at hu
        have eE : decide (i = n) = true := decide_eq_true cE
        simp -implicitDefEqProofs [-convR, wl, hcn, eE, cE, hconv]
        refine plain_ev (by omega) (fun h2 o2 => ?_)
        have hconv2 : convR (cfgR ro) h2 36 9 v = .ok (.str out) := (mv.toBS.old o2).conv un36 un9 un5
        cases hp : plain out with
        | true =>
          rw [hp] at hu
          simp -implicitDefEqProofs [-convR, hconv2]
          exact hq1 _ h2 hu (oo.trans o2)
        | false =>
          rw [hp] at hu
          simp -implicitDefEqProofs [-convR]
          exact hq2 h2 hu (oo.trans o2)
      · have eE : decide ((i : Int) = (n : Int)) = false := decide_eq_false (by omega)
        have hlt2 : i + 1 < q.length := by omega
        obtain ⟨c, hc⟩ : ∃ c, q[i + 1]? = some c := ⟨_, List.getElem?_eq_getElem hlt2⟩
        have hgc : q[i + 1]'hlt2 = c := by obtain ⟨_, e⟩ := List.getElem?_eq_some_iff.1 hc; exact e
        have hdr2 : q.drop (i + 1) = c :: q.drop (i + 2) := by rw [List.drop_eq_getElem_cons hlt2, hgc]
        have hx2 : idxNat (.int .i64 ((i : Int) + 1)) q.length = .ok (i + 1) := ix_nat (i := i + 1) hlt2
        have w2 : IntKind.i64.wrap ((i : Int) + 1 + 1) = (i : Int) + 1 + 1 := w64 (by omega) (by omega)
        have none_of : (b.toNat = 34 ∨ b.toNat = 10) → unqS q = none := fun hh => by rw [hu, hdr2, unqR_two, if_pos hh]
        -- one more byte
        have put : ∀ x : UInt8, ∃ v2 h2, appCore 1 1 (h'.push (.row 1 false [.int .u8 (x.toNat : Nat)])) v 1 [.int .u8 (x.toNat : Nat)] = .ok (v2, h2) ∧ BM h h2 v2 (out ++ [x]) ∧ Old h h2 := fun x => by
          have op : Old h' (h'.push (.row 1 false [.int .u8 (x.toNat : Nat)])) := (Old.refl h').push _
          obtain ⟨v2, h2, k1, k2, k3⟩ := Mine.append1 (bytes := 1) (e := [bcell x]) (Mine.keep mv op) (by decide) rfl (by rw [bes_len]; omega) (oo.trans op)
          exact ⟨v2, h2, k1, by unfold BM; rw [bes_append]; exact k2, k3⟩
        by_cases c1 : b.toNat = 34
        · have e1 : decide ((b.toNat : Int) = 34) = true := decide_eq_true (by omega)
          simp -implicitDefEqProofs [-convR, wl, hcn, eE, cE, hlt, hx, hgb, e1]
          exact hq2 h' (none_of (.inl c1)) oo
        have e1 : decide ((b.toNat : Int) = 34) = false := decide_eq_false (by omega)
        by_cases c2 : b.toNat = 10
        · have e2 : decide ((b.toNat : Int) = 10) = true := decide_eq_true (by omega)
          simp -implicitDefEqProofs [-convR, wl, hcn, eE, cE, hlt, hx, hgb, e1, e2]
          exact hq2 h' (none_of (.inr c2)) oo
        have e2 : decide ((b.toNat : Int) = 10) = false := decide_eq_false (by omega)
        by_cases c3 : b.toNat = 92
        · have e3 : decide ((b.toNat : Int) = 92) = true := decide_eq_true (by omega)
          rw [hdr2, unqR_two, if_neg (by omega), if_neg (by omega)] at hu
          by_cases cF : i + 1 = n
          · have eF : decide ((i : Int) + 1 = (n : Int)) = true := decide_eq_true (by omega)
            have hcb : c = bl := by rw [cF, hbl] at hc; exact (Option.some.inj hc).symm
            rw [List.drop_of_length_le (by omega), if_neg (by rw [hcb]; omega), if_pos (.inl (by rw [hcb]; exact cl)), unqR_nil] at hu
            simp -implicitDefEqProofs [-convR, wl, hcn, eE, cE, hlt, hx, hgb, e1, e2, e3, w1, eF]
            exact hq2 h' hu oo
          · have eF : decide ((i : Int) + 1 = (n : Int)) = false := decide_eq_false (by omega)
            have fin : ∀ (x : Str) (v2 : AVal) (h2 : AHeap) (y : AVal), x.length ≤ i + 2 → unqS q = unqR (q.drop (i + 2)) x → BM h h2 v2 x → Old h h2 → _ := fun x v2 h2 y g1 g2 g3 g4 =>
              ih (m - 2) (by omega) (.str q :: .dead :: .dead :: .dead :: v2 :: .int .i64 ((i : Int) + 1 + 1) :: .dead :: .dead :: .dead :: .dead :: .dead :: .dead :: .dead :: .dead :: .dead :: .dead :: .dead :: .dead :: .dead :: .dead :: .dead :: .dead :: y :: .dead :: .dead :: .dead :: .dead :: .dead :: .dead :: .dead :: .dead :: .dead :: .dead :: .dead :: .dead :: .dead :: .dead :: .dead :: .dead :: .dead :: .dead :: .dead :: .dead :: .dead :: .dead :: .dead :: .dead :: .dead :: .dead :: .dead :: .dead :: .dead :: .dead :: .dead :: .dead :: .dead :: .dead :: .dead :: .dead :: .dead :: .dead :: .dead :: .dead :: .dead :: .dead :: .dead :: .dead :: .dead :: .dead :: .dead :: .dead :: .dead :: .dead :: .dead :: .dead :: .dead :: .dead :: .dead :: .dead :: .dead :: .dead :: .dead :: .dead :: .dead :: []) h2 ⟨g4, i + 2, x, v2, y, by omega, by omega, g1, g2, g3, by simp; omega⟩
            by_cases c5 : c.toNat = 110
            · have e5 : decide ((c.toNat : Int) = 110) = true := decide_eq_true (by omega)
              rw [if_pos c5] at hu
              obtain ⟨v2, h2, k1, k2, k3⟩ := put 10
              have k1' : appCore 1 1 (h'.push (.row 1 false [.int .u8 10])) v 1 [.int .u8 10] = .ok (v2, h2) := k1
              simp -implicitDefEqProofs [-convR, wl, hcn, eE, cE, hlt, hx, hgb, e1, e2, e3, w1, eF, hlt2, hx2, hgc, hc, e5, buildSliceR, reps, k1', w2]
              exact fin _ v2 h2 _ (by simp; omega) hu k2 k3
            · have e5 : decide ((c.toNat : Int) = 110) = false := decide_eq_false (by omega)
              rw [if_neg c5] at hu
              obtain ⟨v2, h2, k1, k2, k3⟩ := put c
              by_cases c6 : c.toNat = 34
              · have e6 : decide ((c.toNat : Int) = 34) = true := decide_eq_true (by omega)
                rw [if_pos (.inl c6)] at hu
                simp -implicitDefEqProofs [-convR, wl, hcn, eE, cE, hlt, hx, hgb, e1, e2, e3, w1, eF, hlt2, hx2, hgc, hc, e5, e6, buildSliceR, reps, k1, w2]
                exact fin _ v2 h2 _ (by simp; omega) hu k2 k3
              · have e6 : decide ((c.toNat : Int) = 34) = false := decide_eq_false (by omega)
                by_cases c7 : c.toNat = 92
                · have e7 : decide ((c.toNat : Int) = 92) = true := decide_eq_true (by omega)
                  rw [if_pos (.inr c7)] at hu
                  simp -implicitDefEqProofs [-convR, wl, hcn, eE, cE, hlt, hx, hgb, e1, e2, e3, w1, eF, hlt2, hx2, hgc, hc, e5, e6, e7, buildSliceR, reps, k1, w2]
                  exact fin _ v2 h2 _ (by simp; omega) hu k2 k3
                · have e7 : decide ((c.toNat : Int) = 92) = false := decide_eq_false (by omega)
                  rw [if_neg (by omega)] at hu
                  simp -implicitDefEqProofs [-convR, wl, hcn, eE, cE, hlt, hx, hgb, e1, e2, e3, w1, eF, hlt2, hx2, hgc, hc, e5, e6, e7, w2]
                  exact hq2 h' hu oo
        · have e3 : decide ((b.toNat : Int) = 92) = false := decide_eq_false (by omega)
          rw [unqR_push c1 c2 c3] at hu
          obtain ⟨v2, h2, k1, k2, k3⟩ := put b
          simp -implicitDefEqProofs [-convR, wl, hcn, eE, cE, hlt, hx, hgb, e1, e2, e3, buildSliceR, reps, k1, w1]
          exact ih (m - 1) (by omega) _ h2 ⟨k3, i + 1, out ++ [b], v2, _, by omega, by omega, by simp; omega, hu, k2, by simp; rfl⟩
    · have el : decide ((bl.toNat : Int) = 34) = false := decide_eq_false (by omega)
      have hS2 : unqS q = none := by
        cases hu : unqS q with
        | none => rfl
        | some x =>
          rw [hS] at hu
          obtain ⟨b, h1, h2⟩ := unqR_last _ _ _ _ (Nat.le_refl _) hu
          rw [List.getLast?_eq_getElem?, List.getElem?_drop, List.length_drop, show 1 + (q.length - 1 - 1) = n by omega, hbl] at h1
          cases h1
          exact (cl h2).elim
      simp -implicitDefEqProofs [Tryz.f8, h2, d1, hx0, hg0, e0, wl, hcn, hxl, hbl, hgl, hln, el]
      exact hq2 _ hS2 (Old.refl h)
  · have e0 : decide ((b0.toNat : Int) = 34) = false := decide_eq_false (by omega)
    have hS : unqS q = none := by rw [hq0, unqS_cons, if_neg c0]
    simp -implicitDefEqProofs [Tryz.f8, h2, d1, hx0, hg0, e0]
    exact hq2 _ hS (Old.refl h)
end
end Go.Proofs.YtofnbldbggddmaaGreatDoor
set_option linter.all false
set_option maxRecDepth 100000
set_option maxHeartbeats 4000000
namespace Go.Proofs.YtofnbldbggddmaaGreatDoor
open Go Go.RowKit Go.Proofs
section
variable {ro : Nat → Option (List AVal)}
theorem ConsoleQuotes_ev (ha : ∃ h', Run (cfgR ro) 6 [] heap0 (.bool true) h') (s q : Str) : Ev (cfgR ro) 3 [.str s, .str q] heap0 (fun x _ => x = .bool true) := by
  refine Ev.wp rfl rfl Tryz.func3 rfl ?_
  obtain ⟨h1, ha⟩ := ha
  by_cases cs : 500 < s.length
  · have d1 : decide ((500 : Int) < (s.length : Int)) = true := decide_eq_true (by omega)
    simp -implicitDefEqProofs [Tryz.f3, Ev.run ha, cs, d1]
  have d1 : decide ((500 : Int) < (s.length : Int)) = false := decide_eq_false (by omega)
  by_cases cq : 500 < q.length
  · have d2 : decide ((500 : Int) < (q.length : Int)) = true := decide_eq_true (by omega)
    simp -implicitDefEqProofs [Tryz.f3, Ev.run ha, cs, cq, d1, d2]
  have d2 : decide ((500 : Int) < (q.length : Int)) = false := decide_eq_false (by omega)
  -- the second half
  have half : ∀ (h2 : AHeap) (K : AVal → AHeap → Prop), (∀ x h', unqS q = some x → K (.tuple [.str x, .int .i64 0]) h') → (∀ h', unqS q = none → K (.tuple [.str [], .int .i64 11]) h') → Ev (cfgR ro) 8 [.str q] h2 K := fun h2 K k1 k2 =>
    unq_ev (by omega) (fun x h' e _ => k1 x h' e) (fun h' e _ => k2 h' e)
  simp -implicitDefEqProofs [Tryz.f3, Ev.run ha, cs, cq, d1, d2]
  refine plain8_ev (by omega) ?_
  cases hp : plain s with
  | false =>
    simp -implicitDefEqProofs
    refine half _ _ (fun x h' e => ?_) (fun h' e => ?_)
    · simp -implicitDefEqProofs
      refine runq_ev (by omega) (fun y e2 => ?_) (fun y e2 => ?_)
      · rw [e] at e2; cases e2
        simp -implicitDefEqProofs [same_self]
      · rw [e] at e2; cases e2
    · simp -implicitDefEqProofs
      refine runq_ev (by omega) (fun y e2 => ?_) (fun y e2 => ?_)
      · rw [e] at e2; cases e2
      · simp -implicitDefEqProofs [same_self]
  | true =>
    have hqs := unq_quote hp
    have hql : (quoteS s).length < 2 ^ 30 := by
      unfold quoteS
      have := esc_len s
      simp; omega
    simp -implicitDefEqProofs
    refine quote_ev (by omega) (fun h2 o2 => ?_)
    simp -implicitDefEqProofs
    refine unq_ev hql (fun x h3 e o3 => ?_) (fun h3 e _ => by rw [hqs] at e; cases e)
    rw [hqs] at e; cases e
    simp -implicitDefEqProofs
    refine quote_ev (by omega) (fun h4 o4 => ?_)
    simp -implicitDefEqProofs
    refine rquote_ev (by omega) ?_
    simp -implicitDefEqProofs [same_self]
    refine half _ _ (fun x h' e => ?_) (fun h' e => ?_)
    · simp -implicitDefEqProofs
      refine runq_ev (by omega) (fun y e2 => ?_) (fun y e2 => ?_)
      · rw [e] at e2; cases e2
        simp -implicitDefEqProofs [same_self]
      · rw [e] at e2; cases e2
    · simp -implicitDefEqProofs
      refine runq_ev (by omega) (fun y e2 => ?_) (fun y e2 => ?_)
      · rw [e] at e2; cases e2
      · simp -implicitDefEqProofs [same_self]
end
end Go.Proofs.YtofnbldbggddmaaGreatDoor
