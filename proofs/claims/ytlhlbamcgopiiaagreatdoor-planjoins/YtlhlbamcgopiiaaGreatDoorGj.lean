/-
  A part of the proof of PlanJoins, over the seat YtlhlbamcgopiiaaGreatDoor: for every input the law returns true, and the input reads as it did.
-/
import Derived.Test.YtlhlbamcgopiiaaGreatDoorGi
set_option linter.all false
set_option linter.all false
set_option maxRecDepth 100000
set_option maxHeartbeats 4000000
namespace Go.Proofs.YtlhlbamcgopiiaaGreatDoor
open Go Go.RowKit Go.Proofs
/-! atoms -/
structure AtV where
  clock : Nat
  r : Nat
  n : Nat
  er : Nat
  en : Nat
  b : UInt8
  shown : Bool
def atF (c r : Nat) (sh : Bool) : Nat → Nat → Nat → Str → List AtV
  | _, _, _, [] => []
  | n, er, en, b :: s => ⟨c, r, n, er, en, b, sh⟩ :: atF c r sh (n + 1) er (en + 1) s
def atomsOf (x : RunV) : List AtV := atF x.clock x.r x.shown x.n x.er x.en x.text
def flat (L : List RunV) : List AtV := (L.map atomsOf).flatten
theorem atF_len (c r : Nat) (sh : Bool) : ∀ (s : Str) (n er en : Nat), (atF c r sh n er en s).length = s.length
  | [], _, _, _ => rfl
  | b :: s, n, er, en => by simp [atF, atF_len c r sh s]
theorem atF_get (c r : Nat) (sh : Bool) : ∀ (s : Str) (n er en i : Nat), (atF c r sh n er en s)[i]? = s[i]?.map fun b => ⟨c, r, n + i, er, en + i, b, sh⟩
  | [], _, _, _, i => by simp [atF]
  | b :: s, n, er, en, 0 => by simp [atF]
  | b :: s, n, er, en, i + 1 => by
    simp only [atF, List.getElem?_cons_succ]
    rw [atF_get c r sh s]
    rw [show n + 1 + i = n + (i + 1) by omega, show en + 1 + i = en + (i + 1) by omega]
theorem atF_append (c r : Nat) (sh : Bool) : ∀ (s t : Str) (n er en : Nat), atF c r sh n er en (s ++ t) = atF c r sh n er en s ++ atF c r sh (n + s.length) er (en + s.length) t
  | [], t, n, er, en => by simp [atF]
  | b :: s, t, n, er, en => by
    simp only [atF, List.cons_append, atF_append c r sh s, List.length_cons]
    rw [show n + 1 + s.length = n + (s.length + 1) by omega, show en + 1 + s.length = en + (s.length + 1) by omega]
theorem atomsOf_len (x : RunV) : (atomsOf x).length = x.text.length := atF_len _ _ _ _ _ _ _
theorem atomsOf_get (x : RunV) (i : Nat) : (atomsOf x)[i]? = x.text[i]?.map fun b => ⟨x.clock, x.r, x.n + i, x.er, x.en + i, b, x.shown⟩ := atF_get _ _ _ _ _ _ _ _
@[simp] theorem flat_nil : flat [] = [] := rfl
@[simp] theorem flat_cons (x : RunV) (L : List RunV) : flat (x :: L) = atomsOf x ++ flat L := by simp [flat]
theorem flat_append (A B : List RunV) : flat (A ++ B) = flat A ++ flat B := by simp [flat]
theorem flatten_length (L : List RunV) : (flat L).length = atomsN L := by
  induction L with
  | nil => rfl
  | cons x L ih => rw [flat_cons, List.length_append, atomsOf_len, ih]; simp [atomsN]
theorem cut_atoms (x : RunV) (k : Nat) (hk : k ≤ x.text.length) : atomsOf (x.fst k) ++ atomsOf (x.snd k) = atomsOf x := by
  have h := atF_append x.clock x.r x.shown (x.text.take k) (x.text.drop k) x.n x.er x.en
  rw [List.take_append_drop, List.length_take, Nat.min_eq_left hk] at h
  exact h.symm
theorem fst_atoms (x : RunV) (k : Nat) (hk : k ≤ x.text.length) : atomsOf (x.fst k) = (atomsOf x).take k := by
  rw [← cut_atoms x k hk, List.take_append_of_le_length (by rw [atomsOf_len]; simp [RunV.fst]; omega), List.take_of_length_le (by rw [atomsOf_len]; simp [RunV.fst]; omega)]
theorem snd_atoms (x : RunV) (k : Nat) (hk : k ≤ x.text.length) : atomsOf (x.snd k) = (atomsOf x).drop k := by
  have h : (atomsOf (x.fst k)).length = k := by rw [atomsOf_len]; simp [RunV.fst]; omega
  rw [← cut_atoms x k hk, List.drop_append, List.drop_of_length_le (by omega), h, Nat.sub_self]; rfl
theorem join_atoms {x y : RunV} (h : x.joins y) : atomsOf (x.join y) = atomsOf x ++ atomsOf y := by
  obtain ⟨⟨h1, h2, h3⟩, ⟨h4, h5⟩, h6, _⟩ := h
  unfold atomsOf RunV.join
  rw [atF_append, h3, h5, h1, h2, h4, h6]
/-- the place of an atom -/
def atIx (l : List AtV) (r n : Nat) : Option Nat := l.findIdx? fun a => decide (a.r = r ∧ a.n = n)
theorem mem_atomsOf {x : RunV} {a : AtV} (h : a ∈ atomsOf x) : x.has a.r a.n := by
  obtain ⟨i, hi⟩ := List.mem_iff_getElem?.1 h
  rw [atomsOf_get] at hi
  cases hx : x.text[i]? with
  | none => rw [hx] at hi; cases hi
  | some b =>
    rw [hx] at hi
    simp at hi
    have := (List.getElem?_eq_some_iff.1 hx).1
    subst hi
    exact ⟨rfl, by simp, by simp; omega⟩
theorem has_atom {x : RunV} {r n : Nat} (h : x.has r n) : ∃ a, (atomsOf x)[n - x.n]? = some a ∧ a.r = r ∧ a.n = n := by
  obtain ⟨h1, h2, h3⟩ := h
  have hl : n - x.n < x.text.length := by omega
  refine ⟨_, by rw [atomsOf_get, List.getElem?_eq_getElem hl]; rfl, h1.symm, by simp; omega⟩
theorem atIx_none {L : List RunV} {r n : Nat} : atIx (flat L) r n = none ↔ ∀ x ∈ L, ¬ x.has r n := by
  unfold atIx
  rw [List.findIdx?_eq_none_iff]
  constructor
  · intro h x hx hh
    obtain ⟨a, h1, h2, h3⟩ := has_atom hh
    have := h a (List.mem_flatten.2 ⟨atomsOf x, List.mem_map.2 ⟨x, hx, rfl⟩, List.mem_of_getElem? h1⟩)
    simp [h2, h3] at this
  · intro h a ha
    obtain ⟨l, hl, ha⟩ := List.mem_flatten.1 ha
    obtain ⟨x, hx, rfl⟩ := List.mem_map.1 hl
    have h1 := mem_atomsOf ha
    have h2 := h x hx
    simp only [decide_eq_false_iff_not]
    rintro ⟨rfl, rfl⟩
    exact h2 h1
theorem atF_idx (c r : Nat) (sh : Bool) : ∀ (s : Str) (n er en r' n' : Nat), (atF c r sh n er en s).findIdx? (fun a => decide (a.r = r' ∧ a.n = n')) = if r' = r ∧ n ≤ n' ∧ n' < n + s.length then some (n' - n) else none
  | [], n, er, en, r', n' => by simp only [atF, List.findIdx?_nil, List.length_nil]; rw [if_neg (by omega)]
  | b :: s, n, er, en, r', n' => by
    simp only [atF, List.findIdx?_cons]
    by_cases e : r = r' ∧ n = n'
    · obtain ⟨rfl, rfl⟩ := e
      simp
    · rw [decide_eq_false e]
      simp only [Bool.false_eq_true, if_false]
      rw [atF_idx c r sh s]
      by_cases e2 : r' = r ∧ n + 1 ≤ n' ∧ n' < n + 1 + s.length
      · rw [if_pos e2, if_pos (by simp only [List.length_cons]; omega)]; simp; omega
      · rw [if_neg e2, if_neg (by simp only [List.length_cons]; omega)]; rfl
theorem atIx_run (x : RunV) (r n : Nat) : atIx (atomsOf x) r n = if x.has r n then some (n - x.n) else none := atF_idx _ _ _ _ _ _ _ _ _
theorem atIx_append (A B : List AtV) (r n : Nat) : atIx (A ++ B) r n = match atIx A r n with
    | some i => some i
    | none => (atIx B r n).map (· + A.length) := by
  unfold atIx
  rw [List.findIdx?_append]
  cases List.findIdx? (fun a => decide (a.r = r ∧ a.n = n)) A <;> simp
theorem atIx_at {L1 L2 : List RunV} {x : RunV} {r n : Nat} (hx : x.has r n) (h1 : ∀ y ∈ L1, ¬ y.has r n) : atIx (flat (L1 ++ x :: L2)) r n = some (atomsN L1 + (n - x.n)) := by
  rw [flat_append, flat_cons, atIx_append, atIx_none.2 h1, atIx_append, atIx_run, if_pos hx, flatten_length]
  simp; omega
/-- two runs of which the first is followed by the second -/
def RunV.flw (x y : RunV) : Prop := (x.clock = y.clock ∧ x.r = y.r ∧ x.n + x.text.length = y.n) ∧ (x.er = y.er ∧ x.en + x.text.length = y.en) ∧ x.shown = y.shown
theorem joins_flw {x y : RunV} : x.joins y ↔ x.flw y ∧ x.text.length + y.text.length ≤ 1024 := by unfold RunV.joins RunV.flw; constructor <;> (intro h; simp [h])
instance (x y : RunV) : Decidable (x.flw y) := by unfold RunV.flw; infer_instance
/-- no two neighbours make one -/
def NJ : List RunV → Prop
  | x :: y :: l => ¬ x.flw y ∧ NJ (y :: l)
  | _ => True
theorem NJ_mid : ∀ (A : List RunV) (x y : RunV) (B : List RunV), NJ (A ++ x :: y :: B) ↔ NJ (A ++ [x]) ∧ ¬ x.flw y ∧ NJ (y :: B)
  | [], x, y, B => by simp [NJ]
  | [a], x, y, B => by simp [NJ]
  | a :: b :: A, x, y, B => by
    have := NJ_mid (b :: A) x y B
    simp only [List.cons_append, NJ] at this ⊢
    rw [this, and_assoc]
theorem NJ_left : ∀ (A B : List RunV), NJ (A ++ B) → NJ A
  | [], B, _ => trivial
  | [a], B, _ => trivial
  | a :: b :: A, B, h => ⟨h.1, NJ_left (b :: A) B h.2⟩
theorem NJ_right : ∀ (A B : List RunV), NJ (A ++ B) → NJ B
  | [], B, h => h
  | [a], [], h => trivial
  | [a], b :: B, h => h.2
  | a :: b :: A, B, h => NJ_right (b :: A) B h.2
/-- the atoms that follow one another -/
def AtV.fol (a b : AtV) : Prop := a.clock = b.clock ∧ a.r = b.r ∧ a.n + 1 = b.n ∧ a.er = b.er ∧ a.en + 1 = b.en ∧ a.shown = b.shown
instance (a b : AtV) : Decidable (a.fol b) := by unfold AtV.fol; infer_instance
/-- how many runs are needed -/
def needP : Option AtV → List AtV → Nat
  | _, [] => 0
  | none, b :: l => 1 + needP (some b) l
  | some a, b :: l => (if a.fol b then 0 else 1) + needP (some b) l
def need (l : List AtV) : Nat := needP none l
def RunV.last (x : RunV) : AtV := ⟨x.clock, x.r, x.n + (x.text.length - 1), x.er, x.en + (x.text.length - 1), x.text.getLastD 0, x.shown⟩
theorem need_run : ∀ (s : Str) (c r : Nat) (sh : Bool) (n er en : Nat) (b : UInt8) (l : List AtV), needP (some ⟨c, r, n, er, en, b, sh⟩) (atF c r sh (n + 1) er (en + 1) s ++ l) = needP (some ⟨c, r, n + s.length, er, en + s.length, s.getLastD b, sh⟩) l
  | [], c, r, sh, n, er, en, b, l => by simp [atF]
  | b' :: s, c, r, sh, n, er, en, b, l => by
    simp only [atF, List.cons_append, needP]
    rw [if_pos ⟨rfl, rfl, rfl, rfl, rfl, rfl⟩, need_run s, Nat.zero_add]
    simp only [List.length_cons]
    rw [show n + 1 + s.length = n + (s.length + 1) by omega, show en + 1 + s.length = en + (s.length + 1) by omega]
    congr 3
    cases s <;> simp [List.getLastD]
theorem need_cons {x : RunV} (hx : 0 < x.text.length) (o : Option AtV) (l : List AtV) : needP o (atomsOf x ++ l) = (match o with
    | none => 1
    | some a => if a.fol ⟨x.clock, x.r, x.n, x.er, x.en, x.text.headD 0, x.shown⟩ then 0 else 1) + needP (some x.last) l := by
  obtain ⟨c, r, n, er, en, tx, sh⟩ := x
  cases tx with
  | nil => simp at hx
  | cons b s =>
    unfold atomsOf RunV.last
    simp only [atF, List.cons_append]
    have e := need_run s c r sh n er en b l
    have e2 : (s.getLastD b) = (b :: s).getLastD 0 := by cases s <;> simp [List.getLastD]
    rw [e2] at e
    cases o <;> simp only [needP, List.length_cons, Nat.add_sub_cancel, List.headD_cons] <;> rw [e]
theorem last_fol {x y : RunV} (hx : 0 < x.text.length) (b : UInt8) : x.last.fol ⟨y.clock, y.r, y.n, y.er, y.en, b, y.shown⟩ ↔ x.flw y := by
  unfold AtV.fol RunV.flw RunV.last
  simp only
  constructor
  · rintro ⟨h1, h2, h3, h4, h5, h6⟩; exact ⟨⟨h1, h2, by omega⟩, ⟨h4, by omega⟩, h6⟩
  · rintro ⟨⟨h1, h2, h3⟩, ⟨h4, h5⟩, h6⟩; exact ⟨h1, h2, by omega, h4, by omega, h6⟩
theorem need_le : ∀ (L : List RunV) (o : Option AtV), (∀ x ∈ L, 0 < x.text.length) → needP o (flat L) ≤ L.length
  | [], o, _ => by cases o <;> simp [needP]
  | x :: L, o, h => by
    rw [flat_cons, need_cons (h x (by simp))]
    have := need_le L (some x.last) (fun y hy => h y (by simp [hy]))
    cases o with
    | none => simp; omega
    | some a => simp only [List.length_cons]; split <;> omega
theorem need_NJ : ∀ (L : List RunV) (x : RunV), (∀ y ∈ x :: L, 0 < y.text.length) → NJ (x :: L) → needP (some x.last) (flat L) = L.length
  | [], x, _, _ => rfl
  | y :: L, x, h, hn => by
    rw [flat_cons, need_cons (h y (by simp)), need_NJ L y (fun z hz => h z (by simp [hz])) hn.2]
    simp only [List.length_cons]
    rw [if_neg (fun hf => hn.1 ((last_fol (h x (by simp)) _).1 hf))]; omega
theorem need_eq {L : List RunV} (h : ∀ x ∈ L, 0 < x.text.length) (hn : NJ L) : need (flat L) = L.length := by
  cases L with
  | nil => rfl
  | cons x L =>
    unfold need
    rw [flat_cons, need_cons (h x (by simp)), need_NJ L x h hn]
    simp; omega
/-- the bytes that are shown -/
def shownA (l : List AtV) : Str := (l.filter (·.shown)).map (·.b)
theorem shownA_append (A B : List AtV) : shownA (A ++ B) = shownA A ++ shownA B := by simp [shownA]
theorem shownA_run (c r : Nat) (sh : Bool) : ∀ (s : Str) (n er en : Nat), shownA (atF c r sh n er en s) = if sh then s else []
  | [], _, _, _ => by simp [atF, shownA]
  | b :: s, n, er, en => by
    have := shownA_run c r sh s (n + 1) er (en + 1)
    unfold shownA at this ⊢
    cases sh <;> simp [atF] at this ⊢ <;> exact this
theorem shownA_flat (L : List RunV) : shownA (flat L) = shownTx L := by
  induction L with
  | nil => rfl
  | cons x L ih =>
    rw [flat_cons, shownA_append, ih]
    have : shownTx (x :: L) = (if x.shown then x.text else []) ++ shownTx L := by simp [shownTx]
    rw [this]; congr 1; exact shownA_run _ _ _ _ _ _ _
/-! the ends of runs -/
def RunV.ini (x : RunV) : Nat × Nat × Nat × Nat × Nat × Bool := (x.clock, x.r, x.n, x.er, x.en, x.shown)
def RunV.fin_ (x : RunV) : Nat × Nat × Nat × Nat × Nat × Bool := (x.clock, x.r, x.n + x.text.length, x.er, x.en + x.text.length, x.shown)
theorem flw_iff (x y : RunV) : x.flw y ↔ x.fin_ = y.ini := by
  unfold RunV.flw RunV.fin_ RunV.ini
  simp only [Prod.mk.injEq]
  constructor
  · rintro ⟨⟨h1, h2, h3⟩, ⟨h4, h5⟩, h6⟩; exact ⟨h1, h2, h3, h4, h5, h6⟩
  · rintro ⟨h1, h2, h3, h4, h5, h6⟩; exact ⟨⟨h1, h2, h3⟩, ⟨h4, h5⟩, h6⟩
theorem join_ini (x y : RunV) : (x.join y).ini = x.ini := rfl
theorem join_fin {x y : RunV} (h : x.joins y) : (x.join y).fin_ = y.fin_ := by
  obtain ⟨⟨h1, h2, h3⟩, ⟨h4, h5⟩, h6, _⟩ := h
  unfold RunV.fin_ RunV.join
  simp only [Prod.mk.injEq, List.length_append]
  exact ⟨h1, h2, by omega, h4, by omega, h6⟩
theorem fst_ini (x : RunV) (k : Nat) : (x.fst k).ini = x.ini := rfl
theorem snd_fin (x : RunV) {k : Nat} (hk : k ≤ x.text.length) : (x.snd k).fin_ = x.fin_ := by
  unfold RunV.fin_ RunV.snd
  simp only [Prod.mk.injEq, List.length_drop, true_and]
  exact ⟨by omega, by omega, trivial⟩
theorem NJ_fin {x y : RunV} (h : x.fin_ = y.fin_) {L : List RunV} : NJ (x :: L) → NJ (y :: L) := by
  cases L with
  | nil => exact fun _ => trivial
  | cons z L => intro hn; refine ⟨fun hf => hn.1 ?_, hn.2⟩; rw [flw_iff] at hf ⊢; rw [h]; exact hf
theorem NJ_ini {x y : RunV} (h : x.ini = y.ini) : ∀ {A : List RunV}, NJ (A ++ [x]) → NJ (A ++ [y])
  | [], _ => trivial
  | [a], hn => by
    refine ⟨fun hf => hn.1 ?_, trivial⟩
    rw [flw_iff] at hf ⊢; rw [h]; exact hf
  | a :: b :: A, hn => ⟨hn.1, NJ_ini h (A := b :: A) hn.2⟩
theorem NJ_tail {x : RunV} {L : List RunV} (h : NJ (x :: L)) : NJ L := NJ_right [x] L h
/-- two lists of runs, put together at a place that both have -/
theorem NJ_glue {A : List RunV} {x : RunV} {B : List RunV} (h1 : NJ (A ++ [x])) (h2 : NJ (x :: B)) : NJ (A ++ x :: B) := by
  cases B with
  | nil => exact h1
  | cons y B => exact (NJ_mid A x y B).2 ⟨h1, h2.1, h2.2⟩
theorem NJ_split {A : List RunV} {x : RunV} {B : List RunV} (h : NJ (A ++ x :: B)) : NJ (A ++ [x]) ∧ NJ (x :: B) := by
  refine ⟨NJ_left _ B (by rw [List.append_assoc]; exact h), NJ_right A _ h⟩
/-- a place joined with the one behind it, if they follow one another -/
def jn (a : Nat) (x : RunV) : List (Nat × RunV) → List (Nat × RunV)
  | [] => [(a, x)]
  | p :: L => if x.joins p.2 then (a, x.join p.2) :: L else (a, x) :: p :: L
theorem jn_yes {a : Nat} {x : RunV} {p : Nat × RunV} {L : List (Nat × RunV)} (h : x.joins p.2) : jn a x (p :: L) = (a, x.join p.2) :: L := by simp [jn, h]
theorem jn_no {a : Nat} {x : RunV} {p : Nat × RunV} {L : List (Nat × RunV)} (h : ¬ x.joins p.2) : jn a x (p :: L) = (a, x) :: p :: L := by simp [jn, h]
theorem jn_head (a : Nat) (x : RunV) (L : List (Nat × RunV)) : ∃ x' L', jn a x L = (a, x') :: L' ∧ x'.ini = x.ini ∧ flat (x' :: L'.map (·.2)) = flat (x :: L.map (·.2)) ∧ (∀ p ∈ L', p ∈ L) ∧ L'.Sublist L ∧
    ((∀ p ∈ (a, x) :: L, RunOk p.2) → RunOk x') := by
  cases L with
  | nil => exact ⟨x, [], rfl, rfl, rfl, fun _ h => h, List.Sublist.refl _, fun h => h (a, x) (by simp)⟩
  | cons p L =>
    by_cases hj : x.joins p.2
    · rw [jn_yes hj]
      refine ⟨x.join p.2, L, rfl, rfl, ?_, fun q hq => by simp [hq], List.sublist_cons_self _ _, fun h => ?_⟩
      · simp [join_atoms hj]
      · obtain ⟨a1, a2, a3, a4, a5, a6⟩ := h (a, x) (by simp)
        obtain ⟨b1, b2, b3, b4, b5, b6⟩ := h p (by simp)
        obtain ⟨⟨h1, h2, h3⟩, ⟨h4, h5⟩, h6, h7⟩ := hj
        have hl : (x.join p.2).text.length = x.text.length + p.2.text.length := by simp [RunV.join]
        refine ⟨by simp only [] at a1; omega, by omega, a3, ?_, a5, ?_⟩
        · show x.n + _ ≤ _; simp only [] at a4 a1; omega
        · show x.en + _ ≤ _; simp only [] at a4 a1; omega
    · rw [jn_no hj]
      exact ⟨x, p :: L, rfl, rfl, rfl, fun _ h => h, List.Sublist.refl _, fun h => h (a, x) (by simp)⟩
theorem jn_NJ {a : Nat} {x : RunV} {L : List (Nat × RunV)} (hb : atomsN (x :: L.map (·.2)) ≤ 1024) (hn : NJ (L.map (·.2))) : NJ ((jn a x L).map (·.2)) := by
  cases L with
  | nil => exact trivial
  | cons p L =>
    by_cases hj : x.joins p.2
    · rw [jn_yes hj]
      exact NJ_fin (join_fin hj).symm hn
    · rw [jn_no hj]
      refine ⟨fun hf => hj (joins_flw.2 ⟨hf, ?_⟩), hn⟩
      simp [atomsN] at hb
      omega
theorem atomsN_flat {A B : List RunV} (h : flat A = flat B) : atomsN A = atomsN B := by rw [← flatten_length, ← flatten_length, h]
end Go.Proofs.YtlhlbamcgopiiaaGreatDoor
set_option linter.all false
set_option maxRecDepth 100000
set_option maxHeartbeats 4000000
namespace Go.Proofs.YtlhlbamcgopiiaaGreatDoor
open Go Go.RowKit Go.Proofs
variable {zT : List AVal}
/-- a place of a tree, in memory -/
theorem At.item {h : AHeap} : ∀ {t : Rt RunV} {up : AVal} {p : Nat} {x : RunV}, At TS h up t → (p, x) ∈ t.items → ∃ u l r ht sz all, h.get p = some (nrow u l r ht sz x all)
  | .nil, _, _, _, _, hm => by cases hm
  | .node o ht y l r, up, p, x, ha, hm => by
    obtain ⟨⟨m, _, h1⟩, h2, h3⟩ := at_node.1 ha
    rw [items_node] at hm
    rcases List.mem_append.1 hm with hm | hm
    · exact At.item h2 hm
    · rcases List.mem_cons.1 hm with hm | hm
      · cases hm; exact ⟨_, _, _, _, _, _, h1⟩
      · exact At.item h3 hm
/-- the index of a store: for each replica its places, in the order of their numbers -/
structure IX (h : AHeap) (m : AVal) (M : Nat × RunV → Prop) (ix : Nat → List (Nat × RunV)) : Prop where
  mem : ∀ r p, p ∈ ix r ↔ M p ∧ p.2.r = r
  ord : ∀ r, ((ix r).map (·.2.n)).Pairwise (· < ·)
  obj : (m = .nilm ∧ ∀ r, ix r = []) ∨ ∃ q ks, m = .map q ∧ q < h.next ∧ h.get q = some (.map (entA ks)) ∧ (∀ r, PL h (atK ks r) ((ix r).map (·.1))) ∧ (∀ r o, vobj (atK ks r) o → o < h.next ∧ o ≠ q) ∧ ∀ r r' o, vobj (atK ks r) o → vobj (atK ks r') o → r = r'
/-- the objects of a store's index -/
def IObj (m : AVal) (h : AHeap) (o : Nat) : Prop := ∃ q, m = .map q ∧ (o = q ∨ ∃ ks r, h.get q = some (.map (entA ks)) ∧ vobj (atK ks r) o)
/-- a store, in memory: its runs in their order, and its index, which knows those that M has -/
structure Sx (zT : List AVal) (h : AHeap) (s : Nat) (m : AVal) (t : Rt RunV) (M : Nat × RunV → Prop) (ix : Nat → List (Nat × RunV)) : Prop where
  rp : Rp ([], m :: zT) h s t
  ix : IX h m M ix
  sub : ∀ p, M p → p ∈ t.items
  sep : ∀ o, IObj m h o → o ≠ s ∧ o ∉ t.ids
/-- two runs have no atom in common -/
def RunV.apart (x y : RunV) : Prop := x.r = y.r → x.n + x.text.length ≤ y.n ∨ y.n + y.text.length ≤ x.n
/-- runs that may stand together -/
structure Rok (L : List (Nat × RunV)) : Prop where
  ok : ∀ p ∈ L, RunOk p.2
  apart : L.Pairwise fun p q => p.2.apart q.2
theorem incr_len {B : Nat} : ∀ {ks : List Nat} {a : Nat}, ks.Pairwise (· < ·) → (∀ k ∈ ks, a ≤ k ∧ k < B) → ks.length ≤ B - a
  | [], a, _, _ => by simp
  | k :: ks, a, h, hb => by
    rw [List.pairwise_cons] at h
    have h1 := hb k (by simp)
    have := incr_len (a := k + 1) h.2 (fun k' hk' => ⟨h.1 k' hk', (hb k' (by simp [hk'])).2⟩)
    simp only [List.length_cons]; omega
theorem apart_has {x y : RunV} {r n : Nat} (h : x.apart y) (hx : x.has r n) (hy : y.has r n) : False := by
  obtain ⟨rfl, a1, a2⟩ := hx
  obtain ⟨b0, b1, b2⟩ := hy
  have := h b0
  omega
theorem apart_symm {x y : RunV} (h : x.apart y) : y.apart x := fun e => (h e.symm).symm
theorem Rok.uniq {L : List (Nat × RunV)} (R : Rok L) {p q : Nat × RunV} (hp : p ∈ L) (hq : q ∈ L) (h : p ≠ q) : p.2.apart q.2 := by
  have := R.apart
  induction L with
  | nil => cases hp
  | cons a L ih =>
    rw [List.pairwise_cons] at this
    rcases List.mem_cons.1 hp with h1 | h1
    · rcases List.mem_cons.1 hq with h2 | h2
      · exact (h (h1.trans h2.symm)).elim
      · rw [h1]; exact this.1 q h2
    · rcases List.mem_cons.1 hq with h2 | h2
      · rw [h2]; exact apart_symm (this.1 p h1)
      · exact ih ⟨fun p hp => R.ok p (by simp [hp]), this.2⟩ h1 h2 this.2
section
variable {ro : Nat → Option (List AVal)}
theorem IX.keys {h : AHeap} {s : Nat} {m : AVal} {t : Rt RunV} {M : Nat × RunV → Prop} {ix : Nat → List (Nat × RunV)} (S : Sx zT h s m t M ix) (r : Nat) : KeysAt h ((ix r).map (·.1)) ((ix r).map (·.2.n)) := by
  refine ⟨by simp, fun j p k h1 h2 => ?_⟩
  rw [List.getElem?_map] at h1 h2
  cases hx : (ix r)[j]? with
  | none => rw [hx] at h1; cases h1
  | some x =>
    rw [hx] at h1 h2
    cases h1; cases h2
    have hM := ((S.ix.mem r x).1 (List.mem_of_getElem? hx)).1
    obtain ⟨u, l, r', ht, sz, all, e⟩ := At.item (p := x.1) (x := x.2) S.rp.tree (S.sub x hM)
    exact ⟨u, l, r', ht, sz, x.2, all, e, rfl⟩
theorem IX.len {h : AHeap} {s : Nat} {m : AVal} {t : Rt RunV} {M : Nat × RunV → Prop} {ix : Nat → List (Nat × RunV)} (S : Sx zT h s m t M ix) (R : ∀ p, M p → RunOk p.2) (r : Nat) : (ix r).length < 2 ^ 30 := by
  have := incr_len (B := 2 ^ 28 + 2) (a := 0) (S.ix.ord r) (fun k hk => by
    obtain ⟨p, hp, rfl⟩ := List.mem_map.1 hk
    have := (R p ((S.ix.mem r p).1 hp).1).n2
    omega)
  simp only [List.length_map] at this
  omega
/-- the list of a replica, looked up -/
theorem IX.look {h : AHeap} {s : Nat} {m : AVal} {t : Rt RunV} {M : Nat × RunV → Prop} {ix : Nat → List (Nat × RunV)} (S : Sx zT h s m t M ix) (r : Nat) : ∃ v, PL h v ((ix r).map (·.1)) ∧ lookupR (cfgR ro) h 29 m (.int .u16 r) false = .ok v ∧ (∀ o, vobj v o → IObj m h o) := by
  rcases S.ix.obj with ⟨rfl, h1⟩ | ⟨q, ks, rfl, h1, h2, h3, h4, h5⟩
  · exact ⟨.nils, .inl ⟨by rw [h1]; rfl, rfl⟩, look_nil, fun o ho => ho.elim⟩
  · exact ⟨atK ks r, h3 r, look_map h2, fun o ho => ⟨q, rfl, .inr ⟨ks, r, h2, ho⟩⟩⟩
/-- an element of a list of places -/
theorem PL.idx {h : AHeap} {v : AVal} {ps : List Nat} (hv : PL h v ps) {i : Nat} (hi : i < ps.length) : ∃ a, indexAddrR Tryz.prog 270 v (.int .i64 (i : Nat)) = .ok a ∧ loadR (cfgR ro) h 25 a = .ok (.ptr (ps[i]) 0) := by
  rcases hv with ⟨rfl, rfl⟩ | ⟨o, fz, vs, rfl, h1, h2, h3⟩
  · simp at hi
  · refine ⟨.ptr o i, ?_, ?_⟩
    · have hx : idxNat (.int .i64 (i : Int)) ps.length = .ok i := ix_nat hi
      simp [indexAddrR, hx]
    · have hv2 : vs[i]? = some (.ptr ps[i] 0) := by
        have := congrArg (fun l => l[i]?) h2
        simp only [List.getElem?_take, if_pos hi, List.getElem?_map, List.getElem?_eq_getElem hi] at this
        simpa using this
      have hn2 : nthR vs i = .ok (.ptr ps[i] 0) := nthR_get hv2
      simp [loadR, h1, hn2]
theorem find_ev {h : AHeap} {s ar an : Nat} {m : AVal} {t : Rt RunV} {M : Nat × RunV → Prop} {ix : Nat → List (Nat × RunV)} (S : Sx zT h s m t M ix) (R : Rok t.items) (ha : an < 2 ^ 32) {Q : AVal → AHeap → Prop}
    (hq1 : ∀ i p, (ix ar)[i]? = some p → p.2.has ar an → Q (.tuple [.int .i64 (i : Nat), .bool true]) h)
    (hq2 : ∀ i : Nat, (∀ p, M p → ¬ p.2.has ar an) → (∀ p, (ix ar)[i]? = some p → i = 0 ∨ p.2.n ≤ an) → (∀ j p, i < j → (ix ar)[j]? = some p → an < p.2.n) → (i = 0 ∨ i < (ix ar).length) → Q (.tuple [.int .i64 (i : Nat), .bool false]) h) : Ev (cfgR ro) 179 [.ptr s 0, idA ar an] h Q := by
  refine Ev.wp rfl rfl Tryz.func179 rfl ?_
  obtain ⟨s0, hr⟩ := S.rp.root
  rw [rrow] at hr
  simp only [List.nil_append] at hr
  obtain ⟨v, hv, hlk, _⟩ := IX.look (ro := ro) S ar
  have hlen := IX.len S (fun p hp => R.ok p (S.sub p hp)) ar
  simp -implicitDefEqProofs [Tryz.f179, hr, idA, hlk]
  refine bsearch_ev (.inl rfl) hv (IX.keys S ar) (by simp; omega) (fun i hi hlo hhi => ?_) (S.ix.ord ar)
  have hks : ∀ j : Nat, ((ix ar).map (·.2.n))[j]? = (ix ar)[j]?.map (·.2.n) := fun j => List.getElem?_map
  rw [List.length_map] at hi
  -- none of the others has it
  have none_ : ∀ k : Nat, (∀ p, (ix ar)[k]? = some p → ¬ p.2.has ar an) → (∀ j p, k < j → (ix ar)[j]? = some p → an < p.2.n) → (∀ j p, j < k → (ix ar)[j]? = some p → ∃ q, (ix ar)[k]? = some q ∧ q.2.n ≤ an) → ∀ p, M p → ¬ p.2.has ar an := by
    intro k h1 h2 h3 p hp hh
    have hm : p ∈ ix ar := (S.ix.mem ar p).2 ⟨hp, hh.1.symm⟩
    obtain ⟨j, hj⟩ := List.mem_iff_getElem?.1 hm
    rcases Nat.lt_trichotomy j k with c | c | c
    · obtain ⟨q, e1, e2⟩ := h3 j p c hj
      have hqM := ((S.ix.mem ar q).1 (List.mem_of_getElem? e1))
      have hlt : p.2.n < q.2.n := by
        have := S.ix.ord ar
        obtain ⟨l1, e3⟩ := List.getElem?_eq_some_iff.1 hj
        obtain ⟨l2, e4⟩ := List.getElem?_eq_some_iff.1 e1
        have := List.pairwise_iff_getElem.1 this j k (by simpa using l1) (by simpa using l2) c
        simpa [e3, e4] using this
      have hap := R.uniq (S.sub p hp) (S.sub q hqM.1) (fun e => by rw [e] at hlt; omega) (by rw [hqM.2]; exact hh.1.symm)
      obtain ⟨_, b1, b2⟩ := hh
      have := (R.ok _ (S.sub q hqM.1)).pos
      omega
    · subst c; exact h1 p hj hh
    · have := h2 j p c hj
      obtain ⟨_, b1, b2⟩ := hh
      omega
  have fin : ∀ (k : Nat) (p : Nat × RunV), (ix ar)[k]? = some p → (p.2.n ≤ an ∨ k = 0) → (∀ j p, k < j → (ix ar)[j]? = some p → an < p.2.n) → ∀ K : AVal → AHeap → Prop, (∀ n : Int, ∀ b, Q (.tuple [.int .i64 (k : Nat), .bool b]) h → K (.tuple [.int .i64 n, .bool b]) h) → Ev (cfgR ro) 185 [.agg p.2.cells, .agg [.int .u16 ar, .int .u32 an]] h K := by
    intro k p hk hle hgt K hK
    have hM := ((S.ix.mem ar p).1 (List.mem_of_getElem? hk)).1
    refine rHas_ev (R.ok _ (S.sub p hM)) ha (fun hh => hK _ _ (hq1 k p hk hh)) (fun hh => hK _ _ (hq2 k ?_ (fun p' hp' => ?_) hgt (.inr (List.getElem?_eq_some_iff.1 hk).1)))
    · refine none_ k (fun p' hp' => by rw [hk] at hp'; cases hp'; exact hh) hgt (fun j p' hj hp' => ⟨p, hk, ?_⟩)
      rcases hle with e | e
      · exact e
      · omega
    · rw [hk] at hp'; cases hp'; exact hle.symm
  have ent : ∀ k : Nat, k < (ix ar).length → ∃ a, indexAddrR Tryz.prog 270 v (.int .i64 (k : Nat)) = .ok a ∧ ∃ p, (ix ar)[k]? = some p ∧ loadR (cfgR ro) h 25 a = .ok (.ptr p.1 0) ∧ ∃ u l r ht sz all, h.get p.1 = some (nrow u l r ht sz p.2 all) := by
    intro k hk
    obtain ⟨a, e1, e2⟩ := PL.idx (ro := ro) hv (i := k) (by simpa using hk)
    have hg : (ix ar)[k]? = some (ix ar)[k] := List.getElem?_eq_getElem hk
    refine ⟨a, e1, _, hg, by simpa using e2, ?_⟩
    exact At.item (p := (ix ar)[k].1) (x := (ix ar)[k].2) S.rp.tree (S.sub _ ((S.ix.mem ar _).1 (List.mem_of_getElem? hg)).1)
  have ltk : ∀ (j : Nat) (p : Nat × RunV), (ix ar)[j]? = some p → j < i → p.2.n < an := fun j p hj hlt => hlo j p.2.n hlt (by rw [hks, hj]; rfl)
  have gek : ∀ (j : Nat) (p : Nat × RunV), (ix ar)[j]? = some p → i ≤ j → an ≤ p.2.n := fun j p hj hle => hhi j p.2.n hle (by rw [hks, hj]; rfl)
  by_cases c : ((ix ar).map (·.2.n))[i]? = some an
  · rw [decide_eq_true c]
    rw [hks] at c
    have hi2 : i < (ix ar).length := by
      cases hx : (ix ar)[i]? with
      | none => rw [hx] at c; cases c
      | some p => exact (List.getElem?_eq_some_iff.1 hx).1
    obtain ⟨a, e1, p, e2, e3, u, l, r, ht, sz, all, e4⟩ := ent i hi2
    have hpn : p.2.n = an := by rw [e2] at c; simpa using c
    have hd : decide ((i : Int) < 0) = false := decide_eq_false (by omega)
    simp -implicitDefEqProofs [hd, e1, e3]
    refine item_ev e4 ?_
    simp -implicitDefEqProofs [hd, e1, e3]
    refine fin i p e2 (.inl (by omega)) (fun j p' hj hp' => ?_) _ (fun n b hQ => ?_)
    · have h1 := gek j p' hp' (by omega)
      have h2 : p.2.n < p'.2.n := by
        obtain ⟨l1, e5⟩ := List.getElem?_eq_some_iff.1 e2
        obtain ⟨l2, e6⟩ := List.getElem?_eq_some_iff.1 hp'
        have := List.pairwise_iff_getElem.1 (S.ix.ord ar) i j (by simpa using l1) (by simpa using l2) hj
        simpa [e5, e6] using this
      omega
    · simp -implicitDefEqProofs [e3, same_self]
      exact hQ
  · rw [decide_eq_false c]
    by_cases h0 : i = 0
    · subst h0
      have w1 : IntKind.i64.wrap (-1) = -1 := by decide
      simp -implicitDefEqProofs [w1]
      refine hq2 0 (fun p hp hh => ?_) (fun p hp => .inl rfl) (fun j p hj hp => ?_) (.inl rfl)
      · have hm : p ∈ ix ar := (S.ix.mem ar p).2 ⟨hp, hh.1.symm⟩
        obtain ⟨j, hj⟩ := List.mem_iff_getElem?.1 hm
        have h1 := gek j p hj (Nat.zero_le _)
        by_cases e : j = 0
        · subst e
          rw [hks, hj] at c
          have : p.2.n ≠ an := fun e => c (by simp [e])
          have := hh.2.1
          omega
        · have h2 := S.ix.ord ar
          have := hh.2.1
          have hz : 0 < (ix ar).length := by have := (List.getElem?_eq_some_iff.1 hj).1; omega
          have e0 : (ix ar)[0]? = some (ix ar)[0] := List.getElem?_eq_getElem hz
          have g0 := gek 0 _ e0 (Nat.le_refl _)
          obtain ⟨l1, e5⟩ := List.getElem?_eq_some_iff.1 hj
          have := List.pairwise_iff_getElem.1 h2 0 j (by simpa using hz) (by simpa using l1) (by omega)
          simp [e5] at this
          omega
      · have h1 := gek j p hp (Nat.zero_le _)
        have hz : 0 < (ix ar).length := by have := (List.getElem?_eq_some_iff.1 hp).1; omega
        have e0 : (ix ar)[0]? = some (ix ar)[0] := List.getElem?_eq_getElem hz
        have g0 := gek 0 _ e0 (Nat.le_refl _)
        obtain ⟨l1, e5⟩ := List.getElem?_eq_some_iff.1 hp
        have := List.pairwise_iff_getElem.1 (S.ix.ord ar) 0 j (by simpa using hz) (by simpa using l1) hj
        simp [e5] at this
        omega
    · obtain ⟨k, rfl⟩ : ∃ k, i = k + 1 := ⟨i - 1, by omega⟩
      have w1 : IntKind.i64.wrap (k : Int) = (k : Int) := w64 (by omega) (by omega)
      obtain ⟨a, e1, p, e2, e3, u, l, r, ht, sz, all, e4⟩ := ent k (by omega)
      have hd : decide ((k : Int) < 0) = false := decide_eq_false (by omega)
      have hd2 : ¬ (k : Int) < 0 := by omega
      simp -implicitDefEqProofs [w1, hd, hd2, e1, e3]
      refine item_ev e4 ?_
      simp -implicitDefEqProofs [w1, hd, hd2, e1, e3]
      refine fin k p e2 (.inl (by have := ltk k p e2 (by omega); omega)) (fun j p' hj hp' => ?_) _ (fun n b hQ => ?_)
      · have h1 := gek j p' hp' (by omega)
        by_cases e : j = k + 1
        · subst e
          rw [hks, hp'] at c
          have : p'.2.n ≠ an := fun e => c (by simp [e])
          omega
        · obtain ⟨l2, e6⟩ := List.getElem?_eq_some_iff.1 hp'
          have e0 : (ix ar)[k + 1]? = some ((ix ar)[k + 1]'(by omega)) := List.getElem?_eq_getElem _
          have g0 := gek (k + 1) _ e0 (Nat.le_refl _)
          have := List.pairwise_iff_getElem.1 (S.ix.ord ar) (k + 1) j (by simp; omega) (by simpa using l2) (by omega)
          simp [e6] at this
          omega
      · simp -implicitDefEqProofs [e3, same_self]
        exact hQ
end
end Go.Proofs.YtlhlbamcgopiiaaGreatDoor
set_option linter.all false
set_option maxRecDepth 100000
set_option maxHeartbeats 4000000
namespace Go.Proofs.YtlhlbamcgopiiaaGreatDoor
open Go Go.RowKit Go.Proofs
variable {zT : List AVal}
/-- what a store has in memory -/
def SOwn (h : AHeap) (s : Nat) (m : AVal) (t : Rt RunV) (o : Nat) : Prop := o = s ∨ o ∈ t.ids ∨ IObj m h o
/-- a step that touches nothing but what is one's own -/
structure Stp (h : AHeap) (O : Nat → Prop) (h' : AHeap) (O' : Nat → Prop) : Prop where
  nx : h.next ≤ h'.next
  keep : ∀ o, o < h.next → ¬ O o → h'.get o = h.get o
  own : ∀ o, O' o → O o ∨ h.next ≤ o
theorem Stp.refl (h : AHeap) (O : Nat → Prop) : Stp h O h O := ⟨Nat.le_refl _, fun _ _ _ => rfl, fun _ h => .inl h⟩
theorem Stp.trans {a b c : AHeap} {A B C : Nat → Prop} (x : Stp a A b B) (y : Stp b B c C) : Stp a A c C :=
  ⟨Nat.le_trans x.nx y.nx, fun o ho hn => by
    rw [y.keep o (Nat.lt_of_lt_of_le ho x.nx) (fun hb => (x.own o hb).elim hn (by omega)), x.keep o ho hn],
   fun o ho => (y.own o ho).elim (x.own o) (fun h => .inr (Nat.le_trans x.nx h))⟩
theorem Stp.old {a b c : AHeap} {A B : Nat → Prop} (x : Stp a A b B) (y : Old b c) (hB : ∀ o, B o → o < b.next) : Stp a A c B :=
  ⟨Nat.le_trans x.nx y.1, fun o ho hn => by rw [y.2 o (Nat.lt_of_lt_of_le ho x.nx), x.keep o ho hn], x.own⟩
theorem Stp.of_old {a b c : AHeap} {A B : Nat → Prop} (y : Old a b) (x : Stp b A c B) : Stp a A c B :=
  ⟨Nat.le_trans y.1 x.nx, fun o ho hn => by rw [x.keep o (Nat.lt_of_lt_of_le ho y.1) hn, y.2 o ho], fun o ho => (x.own o ho).imp_right (fun h => Nat.le_trans y.1 h)⟩
/-- what is older than all that is one's own stays -/
theorem Stp.toOld {h0 a b : AHeap} {A B : Nat → Prop} (x : Stp a A b B) (y : Old h0 a) (hA : ∀ o, A o → h0.next ≤ o) : Old h0 b ∧ ∀ o, B o → h0.next ≤ o :=
  ⟨⟨Nat.le_trans y.1 x.nx, fun o ho => by rw [x.keep o (Nat.lt_of_lt_of_le ho y.1) (fun h => by have := hA o h; omega), y.2 o ho]⟩, fun o ho => (x.own o ho).elim (hA o) (fun h => Nat.le_trans y.1 h)⟩
theorem entA_inj : ∀ {a b : List (Nat × AVal)}, entA a = entA b → a = b
  | [], [], _ => rfl
  | [], _ :: _, h => by cases h
  | _ :: _, [], h => by cases h
  | x :: a, y :: b, h => by
    unfold entA at h
    simp only [List.map_cons, List.cons.injEq, Prod.mk.injEq, AVal.int.injEq, true_and] at h
    obtain ⟨⟨h1, h2⟩, h3⟩ := h
    rw [entA_inj (a := a) (b := b) h3]
    congr 1
    exact Prod.ext (by omega) h2
theorem PL.keep {h h' : AHeap} {v : AVal} {ps : List Nat} (p : PL h v ps) (k : ∀ o, vobj v o → h'.get o = h.get o) : PL h' v ps := by
  rcases p with ⟨rfl, rfl⟩ | ⟨o, fz, vs, rfl, h1, h2, h3⟩
  · exact .inl ⟨rfl, rfl⟩
  · exact .inr ⟨o, fz, vs, rfl, by rw [k o rfl]; exact h1, h2, h3⟩
section
variable {h h' : AHeap} {s : Nat} {m : AVal} {t : Rt RunV} {M : Nat × RunV → Prop} {ix : Nat → List (Nat × RunV)}
theorem Sx.lt (S : Sx zT h s m t M ix) : ∀ o, SOwn h s m t o → o < h.next := by
  rintro o (rfl | ho | ⟨q, rfl, ho⟩)
  · exact S.rp.lr
  · exact S.rp.lt o ho
  · rcases S.ix.obj with ⟨h0, _⟩ | ⟨q', ks, h0, h1, h2, h3, h4, h5⟩
    · cases h0
    · cases h0
      rcases ho with rfl | ⟨ks', r, e1, e2⟩
      · exact h1
      · rw [h2] at e1; cases entA_inj (AObj.map.inj (Option.some.inj e1))
        exact (h4 r o e2).1
theorem IObj.keep (S : Sx zT h s m t M ix) (k : ∀ o, IObj m h o → h'.get o = h.get o) (o : Nat) : IObj m h' o ↔ IObj m h o := by
  constructor
  · rintro ⟨q, rfl, ho⟩
    refine ⟨q, rfl, ho.imp_right ?_⟩
    rintro ⟨ks, r, e1, e2⟩
    rw [k q ⟨q, rfl, .inl rfl⟩] at e1
    exact ⟨ks, r, e1, e2⟩
  · rintro ⟨q, rfl, ho⟩
    refine ⟨q, rfl, ho.imp_right ?_⟩
    rintro ⟨ks, r, e1, e2⟩
    rw [← k q ⟨q, rfl, .inl rfl⟩] at e1
    exact ⟨ks, r, e1, e2⟩
theorem IX.keep (X : IX h m M ix) (k : ∀ o, IObj m h o → h'.get o = h.get o) (hn : h.next ≤ h'.next) : IX h' m M ix := by
  refine ⟨X.mem, X.ord, ?_⟩
  rcases X.obj with h0 | ⟨q, ks, rfl, h1, h2, h3, h4, h5⟩
  · exact .inl h0
  · exact .inr ⟨q, ks, rfl, Nat.lt_of_lt_of_le h1 hn, by rw [k q ⟨q, rfl, .inl rfl⟩]; exact h2, fun r => (h3 r).keep (fun o ho => k o ⟨q, rfl, .inr ⟨ks, r, h2, ho⟩⟩), fun r o ho => ⟨Nat.lt_of_lt_of_le (h4 r o ho).1 hn, (h4 r o ho).2⟩, h5⟩
/-- another tree, under the same index -/
theorem Sx.tree {t' : Rt RunV} (S : Sx zT h s m t M ix) (R : Rp ([], m :: zT) h' s t') (hs : ∀ p, M p → p ∈ t'.items) (k : ∀ o, o < h.next → o ≠ s → o ∉ t.ids → h'.get o = h.get o) (hn : h.next ≤ h'.next) (hi : ∀ o ∈ t'.ids, o ∈ t.ids ∨ h.next ≤ o) : Sx zT h' s m t' M ix ∧ Stp h (SOwn h s m t) h' (SOwn h' s m t') := by
  have kk : ∀ o, IObj m h o → h'.get o = h.get o := fun o ho => k o (S.lt o (.inr (.inr ho))) (S.sep o ho).1 (S.sep o ho).2
  refine ⟨⟨R, S.ix.keep kk hn, hs, fun o ho => ?_⟩, hn, fun o ho hn' => k o ho (fun e => hn' (.inl e)) (fun e => hn' (.inr (.inl e))), ?_⟩
  · have ho := (IObj.keep S kk o).1 ho
    refine ⟨(S.sep o ho).1, fun hm => ?_⟩
    rcases hi o hm with h1 | h1
    · exact (S.sep o ho).2 h1
    · have := S.lt o (.inr (.inr ho)); omega
  · rintro o (rfl | ho | ho)
    · exact .inl (.inl rfl)
    · exact (hi o ho).imp_left (fun h => .inr (.inl h))
    · exact .inl (.inr (.inr ((IObj.keep S kk o).1 ho)))
theorem Sx.old (S : Sx zT h s m t M ix) (o : Old h h') : Sx zT h' s m t M ix ∧ Stp h (SOwn h s m t) h' (SOwn h' s m t) :=
  S.tree (S.rp.old o) S.sub (fun q h1 _ _ => o.2 q h1) o.1 (fun q hq => .inl hq)
theorem pw_ins {ks : List Nat} {i t : Nat} (h : ks.Pairwise (· < ·)) (h1 : ∀ j k, j < i → ks[j]? = some k → k < t) (h2 : ∀ j k, i ≤ j → ks[j]? = some k → t < k) : (ks.take i ++ t :: ks.drop i).Pairwise (· < ·) := by
  have a1 : ∀ k ∈ ks.take i, k < t := fun k hk => by
    obtain ⟨j, hj⟩ := List.mem_iff_getElem?.1 hk
    rw [List.getElem?_take] at hj
    split at hj
    · exact h1 j k (by assumption) hj
    · cases hj
  have a2 : ∀ k ∈ ks.drop i, t < k := fun k hk => by
    obtain ⟨j, hj⟩ := List.mem_iff_getElem?.1 hk
    rw [List.getElem?_drop] at hj
    exact h2 (i + j) k (by omega) hj
  have h' := h
  rw [← List.take_append_drop i ks, List.pairwise_append] at h'
  rw [List.pairwise_append, List.pairwise_cons]
  refine ⟨h'.1, ⟨a2, h'.2.1⟩, fun a ha b hb => ?_⟩
  rcases List.mem_cons.1 hb with rfl | hb
  · exact a1 a ha
  · exact h'.2.2 a ha b hb
end
end Go.Proofs.YtlhlbamcgopiiaaGreatDoor
set_option linter.all false
set_option maxRecDepth 100000
set_option maxHeartbeats 4000000
namespace Go.Proofs.YtlhlbamcgopiiaaGreatDoor
open Go Go.RowKit Go.Proofs
variable {zT : List AVal}
section
variable {ro : Nat → Option (List AVal)}
/-- one more in the index -/
theorem IX.put {h h2 : AHeap} {s q i : Nat} {t : Rt RunV} {M : Nat × RunV → Prop} {ix : Nat → List (Nat × RunV)} {ks : List (Nat × AVal)} {a : Nat} {x : RunV} {v' : AVal} (S : Sx zT h s (.map q) t M ix) (R : Rok t.items) (hp : (a, x) ∈ t.items) (hM : ¬ M (a, x)) (hg : h.get q = some (.map (entA ks)))
    (hlo : ∀ j k, j < i → ((ix x.r).map (·.2.n))[j]? = some k → k < x.n) (hhi : ∀ j k, i ≤ j → ((ix x.r).map (·.2.n))[j]? = some k → x.n ≤ k)
    (hpl : PL h2 v' (((ix x.r).map (·.1)).take i ++ a :: ((ix x.r).map (·.1)).drop i)) (hk : ∀ o, o < h.next → ¬ vobj (atK ks x.r) o → h2.get o = h.get o) (hn : h.next ≤ h2.next) (hv : ∀ o, vobj v' o → h.next ≤ o ∧ o < h2.next) :
    ∃ ix', Sx zT (h2.set q (.map (entA (putK ks x.r v')))) s (.map q) t (fun p => M p ∨ p = (a, x)) ix' ∧ Stp h (SOwn h s (.map q) t) (h2.set q (.map (entA (putK ks x.r v')))) (SOwn (h2.set q (.map (entA (putK ks x.r v')))) s (.map q) t) := by
  obtain ⟨q1, ks', hq, x1, x2, x3, x4, x5⟩ := S.ix.obj.resolve_left (fun e => by cases e.1)
  cases hq
  rw [hg] at x2; cases entA_inj (AObj.map.inj (Option.some.inj x2))
  have hqv : ¬ vobj (atK ks x.r) q := fun e => (x4 _ _ e).2 rfl
  have keepO : ∀ o, o < h.next → ¬ vobj (atK ks x.r) o → o ≠ q → (h2.set q (.map (entA (putK ks x.r v')))).get o = h.get o := fun o h1 h2' h3 => by rw [get_set_ne (Ne.symm h3)]; exact hk o h1 h2'
  have hI : ∀ r o, vobj (atK ks r) o → IObj (.map q) h o := fun r o ho => ⟨q, rfl, .inr ⟨ks, r, hg, ho⟩⟩
  have hIq : IObj (.map q) h q := ⟨q, rfl, .inl rfl⟩
  have hgq : (h2.set q (.map (entA (putK ks x.r v')))).get q = some (.map (entA (putK ks x.r v'))) := get_set_self _ _ _
  have hI2 : ∀ o, IObj (.map q) (h2.set q (.map (entA (putK ks x.r v')))) o → (IObj (.map q) h o ∧ ¬ vobj (atK ks x.r) o) ∨ (h.next ≤ o ∧ o < h2.next) := by
    rintro o ⟨q', e, ho⟩
    cases e
    rcases ho with rfl | ⟨ks', r, e1, e2⟩
    · exact .inl ⟨hIq, hqv⟩
    · rw [hgq] at e1
      cases entA_inj (AObj.map.inj (Option.some.inj e1))
      rw [at_put] at e2
      by_cases hr : r = x.r
      · rw [if_pos hr] at e2; exact .inr (hv o e2)
      · rw [if_neg hr] at e2
        exact .inl ⟨hI r o e2, fun e3 => hr (x5 r x.r o e2 e3)⟩
  refine ⟨fun r => if r = x.r then (ix x.r).take i ++ (a, x) :: (ix x.r).drop i else ix r, ⟨?_, ⟨fun r p => ?_, fun r => ?_, .inr ⟨q, _, rfl, Nat.lt_of_lt_of_le x1 hn, hgq, fun r => ?_, fun r o ho => ?_, fun r r' o ho ho' => ?_⟩⟩, ?_, fun o ho => ?_⟩, hn, fun o ho hno => ?_, fun o ho => ?_⟩
  · obtain ⟨⟨s0, hr⟩, h1, h2', h3, h4, h5⟩ := S.rp
    refine ⟨⟨s0, ?_⟩, At.congr (fun o ho => ?_) h1, h2', h3, Nat.lt_of_lt_of_le h4 hn, fun o ho => Nat.lt_of_lt_of_le (h5 o ho) hn⟩
    · rw [keepO s h4 (fun e => (S.sep s (hI _ _ e)).1 rfl) (fun e => (S.sep q hIq).1 e.symm)]; exact hr
    · exact keepO o (h5 o ho) (fun e => (S.sep o (hI _ _ e)).2 ho) (fun e => (S.sep q hIq).2 (by rw [← e]; exact ho))
  · by_cases hr : r = x.r
    · simp only [if_pos hr]
      have hm := S.ix.mem x.r p
      rw [← List.take_append_drop i (ix x.r)] at hm
      simp only [List.mem_append, List.mem_cons] at hm ⊢
      constructor
      · rintro (h1 | rfl | h1)
        · have := hm.1 (.inl h1); exact ⟨.inl this.1, by rw [hr]; exact this.2⟩
        · exact ⟨.inr rfl, hr.symm⟩
        · have := hm.1 (.inr h1); exact ⟨.inl this.1, by rw [hr]; exact this.2⟩
      · rintro ⟨h1 | rfl, h2'⟩
        · rcases hm.2 ⟨h1, by rw [← hr]; exact h2'⟩ with h3 | h3
          · exact .inl h3
          · exact .inr (.inr h3)
        · exact .inr (.inl rfl)
    · simp only [if_neg hr]
      rw [S.ix.mem r p]
      constructor
      · rintro ⟨h1, h2'⟩; exact ⟨.inl h1, h2'⟩
      · rintro ⟨h1 | rfl, h2'⟩
        · exact ⟨h1, h2'⟩
        · exact (hr h2'.symm).elim
  · by_cases hr : r = x.r
    · simp only [if_pos hr, List.map_append, List.map_cons, List.map_take, List.map_drop]
      refine pw_ins (S.ix.ord x.r) hlo (fun j k hj hk' => ?_)
      have h1 := hhi j k hj hk'
      rcases Nat.lt_or_eq_of_le h1 with h2' | h2'
      · exact h2'
      · exfalso
        rw [List.getElem?_map] at hk'
        cases hx : (ix x.r)[j]? with
        | none => rw [hx] at hk'; cases hk'
        | some p =>
          rw [hx] at hk'
          have hk' : p.2.n = k := by simpa using hk'
          have hpM := (S.ix.mem x.r p).1 (List.mem_of_getElem? hx)
          have hap := R.uniq hp (S.sub p hpM.1) (fun e => hM (e ▸ hpM.1)) hpM.2.symm
          have p1 := (R.ok _ hp).pos
          have p2 := (R.ok _ (S.sub p hpM.1)).pos
          simp only [] at hap p1
          omega
    · simp only [if_neg hr]; exact S.ix.ord r
  · rw [at_put]
    by_cases hr : r = x.r
    · simp only [if_pos hr, List.map_append, List.map_cons, List.map_take, List.map_drop]
      exact hpl.keep (fun o ho => get_set_ne (by have := hv o ho; omega))
    · simp only [if_neg hr]
      exact (x3 r).keep (fun o ho => keepO o (x4 r o ho).1 (fun e => hr (x5 r x.r o ho e)) (x4 r o ho).2)
  · rw [at_put] at ho
    by_cases hr : r = x.r
    · rw [if_pos hr] at ho; have := hv o ho; exact ⟨this.2, by omega⟩
    · rw [if_neg hr] at ho; exact ⟨Nat.lt_of_lt_of_le (x4 r o ho).1 hn, (x4 r o ho).2⟩
  · rw [at_put] at ho ho'
    by_cases hr : r = x.r <;> by_cases hr' : r' = x.r
    · rw [hr, hr']
    · rw [if_pos hr] at ho; rw [if_neg hr'] at ho'
      have := hv o ho; have := (x4 r' o ho').1; omega
    · rw [if_neg hr] at ho; rw [if_pos hr'] at ho'
      have := hv o ho'; have := (x4 r o ho).1; omega
    · rw [if_neg hr] at ho; rw [if_neg hr'] at ho'; exact x5 r r' o ho ho'
  · rintro p (h1 | rfl)
    · exact S.sub p h1
    · exact hp
  · rcases hI2 o ho with h1 | h1
    · exact S.sep o h1.1
    · exact ⟨fun e => by have := S.rp.lr; omega, fun e => by have := S.rp.lt o e; omega⟩
  · exact keepO o ho (fun e => hno (.inr (.inr (hI _ _ e)))) (fun e => hno (.inr (.inr (by rw [e]; exact hIq))))
  · rcases ho with rfl | ho | ho
    · exact .inl (.inl rfl)
    · exact .inl (.inr (.inl ho))
    · rcases hI2 o ho with h1 | h1
      · exact .inl (.inr (.inr h1.1))
      · exact .inr h1.1
theorem know_ev {h : AHeap} {s a : Nat} {m : AVal} {t : Rt RunV} {M : Nat × RunV → Prop} {ix : Nat → List (Nat × RunV)} {x : RunV} (S : Sx zT h s m t M ix) (R : Rok t.items) (hp : (a, x) ∈ t.items) (hM : ¬ M (a, x)) {Q : AVal → AHeap → Prop}
    (hq : ∀ h' m' ix', Sx zT h' s m' t (fun p => M p ∨ p = (a, x)) ix' → Stp h (SOwn h s m t) h' (SOwn h' s m' t) → Q (.tuple []) h') : Ev (cfgR ro) 189 [.ptr s 0, .ptr a 0] h Q := by
  refine Ev.wp rfl rfl Tryz.func189 rfl ?_
  obtain ⟨s0, hr⟩ := S.rp.root
  rw [rrow] at hr
  simp only [List.nil_append] at hr
  obtain ⟨u, l, r, ht, sz, all, hn⟩ := At.item S.rp.tree hp
  have iaEq : ∀ q, eqFlat Tryz.prog h (.map 47 270) (.map q) .nilm = .ok false := fun q => by rfl
  have iaNil : eqFlat Tryz.prog h (.map 47 270) .nilm .nilm = .ok true := by rfl
  rcases S.ix.obj with ⟨rfl, hix⟩ | ⟨q, ks, rfl, x1, x2, x3, x4, x5⟩
  · simp -implicitDefEqProofs [Tryz.f189, hr, iaNil]
    obtain ⟨q, hqq⟩ : ∃ q, q = h.next := ⟨_, rfl⟩
    obtain ⟨H1, hH1⟩ : ∃ H1, H1 = (h.push (.map [])).set s (.row 0 false (t.ptr :: .int .u64 s0 :: .map q :: zT)) := ⟨_, rfl⟩
    have hsl := S.rp.lr
    have hrp : (h.push (.map [])).get s = some (.row 0 false (t.ptr :: .int .u64 s0 :: .nilm :: zT)) := by rw [AHeap.get_push, if_neg (by omega)]; exact hr
    have k1 : ∀ o, o < h.next → o ≠ s → H1.get o = h.get o := fun o h1 h2 => by rw [hH1, get_set_ne (Ne.symm h2), AHeap.get_push, if_neg (by omega)]
    have nx1 : H1.next = h.next + 1 := by rw [hH1]; rfl
    have x1 : q < H1.next := by omega
    have x2 : H1.get q = some (.map (entA [])) := by rw [hH1, get_set_ne (by omega), hqq, get_push_next]; rfl
    have hr1 : H1.get s = some (.row 0 false (t.ptr :: .int .u64 s0 :: .map q :: zT)) := by rw [hH1, get_set_self]
    have x4 : ∀ r o, vobj (atK [] r) o → o < H1.next ∧ o ≠ q := fun r o h => h.elim
    have x3 : ∀ r, PL H1 (atK [] r) ((ix r).map (·.1)) := fun r => .inl ⟨by rw [hix]; rfl, rfl⟩
    have hI : ∀ o, IObj (.map q) H1 o → o = q := by
      rintro o ⟨q', e, ho⟩
      cases e
      rcases ho with h1 | ⟨ks, r, e1, e2⟩
      · exact h1
      · rw [x2] at e1; cases entA_inj (AObj.map.inj (Option.some.inj e1)); exact e2.elim
    have S1 : Sx zT H1 s (.map q) t M ix := by
      refine ⟨⟨⟨s0, hr1⟩, At.congr (fun o ho => k1 o (S.rp.lt o ho) (fun e => S.rp.rt (by rw [← e]; exact ho))) S.rp.tree, S.rp.nd, S.rp.rt, by omega, fun o ho => by have := S.rp.lt o ho; omega⟩, ⟨S.ix.mem, S.ix.ord, .inr ⟨q, [], rfl, x1, x2, x3, x4, fun r r' o h => h.elim⟩⟩, S.sub, fun o ho => ?_⟩
      rw [hI o ho]
      exact ⟨by omega, fun e => by have := S.rp.lt q e; omega⟩
    have P1 : Stp h (SOwn h s .nilm t) H1 (SOwn H1 s (.map q) t) := by
      refine ⟨by omega, fun o ho hn => k1 o ho (fun e => hn (.inl e)), fun o ho => ?_⟩
      rcases ho with h1 | h1 | h1
      · exact .inl (.inl h1)
      · exact .inl (.inr (.inl h1))
      · exact .inr (by rw [hI o h1]; omega)
    have hna : a ≠ s := fun e => S.rp.rt (by rw [← e]; unfold Rt.ids; exact List.mem_map.2 ⟨_, hp, rfl⟩)
    have hn1 : H1.get a = some (nrow u l r ht sz x all) := by rw [k1 a (S.rp.lt a (by unfold Rt.ids; exact List.mem_map.2 ⟨_, hp, rfl⟩)) hna]; exact hn
    simp -implicitDefEqProofs [hrp]
    rw [← hqq, ← hH1]
    obtain ⟨ks, hkk⟩ : ∃ ks : List (Nat × AVal), ks = [] := ⟨_, rfl⟩
    rw [← hkk] at x2 x3 x4
    have hks : ∀ j : Nat, ((ix x.r).map (·.2.n))[j]? = (ix x.r)[j]?.map (·.2.n) := fun j => List.getElem?_map
    have hlen := IX.len S1 (fun p hp => R.ok p (S1.sub p hp)) x.r
    have hnq := S1.lt a (.inr (.inl (by unfold Rt.ids; exact List.mem_map.2 ⟨_, hp, rfl⟩)))
    refine item_ev hn1 ?_
    simp -implicitDefEqProofs [RunV.cells, hr1, look_map x2, same_self]
    refine bsearch_ev (.inr rfl) (x3 x.r) (IX.keys S1 x.r) (by simp; omega) (fun i hi hlo hhi => ?_) (S.ix.ord x.r)
    rw [List.length_map] at hi
    obtain ⟨H2, hH2⟩ : ∃ H2, H2 = H1.push (.row 1 false [.ptr a 0]) := ⟨_, rfl⟩
    simp -implicitDefEqProofs [RunV.cells, hr1, look_map x2, same_self, buildSliceR, reps]
    rw [← hH2]
    refine ins_ev (ps := (ix x.r).map (·.1)) (q := H1.next) (p := a) ((x3 x.r).keep (fun o ho => by rw [hH2, AHeap.get_push, if_neg (by have := (x4 _ _ ho).1; omega)])) (by rw [hH2]; exact get_push_next _ _) (fun e => by have := (x4 _ _ e).1; omega) (by simpa using hi) (by simp; omega) (fun v' h3 c1 c2 c3 c4 => ?_)
    have n2 : H2.next = H1.next + 1 := by rw [hH2]; rfl
    have g2 : ∀ o, o < H1.next → H2.get o = H1.get o := fun o ho => by rw [hH2, AHeap.get_push, if_neg (by omega)]
    obtain ⟨ix', S2, P2⟩ := IX.put S1 R hp hM x2 hlo hhi c1 (fun o ho hv => by rw [c2 o (by omega) hv, g2 o ho]) (by omega) (fun o ho => by have := c4 o ho; omega)
    have hqv : ¬ vobj (atK ks x.r) q := fun e => (x4 _ _ e).2 rfl
    have x2' : h3.get q = some (.map (entA ks)) := by rw [c2 q (by omega) hqv, g2 q x1]; exact x2
    have hs3 : h3.get s = H1.get s := by rw [c2 s (by have := S1.rp.lr; omega) (fun e => (S1.sep s ⟨q, rfl, .inr ⟨ks, x.r, x2, e⟩⟩).1 rfl), g2 s S1.rp.lr]
    have hr3 := hr1
    rw [← hs3] at hr3
    have hr4 := hr3
    rw [← get_set_ne (h := h3) (o := s) (q := q) (x := .map (entA (putK ks x.r v'))) (fun e => (S1.sep q ⟨q, rfl, .inl rfl⟩).1 e)] at hr4
    simp -implicitDefEqProofs [RunV.cells, hr1, hr3, hr4, look_map x2, same_self, put_map x2']
    exact hq _ _ ix' S2 (P1.trans P2)
  · simp -implicitDefEqProofs [Tryz.f189, hr, iaEq]
    obtain ⟨H1, hH1⟩ : ∃ H1, H1 = h := ⟨_, rfl⟩
    have S1 := S
    have hn1 := hn
    have hr1 := hr
    rw [← hH1] at S1 hn1 hr1 x1 x2 x3 x4 ⊢
    have hks : ∀ j : Nat, ((ix x.r).map (·.2.n))[j]? = (ix x.r)[j]?.map (·.2.n) := fun j => List.getElem?_map
    have hlen := IX.len S1 (fun p hp => R.ok p (S1.sub p hp)) x.r
    have hnq := S1.lt a (.inr (.inl (by unfold Rt.ids; exact List.mem_map.2 ⟨_, hp, rfl⟩)))
    refine item_ev hn1 ?_
    simp -implicitDefEqProofs [RunV.cells, hr1, look_map x2, same_self]
    refine bsearch_ev (.inr rfl) (x3 x.r) (IX.keys S1 x.r) (by simp; omega) (fun i hi hlo hhi => ?_) (S.ix.ord x.r)
    rw [List.length_map] at hi
    obtain ⟨H2, hH2⟩ : ∃ H2, H2 = H1.push (.row 1 false [.ptr a 0]) := ⟨_, rfl⟩
    simp -implicitDefEqProofs [RunV.cells, hr1, look_map x2, same_self, buildSliceR, reps]
    rw [← hH2]
    refine ins_ev (ps := (ix x.r).map (·.1)) (q := H1.next) (p := a) ((x3 x.r).keep (fun o ho => by rw [hH2, AHeap.get_push, if_neg (by have := (x4 _ _ ho).1; omega)])) (by rw [hH2]; exact get_push_next _ _) (fun e => by have := (x4 _ _ e).1; omega) (by simpa using hi) (by simp; omega) (fun v' h3 c1 c2 c3 c4 => ?_)
    have n2 : H2.next = H1.next + 1 := by rw [hH2]; rfl
    have g2 : ∀ o, o < H1.next → H2.get o = H1.get o := fun o ho => by rw [hH2, AHeap.get_push, if_neg (by omega)]
    obtain ⟨ix', S2, P2⟩ := IX.put S1 R hp hM x2 hlo hhi c1 (fun o ho hv => by rw [c2 o (by omega) hv, g2 o ho]) (by omega) (fun o ho => by have := c4 o ho; omega)
    have hqv : ¬ vobj (atK ks x.r) q := fun e => (x4 _ _ e).2 rfl
    have x2' : h3.get q = some (.map (entA ks)) := by rw [c2 q (by omega) hqv, g2 q x1]; exact x2
    have hs3 : h3.get s = H1.get s := by rw [c2 s (by have := S1.rp.lr; omega) (fun e => (S1.sep s ⟨q, rfl, .inr ⟨ks, x.r, x2, e⟩⟩).1 rfl), g2 s S1.rp.lr]
    have hr3 := hr1
    rw [← hs3] at hr3
    have hr4 := hr3
    rw [← get_set_ne (h := h3) (o := s) (q := q) (x := .map (entA (putK ks x.r v'))) (fun e => (S1.sep q ⟨q, rfl, .inl rfl⟩).1 e)] at hr4
    simp -implicitDefEqProofs [RunV.cells, hr1, hr3, hr4, look_map x2, same_self, put_map x2']
    exact hq _ _ ix' S2 (by rw [hH1] at P2; exact P2)
end
end Go.Proofs.YtlhlbamcgopiiaaGreatDoor
set_option linter.all false
set_option maxRecDepth 100000
set_option maxHeartbeats 4000000
namespace Go.Proofs.YtlhlbamcgopiiaaGreatDoor
open Go Go.RowKit Go.Proofs
section
variable {ro : Nat → Option (List AVal)}
theorem del_ev {h : AHeap} {v : AVal} {ps : List Nat} {i : Nat} (hv : PL h v ps) (hi : i < ps.length) (hl : ps.length < 2 ^ 40) {Q : AVal → AHeap → Prop}
    (hK : ∀ v' h', PL h' v' (ps.take i ++ ps.drop (i + 1)) → (∀ o, ¬ vobj v o → h'.get o = h.get o) → h'.next = h.next → (∀ o, vobj v' o → vobj v o) → Q v' h') : Ev (cfgR ro) 216 [v, .int .i64 (i : Nat), .int .i64 ((i + 1 : Nat) : Int)] h Q := by
  rcases hv with ⟨rfl, rfl⟩ | ⟨o, fz, vs, rfl, h1, h2, h3⟩
  · simp at hi
  refine Ev.wp rfl rfl Tryz.func216 rfl ?_
  obtain ⟨n, hn⟩ : ∃ n, n = ps.length := ⟨_, rfl⟩
  obtain ⟨j, hj⟩ : ∃ j, j = i + 1 := ⟨_, rfl⟩
  rw [← hn] at h2 h3 hi hl ⊢
  rw [← hj]
  have hne : decide ((i : Int) = (j : Int)) = false := decide_eq_false (by omega)
  have b1 : boundR (.int .i64 (n : Int)) n = .ok n := bd_nat (Nat.le_refl _)
  have b2 : boundR (.int .i64 (j : Int)) n = .ok j := bd_nat (by omega)
  have b3 : boundR (.int .i64 (i : Int)) j = .ok i := bd_nat (by omega)
  have b4 : boundR (.int .i64 (i : Int)) n = .ok i := bd_nat (by omega)
  obtain ⟨d, hd⟩ : ∃ d, d = n - j := ⟨_, rfl⟩
  obtain ⟨l, hll⟩ : ∃ l, l = i + d := ⟨_, rfl⟩
  have hroom : ∀ (h' : AHeap) (ws : List AVal) off, h'.get o = some (.row 1 fz ws) → roomOf h' o off 1 = .ok (ws.length - off) := fun h' ws off e => by unfold roomOf; rw [e]; simp
  have k1 : sliceSl h 1 (.sl o 0 n) (some (.int .i64 (i : Int))) (some (.int .i64 (j : Int))) (some (.int .i64 (n : Int))) = .ok (slcOf o 0 1 i j n) := by simp [sliceSl, bounds3, b1, b2, b3]
  have bx : boundR (.int .i64 (i : Int)) (max n (vs.length - 0)) = .ok i := bd_nat (by omega)
  have k2 : sliceSl h 1 (.sl o 0 n) none (some (.int .i64 (i : Int))) none = .ok (.sl o 0 i) := by simp only [sliceSl, hroom h vs 0 h1, bounds2, Res.ok_bind, bx]; simp
  have k3 : sliceSl h 1 (.sl o 0 n) (some (.int .i64 (j : Int))) none none = .ok (.sl o j d) := by simp only [sliceSl, hroom h vs 0 h1, bounds2, Res.ok_bind, b2]; simp [hd]
  obtain ⟨new, hnew⟩ : ∃ new, new = (vs.drop j).take d := ⟨_, rfl⟩
  have hnl : new.length = d := by rw [hnew]; simp; omega
  have k4 : readSl (cfgR ro) h 1 d (.sl o j d) = .ok new := by
    simp only [rs_sl, h1]
    by_cases c : d = 0
    · rw [if_pos c, hnew, c]; rfl
    · rw [if_neg c]; unfold takeR; rw [if_pos (by omega), Nat.mul_one, hnew]
  have k4' : (if d = 0 then Res.ok [] else takeR vs j d) = .ok new := by
    have := k4
    simp only [rs_sl, h1, Nat.mul_one] at this
    exact this
  obtain ⟨ws, hws⟩ : ∃ ws, ws = vs.take i ++ new ++ vs.drop (i + d) := ⟨_, rfl⟩
  have hwl : ws.length = vs.length := by rw [hws]; simp; omega
  have k5 : appCore 1 8 h (.sl o 0 i) d new = .ok (.sl o 0 l, h.set o (.row 1 fz ws)) := by
    unfold appCore
    simp only [h1, if_true]
    rw [if_pos (by omega)]
    unfold overR
    rw [if_pos (by omega), Nat.zero_add, Nat.mul_one, hnl, ← hws, hll]; rfl
  obtain ⟨H, hH⟩ : ∃ H, H = h.set o (.row 1 fz ws) := ⟨_, rfl⟩
  rw [← hH] at k5
  have hg : H.get o = some (.row 1 fz ws) := by rw [hH, get_set_self]
  have by_ : boundR (.int .i64 (n : Int)) (max l (ws.length - 0)) = .ok n := bd_nat (by omega)
  have bz : boundR (.int .i64 (l : Int)) n = .ok l := bd_nat (by omega)
  have bx2 : boundR (.int .i64 (i : Int)) (max n (ws.length - 0)) = .ok i := bd_nat (by omega)
  have k2H : sliceSl H 1 (.sl o 0 n) none (some (.int .i64 (i : Int))) none = .ok (.sl o 0 i) := by simp only [sliceSl, hroom H ws 0 hg, bounds2, Res.ok_bind, bx2]; simp
  have k3H : sliceSl H 1 (.sl o 0 n) (some (.int .i64 (j : Int))) none none = .ok (.sl o j d) := by simp only [sliceSl, hroom H ws 0 hg, bounds2, Res.ok_bind, b2]; simp [hd]
  have k6 : sliceSl H 1 (.sl o 0 l) (some (.int .i64 (l : Int))) (some (.int .i64 (n : Int))) none = .ok (.sl o l 1) := by
    simp only [sliceSl, hroom H ws 0 hg, bounds2, Res.ok_bind, by_, bz]; simp; omega
  have k7 : clearR (cfgR ro) H 270 (.sl o l 1) = .ok (.tuple [], H.set o (.row 1 fz (ws.take l ++ [.nilp] ++ ws.drop (l + 1)))) := by
    unfold clearR
    simp [hg, reps, overR]
    rw [if_pos (by omega)]; rfl
  simp -implicitDefEqProofs [Tryz.f216, h1, k1, hne, k2, k3, k4', k5, k6, k7, k2H, k3H, same_self]
  have e1 : l + 1 = n := by omega
  refine hK (.sl o 0 l) (H.set o (.row 1 fz (ws.take l ++ .nilp :: ws.drop (l + 1)))) (.inr ⟨o, fz, ws.take l ++ .nilp :: ws.drop (l + 1), ?_, get_set_self _ _ _, ?_, ?_⟩) (fun o' ho => ?_) (by rw [AHeap.next_set, hH, AHeap.next_set]) (fun o' ho => ho)
  · have : (ps.take i ++ ps.drop (i + 1)).length = l := by simp; omega
    rw [this]
  · have : (ps.take i ++ ps.drop (i + 1)).length = l := by simp; omega
    rw [this, List.take_append_of_le_length (by simp; omega), List.take_take, Nat.min_self]
    have hv : vs.take i = (ps.map fun p => AVal.ptr p 0).take i := by rw [← h2, List.take_take, Nat.min_eq_left (by omega)]
    have hv2 : new = (ps.map fun p => AVal.ptr p 0).drop j := by
      rw [← h2, hnew, List.drop_take, hd]
    rw [hws, List.take_append_of_le_length (by simp; omega), List.take_of_length_le (by simp; omega), hv, hv2, List.map_append, List.map_take, List.map_drop, hj]
  · have : (ps.take i ++ ps.drop (i + 1)).length = l := by simp; omega
    rw [this]; simp; omega
  · rw [get_set_ne (fun e => ho (by rw [← e]; rfl)), hH, get_set_ne (fun e => ho (by rw [← e]; rfl))]
end
end Go.Proofs.YtlhlbamcgopiiaaGreatDoor
set_option linter.all false
set_option maxRecDepth 100000
set_option maxHeartbeats 4000000
namespace Go.Proofs.YtlhlbamcgopiiaaGreatDoor
open Go Go.RowKit Go.Proofs
variable {zT : List AVal}
/-! lists of runs that may stand together -/
theorem Rok.iff (L1 L2 : List (Nat × RunV)) (p : Nat × RunV) : Rok (L1 ++ p :: L2) ↔ Rok (L1 ++ L2) ∧ RunOk p.2 ∧ ∀ q ∈ L1 ++ L2, q.2.apart p.2 := by
  constructor
  · rintro ⟨h1, h2⟩
    rw [List.pairwise_append, List.pairwise_cons] at h2
    obtain ⟨a1, ⟨a2, a3⟩, a4⟩ := h2
    refine ⟨⟨fun q hq => h1 q ?_, ?_⟩, h1 p (by simp), fun q hq => ?_⟩
    · rcases List.mem_append.1 hq with h | h <;> simp [h]
    · rw [List.pairwise_append]; exact ⟨a1, a3, fun a ha b hb => a4 a ha b (by simp [hb])⟩
    · rcases List.mem_append.1 hq with h | h
      · exact a4 q h p (by simp)
      · exact apart_symm (a2 q h)
  · rintro ⟨⟨h1, h2⟩, h3, h4⟩
    rw [List.pairwise_append] at h2
    refine ⟨fun q hq => ?_, ?_⟩
    · rcases List.mem_append.1 hq with h | h
      · exact h1 q (by simp [h])
      · rcases List.mem_cons.1 h with rfl | h
        · exact h3
        · exact h1 q (by simp [h])
    · rw [List.pairwise_append, List.pairwise_cons]
      refine ⟨h2.1, ⟨fun q hq => apart_symm (h4 q (by simp [hq])), h2.2.1⟩, fun a ha b hb => ?_⟩
      rcases List.mem_cons.1 hb with rfl | hb
      · exact h4 a (by simp [ha])
      · exact h2.2.2 a ha b hb
/-- a part of a run -/
def RunV.within (z y : RunV) : Prop := z.r = y.r ∧ y.n ≤ z.n ∧ z.n + z.text.length ≤ y.n + y.text.length
theorem apart_within {x y z : RunV} (h : x.apart y) (w : z.within y) : x.apart z := by
  obtain ⟨w1, w2, w3⟩ := w
  intro e
  have := h (e.trans w1)
  omega
theorem fst_within (y : RunV) (k : Nat) : (y.fst k).within y := ⟨rfl, Nat.le_refl _, by simp [RunV.fst]; omega⟩
theorem snd_within (y : RunV) {k : Nat} (hk : k ≤ y.text.length) : (y.snd k).within y := ⟨rfl, by simp [RunV.snd], by simp [RunV.snd]; omega⟩
theorem RunOk.fst {y : RunV} (h : RunOk y) {k : Nat} (h1 : 1 ≤ k) (h2 : k < y.text.length) : RunOk (y.fst k) := by
  obtain ⟨a1, a2, a3, a4, a5, a6⟩ := h
  have hl : (y.fst k).text.length = k := by simp [RunV.fst]; omega
  exact ⟨by omega, by omega, a3, by show y.n + _ ≤ _; omega, a5, by show y.en + _ ≤ _; omega⟩
theorem RunOk.snd {y : RunV} (h : RunOk y) {k : Nat} (h1 : 1 ≤ k) (h2 : k < y.text.length) : RunOk (y.snd k) := by
  obtain ⟨a1, a2, a3, a4, a5, a6⟩ := h
  have hl : (y.snd k).text.length = y.text.length - k := by simp [RunV.snd]
  exact ⟨by omega, by omega, by show 1 ≤ y.n + k; omega, by show y.n + k + _ ≤ _; omega, by show 1 ≤ y.en + k; omega, by show y.en + k + _ ≤ _; omega⟩
theorem Rok.set {L1 L2 : List (Nat × RunV)} {a b : Nat} {y z : RunV} (h : Rok (L1 ++ (a, y) :: L2)) (hz : RunOk z) (w : z.within y) : Rok (L1 ++ (b, z) :: L2) := by
  rw [Rok.iff] at h ⊢
  exact ⟨h.1, hz, fun q hq => apart_within (h.2.2 q hq) w⟩
theorem Rok.cut {L1 L2 : List (Nat × RunV)} {a b c : Nat} {y : RunV} {k : Nat} (h : Rok (L1 ++ (a, y) :: L2)) (h1 : 1 ≤ k) (h2 : k < y.text.length) : Rok (L1 ++ (b, y.fst k) :: (c, y.snd k) :: L2) := by
  have hy := ((Rok.iff _ _ _).1 h).2.1
  have e := h.set (b := c) (hy.snd h1 h2) (snd_within y (Nat.le_of_lt h2))
  rw [Rok.iff] at h ⊢
  refine ⟨e, hy.fst h1 h2, fun q hq => ?_⟩
  rcases List.mem_append.1 hq with hq | hq
  · exact apart_within (h.2.2 q (by simp [hq])) (fst_within y k)
  · rcases List.mem_cons.1 hq with rfl | hq
    · intro _; right; show y.n + _ ≤ y.n + k; simp [RunV.fst]; omega
    · exact apart_within (h.2.2 q (by simp [hq])) (fst_within y k)
theorem Rok.join {L1 L2 : List (Nat × RunV)} {a b : Nat} {x y : RunV} (h : Rok (L1 ++ (a, x) :: (b, y) :: L2)) (j : x.joins y) : Rok (L1 ++ (a, x.join y) :: L2) := by
  rw [Rok.iff] at h
  obtain ⟨h1, h2, h3⟩ := h
  rw [Rok.iff] at h1
  obtain ⟨g1, g2, g3⟩ := h1
  rw [Rok.iff]
  have hl : (x.join y).text.length = x.text.length + y.text.length := by simp [RunV.join]
  obtain ⟨⟨j1, j2, j3⟩, ⟨j4, j5⟩, j6, j7⟩ := j
  refine ⟨g1, ?_, fun q hq => ?_⟩
  · obtain ⟨a1, a2, a3, a4, a5, a6⟩ := h2
    obtain ⟨b1, b2, b3, b4, b5, b6⟩ := g2
    simp only [] at a1 a2 a3 a4 a5 a6 b1 b2 b3 b4 b5 b6
    exact ⟨by simp only []; omega, by simp only []; omega, a3, by show x.n + _ ≤ _; simp only []; omega, a5, by show x.en + _ ≤ _; simp only []; omega⟩
  · have e1 := h3 q (by rcases List.mem_append.1 hq with h | h <;> simp [h])
    have e2 := g3 q hq
    intro e
    have e1 := e1 e
    have e2 := e2 (e.trans j2)
    simp only [] at e1 e2
    show _ ≤ x.n ∨ x.n + _ ≤ _
    rw [hl]
    have p1 := h2.pos; have p2 := g2.pos; simp only [] at p1 p2
    have pq : 0 < q.2.text.length := (g1.ok q hq).pos
    omega
theorem Rok.drop {L1 L2 : List (Nat × RunV)} {p : Nat × RunV} (h : Rok (L1 ++ p :: L2)) : Rok (L1 ++ L2) := ((Rok.iff _ _ _).1 h).1
theorem Rok.len {L : List (Nat × RunV)} (h : Rok L) : L.length ≤ atomsN (L.map (·.2)) := by
  have := h.ok
  clear h
  induction L with
  | nil => simp
  | cons p L ih =>
    have h1 := ih (fun q hq => this q (by simp [hq]))
    have h2 := (this p (by simp)).pos
    have e : atomsN ((p :: L).map (·.2)) = p.2.text.length + atomsN (L.map (·.2)) := by simp [atomsN]
    rw [e, List.length_cons]; omega
section
variable {h h' : AHeap} {s : Nat} {m : AVal} {t t' : Rt RunV} {ix : Nat → List (Nat × RunV)}
theorem fit_of (R : Rok t.items) (ha : t.at_ ≤ 2 ^ 20) : t.items.length < 2 ^ 37 ∧ t.at_ < 2 ^ 37 ∧ Fit t := by
  have := R.len
  have e : atomsN (t.items.map (·.2)) = t.at_ := rfl
  unfold Fit
  omega
theorem Sx.congr {M M' : Nat × RunV → Prop} (S : Sx zT h s m t M ix) (e : ∀ p, M p ↔ M' p) : Sx zT h s m t M' ix := by
  have : M = M' := funext fun p => propext (e p)
  rw [← this]; exact S
/-- another run at a place, with the same name -/
theorem Sx.set {L1 L2 : List (Nat × RunV)} {a : Nat} {y z : RunV} (S : Sx zT h s m t (· ∈ t.items) ix) (hT : t.items = L1 ++ (a, y) :: L2) (hT' : t'.items = L1 ++ (a, z) :: L2) (er : z.r = y.r) (en : z.n = y.n)
    (R : Rp ([], m :: zT) h' s t') (k : ∀ o, o < h.next → o ∉ t.ids → h'.get o = h.get o) (hn : h.next ≤ h'.next) :
    ∃ ix', Sx zT h' s m t' (· ∈ t'.items) ix' ∧ Stp h (SOwn h s m t) h' (SOwn h' s m t') := by
  have hids : t'.ids = t.ids := by unfold Rt.ids; rw [hT, hT']; simp
  have kk : ∀ o, IObj m h o → h'.get o = h.get o := fun o ho => k o (S.lt o (.inr (.inr ho))) (S.sep o ho).2
  have hnd : t.ids.Nodup := S.rp.nd
  have hna : ∀ p ∈ L1 ++ L2, p.1 ≠ a := by
    have h1 := hnd
    unfold Rt.ids at h1
    rw [hT, List.map_append, List.map_cons, List.nodup_append, List.nodup_cons] at h1
    intro p hp e
    rcases List.mem_append.1 hp with hp | hp
    · exact h1.2.2 p.1 (List.mem_map.2 ⟨p, hp, rfl⟩) a (by simp) e
    · exact h1.2.1.1 (List.mem_map.2 ⟨p, hp, e⟩)
  have hf : ∀ p, p ∈ t.items ↔ p = (a, y) ∨ p ∈ L1 ++ L2 := fun p => by
    rw [hT]; simp only [List.mem_append, List.mem_cons]
    constructor
    · rintro (h | h | h)
      · exact .inr (.inl h)
      · exact .inl h
      · exact .inr (.inr h)
    · rintro (h | h | h)
      · exact .inr (.inl h)
      · exact .inl h
      · exact .inr (.inr h)
  have hf' : ∀ p, p ∈ t'.items ↔ p = (a, z) ∨ p ∈ L1 ++ L2 := fun p => by
    rw [hT']; simp only [List.mem_append, List.mem_cons]
    constructor
    · rintro (h | h | h)
      · exact .inr (.inl h)
      · exact .inl h
      · exact .inr (.inr h)
    · rintro (h | h | h)
      · exact .inr (.inl h)
      · exact .inl h
      · exact .inr (.inr h)
  let g : Nat × RunV → Nat × RunV := fun p => if p.1 = a then (a, z) else p
  have g1 : ∀ p, (g p).1 = p.1 := fun p => by simp only [g]; split <;> simp_all
  have g2 : ∀ p, p ∈ t.items → (g p).2.n = p.2.n ∧ (g p).2.r = p.2.r := fun p hp => by
    simp only [g]
    by_cases e : p.1 = a
    · rw [if_pos e]
      rcases (hf p).1 hp with rfl | h2
      · exact ⟨en, er⟩
      · exact (hna p h2 e).elim
    · rw [if_neg e]; exact ⟨rfl, rfl⟩
  have hmem : ∀ r p, p ∈ ix r → p ∈ t.items := fun r p hp => ((S.ix.mem r p).1 hp).1
  have X := S.ix
  have hm1 : ∀ r, (((ix r).map g).map (·.1)) = (ix r).map (·.1) := fun r => by
    rw [List.map_map]; exact List.map_congr_left (fun p _ => g1 p)
  have hm2 : ∀ r, (((ix r).map g).map (·.2.n)) = (ix r).map (·.2.n) := fun r => by
    rw [List.map_map]; exact List.map_congr_left (fun p hp => (g2 p (hmem r p hp)).1)
  refine ⟨fun r => (ix r).map g, ⟨R, ⟨fun r p => ?_, fun r => ?_, ?_⟩, fun p hp => hp, fun o ho => ?_⟩, hn, fun o ho hn' => k o ho (fun e => hn' (.inr (.inl e))), fun o ho => ?_⟩
  · rw [List.mem_map]
    constructor
    · rintro ⟨q, hq, rfl⟩
      obtain ⟨q1, q2⟩ := (X.mem r q).1 hq
      refine ⟨(hf' _).2 ?_, by rw [(g2 q q1).2]; exact q2⟩
      simp only [g]
      rcases (hf q).1 q1 with rfl | h2
      · left; rw [if_pos rfl]
      · right; rw [if_neg (hna q h2)]; exact h2
    · rintro ⟨h1, h2⟩
      rcases (hf' p).1 h1 with rfl | h3
      · exact ⟨(a, y), (X.mem r _).2 ⟨(hf _).2 (.inl rfl), by rw [← h2]; exact er.symm⟩, by simp [g]⟩
      · exact ⟨p, (X.mem r p).2 ⟨(hf p).2 (.inr h3), h2⟩, by simp only [g]; rw [if_neg (hna p h3)]⟩
  · simp only [hm2]; exact X.ord r
  · have X' := X.keep kk hn
    rcases X'.obj with ⟨h1, h2⟩ | ⟨q, ks, h1, h2, h3, h4, h5⟩
    · exact .inl ⟨h1, fun r => by simp [h2 r]⟩
    · exact .inr ⟨q, ks, h1, h2, h3, fun r => by rw [hm1]; exact h4 r, h5⟩
  · rw [hids]; exact S.sep o ((IObj.keep S kk o).1 ho)
  · rcases ho with rfl | ho | ho
    · exact .inl (.inl rfl)
    · exact .inl (.inr (.inl (by rw [← hids]; exact ho)))
    · exact .inl (.inr (.inr ((IObj.keep S kk o).1 ho)))
end
end Go.Proofs.YtlhlbamcgopiiaaGreatDoor
set_option linter.all false
set_option maxRecDepth 100000
set_option maxHeartbeats 4000000
namespace Go.Proofs.YtlhlbamcgopiiaaGreatDoor
open Go Go.RowKit Go.Proofs
variable {zT : List AVal}
theorem mem_del {α : Type} {l : List α} {i : Nat} {p : α} : p ∈ l.take i ++ l.drop (i + 1) ↔ ∃ j, j ≠ i ∧ l[j]? = some p := by
  rw [List.mem_append]
  constructor
  · rintro (h | h)
    · obtain ⟨j, hj⟩ := List.mem_iff_getElem?.1 h
      rw [List.getElem?_take] at hj
      split at hj
      · exact ⟨j, by omega, hj⟩
      · cases hj
    · obtain ⟨j, hj⟩ := List.mem_iff_getElem?.1 h
      rw [List.getElem?_drop] at hj
      exact ⟨i + 1 + j, by omega, hj⟩
  · rintro ⟨j, h1, h2⟩
    by_cases c : j < i
    · left; refine List.mem_iff_getElem?.2 ⟨j, ?_⟩; rw [List.getElem?_take, if_pos c]; exact h2
    · right; refine List.mem_iff_getElem?.2 ⟨j - (i + 1), ?_⟩; rw [List.getElem?_drop, show i + 1 + (j - (i + 1)) = j by omega]; exact h2
section
variable {ro : Nat → Option (List AVal)}
theorem IX.at_eq {h : AHeap} {m : AVal} {M : Nat × RunV → Prop} {ix : Nat → List (Nat × RunV)} (X : IX h m M ix) {r i j : Nat} {p p' : Nat × RunV} (h1 : (ix r)[i]? = some p) (h2 : (ix r)[j]? = some p') (e : p.2.n = p'.2.n) : i = j := by
  obtain ⟨l1, e1⟩ := List.getElem?_eq_some_iff.1 h1
  obtain ⟨l2, e2⟩ := List.getElem?_eq_some_iff.1 h2
  rcases Nat.lt_trichotomy i j with c | c | c
  · have := List.pairwise_iff_getElem.1 (X.ord r) i j (by simpa using l1) (by simpa using l2) c
    simp [e1, e2] at this; omega
  · exact c
  · have := List.pairwise_iff_getElem.1 (X.ord r) j i (by simpa using l2) (by simpa using l1) c
    simp [e1, e2] at this; omega
/-- one less in the index -/
theorem IX.del {h h2 : AHeap} {s q i : Nat} {t : Rt RunV} {M : Nat × RunV → Prop} {ix : Nat → List (Nat × RunV)} {ks : List (Nat × AVal)} {a : Nat} {x : RunV} {v' : AVal} (S : Sx zT h s (.map q) t M ix) (hi : (ix x.r)[i]? = some (a, x)) (hg : h.get q = some (.map (entA ks)))
    (hpl : PL h2 v' (((ix x.r).map (·.1)).take i ++ ((ix x.r).map (·.1)).drop (i + 1))) (hk : ∀ o, ¬ vobj (atK ks x.r) o → h2.get o = h.get o) (hn : h2.next = h.next) (hv : ∀ o, vobj v' o → vobj (atK ks x.r) o) :
    ∃ ix', Sx zT (h2.set q (.map (entA (putK ks x.r v')))) s (.map q) t (fun p => M p ∧ p ≠ (a, x)) ix' ∧ Stp h (SOwn h s (.map q) t) (h2.set q (.map (entA (putK ks x.r v')))) (SOwn (h2.set q (.map (entA (putK ks x.r v')))) s (.map q) t) := by
  obtain ⟨q1, ks', hq, x1, x2, x3, x4, x5⟩ := S.ix.obj.resolve_left (fun e => by cases e.1)
  cases hq
  rw [hg] at x2; cases entA_inj (AObj.map.inj (Option.some.inj x2))
  have hqv : ¬ vobj (atK ks x.r) q := fun e => (x4 _ _ e).2 rfl
  have keepO : ∀ o, ¬ vobj (atK ks x.r) o → o ≠ q → (h2.set q (.map (entA (putK ks x.r v')))).get o = h.get o := fun o h2' h3 => by rw [get_set_ne (Ne.symm h3)]; exact hk o h2'
  have hI : ∀ r o, vobj (atK ks r) o → IObj (.map q) h o := fun r o ho => ⟨q, rfl, .inr ⟨ks, r, hg, ho⟩⟩
  have hIq : IObj (.map q) h q := ⟨q, rfl, .inl rfl⟩
  have hgq : (h2.set q (.map (entA (putK ks x.r v')))).get q = some (.map (entA (putK ks x.r v'))) := get_set_self _ _ _
  have hI2 : ∀ o, IObj (.map q) (h2.set q (.map (entA (putK ks x.r v')))) o → IObj (.map q) h o := by
    rintro o ⟨q', e, ho⟩
    cases e
    rcases ho with rfl | ⟨ks', r, e1, e2⟩
    · exact hIq
    · rw [hgq] at e1
      cases entA_inj (AObj.map.inj (Option.some.inj e1))
      rw [at_put] at e2
      by_cases hr : r = x.r
      · rw [if_pos hr] at e2; exact hI x.r o (hv o e2)
      · rw [if_neg hr] at e2
        exact hI r o e2
  have hn' : (h2.set q (.map (entA (putK ks x.r v')))).next = h.next := by rw [AHeap.next_set, hn]
  have hax := (S.ix.mem x.r _).1 (List.mem_of_getElem? hi)
  refine ⟨fun r => if r = x.r then (ix x.r).take i ++ (ix x.r).drop (i + 1) else ix r, ⟨?_, ⟨fun r p => ?_, fun r => ?_, .inr ⟨q, _, rfl, by rw [hn']; exact x1, hgq, fun r => ?_, fun r o ho => ?_, fun r r' o ho ho' => ?_⟩⟩, fun p hp => S.sub p hp.1, fun o ho => S.sep o (hI2 o ho)⟩, by rw [hn']; exact Nat.le_refl _, fun o ho hno => ?_, fun o ho => ?_⟩
  · obtain ⟨⟨s0, hr⟩, h1, h2', h3, h4, h5⟩ := S.rp
    refine ⟨⟨s0, ?_⟩, At.congr (fun o ho => ?_) h1, h2', h3, by rw [hn']; exact h4, fun o ho => by rw [hn']; exact h5 o ho⟩
    · rw [keepO s (fun e => (S.sep s (hI _ _ e)).1 rfl) (fun e => (S.sep q hIq).1 e.symm)]; exact hr
    · exact keepO o (fun e => (S.sep o (hI _ _ e)).2 ho) (fun e => (S.sep q hIq).2 (by rw [← e]; exact ho))
  · by_cases hr : r = x.r
    · simp only [if_pos hr]
      rw [mem_del]
      constructor
      · rintro ⟨j, h1, h2'⟩
        have := (S.ix.mem x.r p).1 (List.mem_of_getElem? h2')
        exact ⟨⟨this.1, fun e => h1 (S.ix.at_eq h2' hi (by rw [e]))⟩, by rw [hr]; exact this.2⟩
      · rintro ⟨⟨h1, h2'⟩, h3⟩
        obtain ⟨j, hj⟩ := List.mem_iff_getElem?.1 ((S.ix.mem x.r p).2 ⟨h1, by rw [← hr]; exact h3⟩)
        exact ⟨j, fun e => h2' (by rw [e, hi] at hj; exact (Option.some.inj hj).symm), hj⟩
    · simp only [if_neg hr]
      rw [S.ix.mem r p]
      constructor
      · rintro ⟨h1, h2'⟩; exact ⟨⟨h1, fun e => hr (by rw [← h2', e])⟩, h2'⟩
      · rintro ⟨h1, h2'⟩; exact ⟨h1.1, h2'⟩
  · by_cases hr : r = x.r
    · simp only [if_pos hr]
      have := S.ix.ord x.r
      refine List.Pairwise.sublist (List.Sublist.map _ ?_) this
      rw [← List.eraseIdx_eq_take_drop_succ]; exact List.eraseIdx_sublist _ _
    · simp only [if_neg hr]; exact S.ix.ord r
  · rw [at_put]
    by_cases hr : r = x.r
    · simp only [if_pos hr, List.map_append, List.map_take, List.map_drop]
      exact hpl.keep (fun o ho => get_set_ne (fun e => hqv (by rw [e]; exact hv o ho)))
    · simp only [if_neg hr]
      exact (x3 r).keep (fun o ho => keepO o (fun e => hr (x5 r x.r o ho e)) (x4 r o ho).2)
  · rw [at_put] at ho
    rw [hn']
    by_cases hr : r = x.r
    · rw [if_pos hr] at ho; exact x4 x.r o (hv o ho)
    · rw [if_neg hr] at ho; exact x4 r o ho
  · rw [at_put] at ho ho'
    by_cases hr : r = x.r <;> by_cases hr' : r' = x.r
    · rw [hr, hr']
    · rw [if_pos hr] at ho; rw [if_neg hr'] at ho'
      exact (hr' (x5 r' x.r o ho' (hv o ho))).elim
    · rw [if_neg hr] at ho; rw [if_pos hr'] at ho'
      exact (hr (x5 r x.r o ho (hv o ho'))).elim
    · rw [if_neg hr] at ho; rw [if_neg hr'] at ho'; exact x5 r r' o ho ho'
  · exact keepO o (fun e => hno (.inr (.inr (hI _ _ e)))) (fun e => hno (.inr (.inr (by rw [e]; exact hIq))))
  · rcases ho with rfl | ho | ho
    · exact .inl (.inl rfl)
    · exact .inl (.inr (.inl ho))
    · exact .inl (.inr (.inr (hI2 o ho)))
theorem forget_ev {h : AHeap} {s a : Nat} {m : AVal} {t : Rt RunV} {ix : Nat → List (Nat × RunV)} {x : RunV} {L1 L2 : List (Nat × RunV)} (S : Sx zT h s m t (· ∈ t.items) ix) (R : Rok t.items) (hT : t.items = L1 ++ (a, x) :: L2) (hfit : Fit t) {Q : AVal → AHeap → Prop}
    (hq : ∀ h' t' ix', Sx zT h' s m t' (· ∈ t'.items) ix' → t'.items = L1 ++ L2 → Stp h (SOwn h s m t) h' (SOwn h' s m t') → Q (.tuple []) h') : Ev (cfgR ro) 195 [.ptr s 0, .ptr a 0] h Q := by
  refine Ev.wp rfl rfl Tryz.func195 rfl ?_
  obtain ⟨s0, hr⟩ := S.rp.root
  rw [rrow] at hr
  simp only [List.nil_append] at hr
  have hp : (a, x) ∈ t.items := by rw [hT]; simp
  obtain ⟨u, l, r, ht, sz, all, hn⟩ := At.item S.rp.tree hp
  have hx := R.ok _ hp
  simp only [] at hx
  have hhas : x.has x.r x.n := ⟨rfl, Nat.le_refl _, by have := hx.pos; omega⟩
  have hn2 := hx.n2
  simp -implicitDefEqProofs [Tryz.f195]
  refine item_ev hn ?_
  simp -implicitDefEqProofs [RunV.cells]
  refine keyID_ev ?_
  simp -implicitDefEqProofs [idA]
  refine find_ev (ar := x.r) (an := x.n) S R (by omega) (fun i p hi hh => ?_) (fun i hno => (hno _ hp hhas).elim)
  have hpx : p = (a, x) := by
    have hm := (S.ix.mem x.r p).1 (List.mem_of_getElem? hi)
    by_cases e : p = (a, x)
    · exact e
    · exact (apart_has (R.uniq hm.1 hp e) hh hhas).elim
  subst hpx
  rcases S.ix.obj with ⟨rfl, hix⟩ | ⟨q, ks, rfl, x1, x2, x3, x4, x5⟩
  · rw [hix] at hi; cases hi
  have hil : i < (ix x.r).length := (List.getElem?_eq_some_iff.1 hi).1
  have hlen := IX.len S (fun p hp => R.ok p hp) x.r
  have w1 : IntKind.i64.wrap ((i : Int) + 1) = ((i + 1 : Nat) : Int) := by rw [w64 (by omega) (by omega)]; omega
  simp -implicitDefEqProofs [hr, look_map x2, w1, same_self]
  refine del_ev (x3 x.r) (by simpa using hil) (by simp; omega) (fun v' h2 c1 c2 c3 c4 => ?_)
  obtain ⟨ix', S2, P2⟩ := IX.del S hi x2 c1 c2 c3 c4
  have hqv : ¬ vobj (atK ks x.r) q := fun e => (x4 _ _ e).2 rfl
  have x2' : h2.get q = some (.map (entA ks)) := by rw [c2 q hqv]; exact x2
  have hs3 : h2.get s = h.get s := by rw [c2 s (fun e => (S.sep s ⟨q, rfl, .inr ⟨ks, x.r, x2, e⟩⟩).1 rfl)]
  have hr3 := hr
  rw [← hs3] at hr3
  have hr4 := hr3
  rw [← get_set_ne (h := h2) (o := s) (q := q) (x := .map (entA (putK ks x.r v'))) (fun e => (S.sep q ⟨q, rfl, .inl rfl⟩).1 e)] at hr4
  have lk2 := look_map (ro := ro) (r := x.r) x2'
  simp -implicitDefEqProofs [hr, hr3, hr4, look_map x2, lk2, same_self, put_map x2']
  refine ⟨.inl (by decide +kernel), ?_⟩
  refine rope_remove (z := ([], .map q :: zT)) S2.rp hT hfit (fun h' t' R' e1 k1 n1 => ?_)
  have hids : ∀ o ∈ t'.ids, o ∈ t.ids := fun o ho => by
    unfold Rt.ids at ho ⊢
    rw [e1] at ho; rw [hT]
    simp only [List.map_append, List.map_cons, List.mem_append, List.mem_cons] at ho ⊢
    rcases ho with h | h
    · exact .inl h
    · exact .inr (.inr h)
  have hnd := S.rp.nd
  have hmem : ∀ p, (p ∈ t.items ∧ p ≠ (a, x)) ↔ p ∈ t'.items := fun p => by
    rw [e1, hT]
    unfold Rt.ids at hnd
    rw [hT, List.map_append, List.map_cons, List.nodup_append, List.nodup_cons] at hnd
    simp only [List.mem_append, List.mem_cons]
    constructor
    · rintro ⟨h1 | h1 | h1, h2⟩
      · exact .inl h1
      · exact (h2 h1).elim
      · exact .inr h1
    · rintro (h1 | h1)
      · exact ⟨.inl h1, fun e => hnd.2.2 p.1 (List.mem_map.2 ⟨p, h1, rfl⟩) a (by simp) (by rw [e])⟩
      · exact ⟨.inr (.inr h1), fun e => hnd.2.1.1 (List.mem_map.2 ⟨p, h1, by rw [e]⟩)⟩
  obtain ⟨S3, P3⟩ := S2.tree R' (fun p hp => (hmem p).1 hp) k1 n1 (fun o ho => .inl (hids o ho))
  simp -implicitDefEqProofs
  exact hq _ t' ix' (S3.congr hmem) e1 (P2.trans P3)
end
end Go.Proofs.YtlhlbamcgopiiaaGreatDoor
set_option linter.all false
set_option maxRecDepth 100000
set_option maxHeartbeats 4000000
namespace Go.Proofs.YtlhlbamcgopiiaaGreatDoor
open Go Go.RowKit Go.Proofs
variable {zT : List AVal}
section
variable {ro : Nat → Option (List AVal)}
theorem atomsN_mid (L1 L2 : List (Nat × RunV)) (p : Nat × RunV) : atomsN ((L1 ++ p :: L2).map (·.2)) = atomsN (L1.map (·.2)) + p.2.text.length + atomsN (L2.map (·.2)) := by
  simp [atomsN]; omega
theorem at_items {t : Rt RunV} {L : List (Nat × RunV)} (h : t.items = L) : t.at_ = atomsN (L.map (·.2)) := by rw [← h]; rfl
theorem cut_ev {h : AHeap} {s a k : Nat} {m : AVal} {t : Rt RunV} {ix : Nat → List (Nat × RunV)} {y : RunV} {L1 L2 : List (Nat × RunV)} (S : Sx zT h s m t (· ∈ t.items) ix) (R : Rok t.items) (hT : t.items = L1 ++ (a, y) :: L2) (hat : t.at_ ≤ 2 ^ 20) (hk : k < 2 ^ 60) {Q : AVal → AHeap → Prop}
    (hq1 : 1 ≤ k → k < y.text.length → ∀ h' m' t' ix' b, Sx zT h' s m' t' (· ∈ t'.items) ix' → t'.items = L1 ++ (a, y.fst k) :: (b, y.snd k) :: L2 → Stp h (SOwn h s m t) h' (SOwn h' s m' t') → Q (.ptr a 0) h')
    (hq2 : (k < 1 ∨ y.text.length ≤ k) → Q (.ptr a 0) h) : Ev (cfgR ro) 166 [.ptr s 0, .ptr a 0, .int .i64 k] h Q := by
  refine Ev.wp rfl rfl Tryz.func166 rfl ?_
  have hp : (a, y) ∈ t.items := by rw [hT]; simp
  obtain ⟨u, l, r, ht, sz, all, hn⟩ := At.item S.rp.tree hp
  have hy := R.ok _ hp
  simp only [] at hy
  have hfit := fit_of R hat
  have hata := at_items hT
  rw [atomsN_mid] at hata
  simp only [] at hata
  simp -implicitDefEqProofs [Tryz.f166]
  refine item_ev hn ?_
  simp -implicitDefEqProofs [same_self]
  refine rCut_ev hy hk (fun h1 h2 => ?_) (fun h1 => ?_)
  · simp -implicitDefEqProofs [RunV.cells, same_self]
    refine rope_set (z := ([], m :: zT)) (x := y.fst k) S.rp hT ⟨by omega, by simp [RunV.fst]; omega⟩ (fun H1 t1 R1 e1 k1 n1 => ?_)
    obtain ⟨ix1, S1, P1⟩ := S.set (t' := t1) (z := y.fst k) hT e1 rfl rfl R1 k1 n1
    simp -implicitDefEqProofs [RunV.cells, same_self]
    refine rope_put (z := ([], m :: zT)) (x := y.snd k) (L1 := L1 ++ [(a, y.fst k)]) (L2 := L2) S1.rp (by rw [e1]; simp) ⟨?_, ?_⟩ (.inr ⟨L1, a, _, rfl, rfl⟩) (fun b H2 t2 R2 e2 b2 k2 n2 => ?_)
    · have := congrArg List.length e1; have e0 := congrArg List.length hT; simp at this e0; omega
    · have := at_items e1; rw [atomsN_mid] at this; simp [RunV.fst, RunV.snd] at this ⊢; omega
    have e2' : t2.items = L1 ++ (a, y.fst k) :: (b, y.snd k) :: L2 := by rw [e2]; simp
    have hR2 : Rok t2.items := by rw [e2']; rw [hT] at R; exact R.cut h1 h2
    obtain ⟨S2, P2⟩ := S1.tree R2 (fun p hp => by
      rw [e1] at hp; rw [e2']
      simp only [List.mem_append, List.mem_cons] at hp ⊢
      rcases hp with h | h | h
      · exact .inl h
      · exact .inr (.inl h)
      · exact .inr (.inr (.inr h))) k2 n2 (fun o ho => by
      unfold Rt.ids at ho ⊢
      rw [e2'] at ho; rw [e1]
      simp only [List.map_append, List.map_cons, List.mem_append, List.mem_cons] at ho ⊢
      rcases ho with h | h | h | h
      · exact .inl (.inl h)
      · exact .inl (.inr (.inl h))
      · exact .inr (by omega)
      · exact .inl (.inr (.inr h)))
    simp -implicitDefEqProofs [RunV.cells, same_self]
    have hb2 : (b, y.snd k) ∈ t2.items := by rw [e2']; simp
    have hnb : ¬ (b, y.snd k) ∈ t1.items := fun hm => by
      have := S1.rp.lt b (by unfold Rt.ids; exact List.mem_map.2 ⟨_, hm, rfl⟩)
      omega
    refine know_ev S2 hR2 hb2 hnb (fun H3 m3 ix3 S3 P3 => ?_)
    simp -implicitDefEqProofs
    refine hq1 h1 h2 H3 m3 t2 ix3 b (S3.congr (fun p => ?_)) e2' ((P1.trans P2).trans P3)
    rw [e1, e2']
    simp only [List.mem_append, List.mem_cons]
    constructor
    · rintro ((h | h | h) | h)
      · exact .inl h
      · exact .inr (.inl h)
      · exact .inr (.inr (.inr h))
      · exact .inr (.inr (.inl h))
    · rintro (h | h | h | h)
      · exact .inl (.inl h)
      · exact .inl (.inr (.inl h))
      · exact .inr h
      · exact .inl (.inr (.inr h))
  · simp -implicitDefEqProofs [zeroRun, same_self]
    exact hq2 h1
theorem join_nil {h : AHeap} {s : Nat} {Q : AVal → AHeap → Prop} (hq : Q (.tuple []) h) : Ev (cfgR ro) 168 [.ptr s 0, .nilp] h Q := by
  refine Ev.wp rfl rfl Tryz.func168 rfl ?_
  simp -implicitDefEqProofs [Tryz.f168]
  exact hq
theorem join_ev {h : AHeap} {s a : Nat} {m : AVal} {t : Rt RunV} {ix : Nat → List (Nat × RunV)} {x : RunV} {L1 L2 : List (Nat × RunV)} (S : Sx zT h s m t (· ∈ t.items) ix) (R : Rok t.items) (hT : t.items = L1 ++ (a, x) :: L2) (hat : t.at_ ≤ 2 ^ 20) {Q : AVal → AHeap → Prop}
    (hq : ∀ h' t' ix', Sx zT h' s m t' (· ∈ t'.items) ix' → t'.items = L1 ++ jn a x L2 → Stp h (SOwn h s m t) h' (SOwn h' s m t') → Q (.tuple []) h') : Ev (cfgR ro) 168 [.ptr s 0, .ptr a 0] h Q := by
  refine Ev.wp rfl rfl Tryz.func168 rfl ?_
  have hp : (a, x) ∈ t.items := by rw [hT]; simp
  obtain ⟨u, l, r, ht, sz, all, hn⟩ := At.item S.rp.tree hp
  have hx := R.ok _ hp
  simp only [] at hx
  have hfit := fit_of R hat
  have hata := at_items hT
  rw [atomsN_mid] at hata
  simp only [] at hata
  simp -implicitDefEqProofs [Tryz.f168]
  refine rope_next S.rp.tree S.rp.nd hT ?_
  cases L2 with
  | nil =>
    simp -implicitDefEqProofs [headP]
    exact hq h t ix S hT (Stp.refl _ _)
  | cons p L3 =>
    obtain ⟨b, y⟩ := p
    have hpy : (b, y) ∈ t.items := by rw [hT]; simp
    obtain ⟨u2, l2, r2, ht2, sz2, all2, hn2⟩ := At.item S.rp.tree hpy
    have hy := R.ok _ hpy
    simp only [] at hy
    simp -implicitDefEqProofs [headP]
    refine item_ev hn ?_
    simp -implicitDefEqProofs [same_self]
    refine item_ev hn2 ?_
    simp -implicitDefEqProofs [same_self]
    refine rJoin_ev hx hy (fun hj => ?_) (fun hj => ?_)
    · simp -implicitDefEqProofs [RunV.cells, same_self]
      have hT2 : t.items = (L1 ++ [(a, x)]) ++ (b, y) :: L3 := by rw [hT]; simp
      refine forget_ev S R hT2 hfit.2.2 (fun H1 t1 ix1 S1 e1 P1 => ?_)
      have e1' : t1.items = L1 ++ (a, x) :: L3 := by rw [e1]; simp
      simp -implicitDefEqProofs [RunV.cells, same_self]
      refine rope_set (z := ([], m :: zT)) (x := x.join y) S1.rp e1' ⟨?_, ?_⟩ (fun H2 t2 R2 e2 k2 n2 => ?_)
      · have := congrArg List.length e1'; have e0 := congrArg List.length hT; simp at this e0; omega
      · have := at_items e1'; rw [atomsN_mid] at this; simp [RunV.join, atomsN] at this hata ⊢; omega
      obtain ⟨ix2, S2, P2⟩ := S1.set (t' := t2) (z := x.join y) e1' e2 rfl rfl R2 k2 n2
      simp -implicitDefEqProofs
      exact hq H2 t2 ix2 S2 (by rw [e2, jn_yes hj]) (P1.trans P2)
    · simp -implicitDefEqProofs [zeroRun, same_self]
      exact hq h t ix S (by rw [hT, jn_no hj]) (Stp.refl _ _)
end
end Go.Proofs.YtlhlbamcgopiiaaGreatDoor
set_option linter.all false
set_option maxRecDepth 100000
set_option maxHeartbeats 4000000
namespace Go.Proofs.YtlhlbamcgopiiaaGreatDoor
open Go Go.RowKit Go.Proofs
variable {zT : List AVal}
section
variable {ro : Nat → Option (List AVal)} {h : AHeap} {s : Nat} {m : AVal} {t : Rt RunV} {ix : Nat → List (Nat × RunV)}
theorem has_ev {ar an : Nat} (S : Sx zT h s m t (· ∈ t.items) ix) (R : Rok t.items) (ha : an < 2 ^ 32) {Q : AVal → AHeap → Prop}
    (hq : ∀ b, (b = true ↔ ∃ p ∈ t.items, p.2.has ar an) → Q (.bool b) h) : Ev (cfgR ro) 149 [.ptr s 0, idA ar an] h Q := by
  refine Ev.wp rfl rfl Tryz.func149 rfl ?_
  simp -implicitDefEqProofs [Tryz.f149, idA, same_self]
  refine find_ev (ar := ar) (an := an) S R ha (fun i p hi hh => ?_) (fun i hno h1 h2 h3 => ?_)
  · simp -implicitDefEqProofs [same_self]
    exact hq true ⟨fun _ => ⟨p, ((S.ix.mem ar p).1 (List.mem_of_getElem? hi)).1, hh⟩, fun _ => rfl⟩
  · simp -implicitDefEqProofs [same_self]
    exact hq false ⟨fun e => (nomatch e), fun ⟨p, h5, h4⟩ => (hno p h5 h4).elim⟩
theorem at_ev {ar an : Nat} (S : Sx zT h s m t (· ∈ t.items) ix) (R : Rok t.items) (ha : an < 2 ^ 32) {Q : AVal → AHeap → Prop}
    (hq1 : ∀ L1 a y L2, t.items = L1 ++ (a, y) :: L2 → y.has ar an → Q (.tuple [.ptr a 0, .int .i64 ((an - y.n : Nat) : Int)]) h)
    (hq2 : (∀ p ∈ t.items, ¬ p.2.has ar an) → Q (.tuple [.nilp, .int .i64 0]) h) : Ev (cfgR ro) 155 [.ptr s 0, idA ar an] h Q := by
  refine Ev.wp rfl rfl Tryz.func155 rfl ?_
  obtain ⟨s0, hr⟩ := S.rp.root
  rw [rrow] at hr
  simp only [List.nil_append] at hr
  obtain ⟨v, hv, hlk, _⟩ := IX.look (ro := ro) S ar
  simp -implicitDefEqProofs [Tryz.f155, idA, same_self]
  refine find_ev (ar := ar) (an := an) S R ha (fun i p hi hh => ?_) (fun i hno h1 h2 h3 => ?_)
  · have hil := (List.getElem?_eq_some_iff.1 hi).1
    obtain ⟨a, e1, e2⟩ := PL.idx (ro := ro) hv (i := i) (by simpa using hil)
    have hpi : (ix ar)[i] = p := (List.getElem?_eq_some_iff.1 hi).2
    have hM := ((S.ix.mem ar p).1 (List.mem_of_getElem? hi)).1
    obtain ⟨u, l, r, ht, sz, all, hn⟩ := At.item (p := p.1) (x := p.2) S.rp.tree hM
    have e2 : loadR (cfgR ro) h 25 a = .ok (.ptr p.1 0) := by rw [e2]; simp [hpi]
    simp -implicitDefEqProofs [same_self, hr, hlk, e1, e2]
    refine item_ev hn ?_
    simp -implicitDefEqProofs [same_self, hr, hlk, e1, e2]
    refine rHas_ev (ar := ar) (an := an) (R.ok _ hM) ha (fun h1 => ?_) (fun h1 => (h1 hh).elim)
    simp -implicitDefEqProofs [same_self, hr, hlk, e1, e2]
    obtain ⟨L1, L2, hL⟩ := List.append_of_mem hM
    exact hq1 L1 p.1 p.2 L2 hL hh
  · simp -implicitDefEqProofs [same_self]
    exact hq2 hno
theorem slen_ev (S : Sx zT h s m t (· ∈ t.items) ix) {Q : AVal → AHeap → Prop} (hq : Q (.int .i64 (t.at_ : Nat)) h) : Ev (cfgR ro) 71 [.ptr s 0] h Q := by
  refine Ev.wp rfl rfl Tryz.func71 rfl ?_
  simp -implicitDefEqProofs [Tryz.f71]
  refine rope_all (z := ([], m :: zT)) S.rp (fun mm hm => ?_)
  have := hm.at_
  simp -implicitDefEqProofs [MassV.cells]
  rw [this]; exact hq
theorem sshown_ev (S : Sx zT h s m t (· ∈ t.items) ix) {Q : AVal → AHeap → Prop} (hq : Q (.int .i64 ((shownTx t.rs).length : Nat)) h) : Ev (cfgR ro) 87 [.ptr s 0] h Q := by
  refine Ev.wp rfl rfl Tryz.func87 rfl ?_
  simp -implicitDefEqProofs [Tryz.f87]
  refine rope_all (z := ([], m :: zT)) S.rp (fun mm hm => ?_)
  have := hm.sh
  simp -implicitDefEqProofs [MassV.cells]
  rw [this]; exact hq
theorem sruns_ev (S : Sx zT h s m t (· ∈ t.items) ix) {Q : AVal → AHeap → Prop} (hq : Q (.int .i64 (t.items.length : Nat)) h) : Ev (cfgR ro) 72 [.ptr s 0] h Q := by
  refine Ev.wp rfl rfl Tryz.func72 rfl ?_
  simp -implicitDefEqProofs [Tryz.f72]
  refine rope_len (z := ([], m :: zT)) S.rp ?_
  simp -implicitDefEqProofs
  exact hq
theorem swalk_ev (S : Sx zT h s m t (· ∈ t.items) ix) {Q : AVal → AHeap → Prop} (hq : ∀ a b c d, WkR a b c d (Wk.text (shownTx t.rs)) → Q (.agg [.cplx .f64 a b, .cplx .f64 c d]) h) : Ev (cfgR ro) 86 [.ptr s 0] h Q := by
  refine Ev.wp rfl rfl Tryz.func86 rfl ?_
  simp -implicitDefEqProofs [Tryz.f86]
  refine rope_all (z := ([], m :: zT)) S.rp (fun mm hm => ?_)
  by_cases c : mm.sh = 0
  · have e0 : shownTx t.rs = [] := List.length_eq_zero_iff.1 (by rw [← hm.sh]; exact c)
    simp -implicitDefEqProofs [MassV.cells, c, same_self]
    refine stay_ev ?_
    simp -implicitDefEqProofs
    exact hq _ _ _ _ (by rw [e0]; exact ⟨wh_c1, wh_c0, wh_c0, wh_c0⟩)
  · have c' : decide ((mm.sh : Int) = 0) = false := decide_eq_false (by omega)
    simp -implicitDefEqProofs [MassV.cells, c, c', same_self]
    exact hq _ _ _ _ (hm.w (by omega))
theorem free_ev {x : RunV} (S : Sx zT h s m t (· ∈ t.items) ix) (R : Rok t.items) (hx : RunOk x) {Q : AVal → AHeap → Prop}
    (hq : ∀ b, (b = true ↔ ∀ p ∈ t.items, p.2.apart x) → Q (.bool b) h) : Ev (cfgR ro) 187 [.ptr s 0, .agg x.cells] h Q := by
  refine Ev.wp rfl rfl Tryz.func187 rfl ?_
  obtain ⟨s0, hr⟩ := S.rp.root
  rw [rrow] at hr
  simp only [List.nil_append] at hr
  obtain ⟨v, hv, hlk, _⟩ := IX.look (ro := ro) S x.r
  have hlen := IX.len S (fun p hp => R.ok p hp) x.r
  obtain ⟨lst, hlst⟩ : ∃ lst, lst = x.n + (x.text.length - 1) := ⟨_, rfl⟩
  have x1 := hx.pos
  have x2 := hx.n2
  have no : ∀ p ∈ t.items, p.2.has x.r x.n ∨ p.2.has x.r lst → Q (.bool false) h := fun p hp hh => hq false ⟨fun e => (nomatch e), fun hall => by
    have h1 := hall p hp
    have p1 := (R.ok p hp).pos
    rcases hh with hh | hh
    · obtain ⟨e, a, b⟩ := hh
      have := h1 e.symm; omega
    · obtain ⟨e, a, b⟩ := hh
      have := h1 e.symm; omega⟩
  simp -implicitDefEqProofs [Tryz.f187, RunV.cells, same_self]
  refine keyID_ev (c := x.clock) (r := x.r) (n := x.n) ?_
  simp -implicitDefEqProofs [same_self, idA]
  refine has_ev (ar := x.r) (an := x.n) S R (by omega) (fun b1 hb1 => ?_)
  cases b1 with
  | true =>
    obtain ⟨p, hp, hh⟩ := hb1.1 rfl
    simp -implicitDefEqProofs [same_self]
    exact no p hp (.inl hh)
  | false =>
    have hno1 : ∀ p ∈ t.items, ¬ p.2.has x.r x.n := fun p hp hh => by have := hb1.2 ⟨p, hp, hh⟩; cases this
    simp -implicitDefEqProofs [same_self]
    refine rLast_ev (x := x) x1 (by omega) ?_
    rw [← hlst]
    simp -implicitDefEqProofs [same_self, idA]
    refine has_ev (ar := x.r) (an := lst) S R (by omega) (fun b2 hb2 => ?_)
    cases b2 with
    | true =>
      obtain ⟨p, hp, hh⟩ := hb2.1 rfl
      simp -implicitDefEqProofs [same_self]
      exact no p hp (.inr hh)
    | false =>
      have hno2 : ∀ p ∈ t.items, ¬ p.2.has x.r lst := fun p hp hh => by have := hb2.2 ⟨p, hp, hh⟩; cases this
      simp -implicitDefEqProofs [same_self]
      refine rLast_ev (x := x) x1 (by omega) ?_
      rw [← hlst]
      simp -implicitDefEqProofs [same_self, idA]
      refine find_ev (ar := x.r) (an := lst) S R (by omega) (fun i p hi hh => (hno2 p ((S.ix.mem x.r p).1 (List.mem_of_getElem? hi)).1 hh).elim) (fun i hno h1 h2 h3 => ?_)
      have hLen : lenR (cfgR ro) h 270 v = .ok (.int .i64 ((ix x.r).length : Nat)) := by
        rcases hv with ⟨e1, rfl⟩ | ⟨o, fz, vs, rfl, _⟩
        · have : (ix x.r).length = 0 := by simpa using congrArg List.length e1
          simp [lenR, lenA, this]
        · simp [lenR, lenA]
      by_cases c0 : (ix x.r).length ≤ i
      · simp -implicitDefEqProofs [same_self, hr, hlk, hLen, c0]
        refine hq true ⟨fun _ p hp e => ?_, fun _ => rfl⟩
        have hm := (S.ix.mem x.r p).2 ⟨hp, e⟩
        have := List.length_pos_of_mem hm
        omega
      · obtain ⟨a, e1, e2⟩ := PL.idx (ro := ro) hv (i := i) (by simp; omega)
        obtain ⟨p, hpi⟩ : ∃ p, (ix x.r)[i]'(by omega) = p := ⟨_, rfl⟩
        have hi : (ix x.r)[i]? = some p := by rw [← hpi]; exact List.getElem?_eq_getElem _
        have hM := (S.ix.mem x.r p).1 (List.mem_of_getElem? hi)
        obtain ⟨u, l, r, ht, sz, all, hn⟩ := At.item (p := p.1) (x := p.2) S.rp.tree hM.1
        have e2 : loadR (cfgR ro) h 25 a = .ok (.ptr p.1 0) := by rw [e2]; simp [hpi]
        have pp := (R.ok p hM.1).pos
        have lo : ∀ (j : Nat) (q : Nat × RunV), (ix x.r)[j]? = some q → j < i → q.2.n + q.2.text.length ≤ p.2.n := by
          intro j q hj hlt
          obtain ⟨l1, e5⟩ := List.getElem?_eq_some_iff.1 hj
          have := List.pairwise_iff_getElem.1 (S.ix.ord x.r) j i (by simpa using l1) (by simp; omega) hlt
          simp [e5, hpi] at this
          have hMq := (S.ix.mem x.r q).1 (List.mem_of_getElem? hj)
          have hap := R.uniq hMq.1 hM.1 (fun e => by rw [e] at this; omega) (hMq.2.trans hM.2.symm)
          omega
        have all_ : (∀ q, q ∈ t.items → q.2.r = x.r → (∀ j, (ix x.r)[j]? = some q → q.2.n + q.2.text.length ≤ x.n ∨ x.n + x.text.length ≤ q.2.n)) → Q (.bool true) h := fun hh => hq true ⟨fun _ q hq2 e => by
          obtain ⟨j, hj⟩ := List.mem_iff_getElem?.1 ((S.ix.mem x.r q).2 ⟨hq2, e⟩)
          exact hh q hq2 e j hj, fun _ => rfl⟩
        simp -implicitDefEqProofs [same_self, hr, hlk, hLen, c0, e1, e2]
        refine item_ev hn ?_
        by_cases c1 : p.2.n < x.n
        · simp -implicitDefEqProofs [same_self, hr, hlk, hLen, c0, e1, e2, RunV.cells, c1]
          refine all_ (fun q hq2 e j hj => ?_)
          rcases Nat.lt_trichotomy j i with c | c | c
          · have := lo j q hj c; omega
          · subst c; rw [hi] at hj; cases hj
            have := hno1 p hM.1
            unfold RunV.has at this
            omega
          · have := h2 j q c hj; omega
        · simp -implicitDefEqProofs [same_self, hr, hlk, hLen, c0, e1, e2, RunV.cells, c1]
          refine item_ev hn ?_
          simp -implicitDefEqProofs [same_self, hr, hlk, hLen, c0, e1, e2, RunV.cells, c1]
          refine rLast_ev (x := x) x1 (by omega) ?_
          rw [← hlst]
          have pick : ∀ b, b = decide (lst < p.2.n) → Q (.bool b) h := by
            rintro b rfl
            by_cases c2 : lst < p.2.n
            · rw [decide_eq_true c2]
              refine all_ (fun q hq2 e j hj => ?_)
              have hi0 : i = 0 := by
                rcases h1 p hi with e | e
                · exact e
                · omega
              rcases Nat.lt_trichotomy j i with c | c | c
              · omega
              · subst c; rw [hi] at hj; cases hj; omega
              · have := h2 j q c hj; omega
            · rw [decide_eq_false c2]
              refine hq false ⟨fun e => (nomatch e), fun hall => ?_⟩
              have := hall p hM.1 hM.2
              omega
          simp -implicitDefEqProofs [same_self, hr, hlk, hLen, c0, e1, e2, RunV.cells, idA]
          exact pick _ rfl
end
end Go.Proofs.YtlhlbamcgopiiaaGreatDoor
set_option linter.all false
set_option maxRecDepth 100000
set_option maxHeartbeats 4000000
namespace Go.Proofs.YtlhlbamcgopiiaaGreatDoor
open Go Go.RowKit Go.Proofs
variable {zT : List AVal}
/-! a store, as a row of atoms -/
instance (x : RunV) : Decidable (RunOk x) := decidable_of_iff (0 < x.text.length ∧ x.text.length ≤ 1024 ∧ 1 ≤ x.n ∧ x.n + x.text.length ≤ 2 ^ 28 + 1 ∧ 1 ≤ x.en ∧ x.en + x.text.length ≤ 2 ^ 28 + 1)
  ⟨fun ⟨a, b, c, d, e, f⟩ => ⟨a, b, c, d, e, f⟩, fun ⟨a, b, c, d, e, f⟩ => ⟨a, b, c, d, e, f⟩⟩
/-- behind how many atoms -/
def posA (A : List AtV) (ar an : Nat) : Option Nat := if ar = 0 ∧ an = 0 then some 0 else (atIx A ar an).map (· + 1)
/-- is one of a run's atoms there? -/
def hitA (A : List AtV) (x : RunV) : Bool := (atomsOf x).any fun a => (atIx A a.r a.n).isSome
def putA (A : List AtV) (ar an : Nat) (x : RunV) : List AtV × Nat :=
  if ¬ (RunOk x ∧ plain x.text = true) then (A, 11) else
  match posA A ar an with
  | none => (A, 40)
  | some k => if hitA A x = true then (A, 16) else if 65536 < A.length + x.text.length then (A, 21) else (A.take k ++ atomsOf x ++ A.drop k, 0)
/-- a store that has the atoms A -/
def StA (zT : List AVal) (h : AHeap) (s : Nat) (O : Nat → Prop) (A : List AtV) : Prop := ∃ m t ix, Sx zT h s m t (· ∈ t.items) ix ∧ Rok t.items ∧ (∀ p ∈ t.items, plain p.2.text = true) ∧ t.at_ ≤ 65536 ∧ flat t.rs = A ∧ (A.length ≤ 1024 → NJ t.rs) ∧ O = SOwn h s m t
theorem StA.old {h h' : AHeap} {s : Nat} {O : Nat → Prop} {A : List AtV} (S : StA zT h s O A) (o : Old h h') : ∃ O', StA zT h' s O' A ∧ Stp h O h' O' := by
  obtain ⟨m, t, ix, a1, a2, a3, a4, a5, a6, rfl⟩ := S
  obtain ⟨b1, b2⟩ := a1.old o
  exact ⟨_, ⟨m, t, ix, b1, a2, a3, a4, a5, a6, rfl⟩, b2⟩
theorem StA.lt {h : AHeap} {s : Nat} {O : Nat → Prop} {A : List AtV} (S : StA zT h s O A) : ∀ o, O o → o < h.next := by
  obtain ⟨m, t, ix, a1, a2, a3, a4, a5, a6, rfl⟩ := S
  exact a1.lt
theorem hit_iff {L : List (Nat × RunV)} {x : RunV} (R : Rok L) (hx : RunOk x) : hitA (flat (L.map (·.2))) x = false ↔ ∀ p ∈ L, p.2.apart x := by
  unfold hitA
  rw [List.any_eq_false]
  constructor
  · intro h p hp e
    have p1 := (R.ok p hp).pos
    have p2 := hx.pos
    by_cases c : p.2.n + p.2.text.length ≤ x.n ∨ x.n + x.text.length ≤ p.2.n
    · exact c
    · exfalso
      obtain ⟨n, hn⟩ : ∃ n, n = max p.2.n x.n := ⟨_, rfl⟩
      have hh : x.has x.r n := ⟨rfl, by omega, by omega⟩
      obtain ⟨a, h1, h2, h3⟩ := has_atom hh
      have := h a (List.mem_of_getElem? h1)
      rw [h2, h3] at this
      have hnone : atIx (flat (L.map (·.2))) x.r n = none := by simpa using this
      exact (atIx_none.1 hnone) p.2 (List.mem_map.2 ⟨p, hp, rfl⟩) ⟨e.symm, by omega, by omega⟩
  · intro h a ha
    have h1 := mem_atomsOf ha
    have : atIx (flat (L.map (·.2))) a.r a.n = none := atIx_none.2 (fun y hy hh => by
      obtain ⟨p, hp, rfl⟩ := List.mem_map.1 hy
      exact apart_has (h p hp) hh h1)
    rw [this]; simp
theorem pos_at {L1 L2 : List (Nat × RunV)} {a : Nat} {y : RunV} {ar an : Nat} (R : Rok (L1 ++ (a, y) :: L2)) (hh : y.has ar an) : atIx (flat ((L1 ++ (a, y) :: L2).map (·.2))) ar an = some (atomsN (L1.map (·.2)) + (an - y.n)) := by
  rw [List.map_append, List.map_cons]
  refine atIx_at hh (fun z hz hz2 => ?_)
  obtain ⟨p, hp, rfl⟩ := List.mem_map.1 hz
  have := R.apart
  rw [List.pairwise_append] at this
  exact apart_has (this.2.2 p hp (a, y) (by simp)) hz2 hh
theorem flat_pos {L1 L2 : List (Nat × RunV)} {a : Nat} {y : RunV} {k : Nat} (hk : k ≤ y.text.length) : (flat ((L1 ++ (a, y) :: L2).map (·.2))).take (atomsN (L1.map (·.2)) + k) = flat (L1.map (·.2)) ++ (atomsOf y).take k ∧
    (flat ((L1 ++ (a, y) :: L2).map (·.2))).drop (atomsN (L1.map (·.2)) + k) = (atomsOf y).drop k ++ flat (L2.map (·.2)) := by
  rw [List.map_append, List.map_cons, flat_append, flat_cons]
  have e1 := flatten_length (L1.map (·.2))
  have e2 := atomsOf_len y
  rw [← e1]
  constructor
  · rw [List.take_length_add_append, List.take_append_of_le_length (by simp only []; omega)]
  · rw [List.drop_length_add_append, List.drop_append_of_le_length (by simp only []; omega)]
/-! joined rows -/
theorem plain_append (a b : Str) : plain (a ++ b) = (plain a && plain b) := by simp [plain]
theorem jn_Rok {L1 L2 : List (Nat × RunV)} {a : Nat} {x : RunV} (R : Rok (L1 ++ (a, x) :: L2)) : Rok (L1 ++ jn a x L2) := by
  cases L2 with
  | nil => exact R
  | cons p L => 
    obtain ⟨b, y⟩ := p
    by_cases hj : x.joins y
    · rw [jn_yes hj]; exact R.join hj
    · rw [jn_no hj]; exact R
theorem jn_plain {L1 L2 : List (Nat × RunV)} {a : Nat} {x : RunV} (h : ∀ p ∈ L1 ++ (a, x) :: L2, plain p.2.text = true) : ∀ p ∈ L1 ++ jn a x L2, plain p.2.text = true := by
  cases L2 with
  | nil => exact h
  | cons q L => 
    obtain ⟨b, y⟩ := q
    by_cases hj : x.joins y
    · rw [jn_yes hj]
      intro p hp
      rcases List.mem_append.1 hp with hp | hp
      · exact h p (by simp [hp])
      · rcases List.mem_cons.1 hp with rfl | hp
        · have h1 := h (a, x) (by simp)
          have h2 := h (b, y) (by simp)
          show plain (x.text ++ y.text) = true
          rw [plain_append]; simp only [] at h1 h2; rw [h1, h2]; rfl
        · exact h p (by simp [hp])
    · rw [jn_no hj]; exact h
theorem jn_flat (L1 L2 : List (Nat × RunV)) (a : Nat) (x : RunV) : flat ((L1 ++ jn a x L2).map (·.2)) = flat ((L1 ++ (a, x) :: L2).map (·.2)) := by
  obtain ⟨x', L', e, _, h, _⟩ := jn_head a x L2
  rw [e, List.map_append, List.map_append, flat_append, flat_append]
  simp only [List.map_cons] at h ⊢
  rw [h]
/-- the parts of a run that is cut, or whole -/
def Parts (y : RunV) (k : Nat) (L2 : List (Nat × RunV)) (y' : RunV) (T0 : List (Nat × RunV)) : Prop :=
  (1 ≤ k ∧ k < y.text.length ∧ y' = y.fst k ∧ ∃ b, T0 = (b, y.snd k) :: L2) ∨ (k = y.text.length ∧ y' = y ∧ T0 = L2)
theorem Parts.ini {y y' : RunV} {k : Nat} {L2 T0 : List (Nat × RunV)} (h : Parts y k L2 y' T0) : y'.ini = y.ini := by
  rcases h with ⟨_, _, rfl, _⟩ | ⟨_, rfl, _⟩ <;> rfl
theorem Parts.tail {y y' : RunV} {k : Nat} {L2 T0 : List (Nat × RunV)} (h : Parts y k L2 y' T0) (hn : NJ (y :: L2.map (·.2))) : NJ (T0.map (·.2)) := by
  rcases h with ⟨_, h2, rfl, b, rfl⟩ | ⟨_, rfl, rfl⟩
  · exact NJ_fin (snd_fin y (Nat.le_of_lt h2)).symm hn
  · exact NJ_tail hn
theorem Parts.flat {y y' : RunV} {k : Nat} {L2 T0 : List (Nat × RunV)} (h : Parts y k L2 y' T0) : atomsOf y' = (atomsOf y).take k ∧ flat (T0.map (·.2)) = (atomsOf y).drop k ++ Go.Proofs.YtlhlbamcgopiiaaGreatDoor.flat (L2.map (·.2)) := by
  rcases h with ⟨_, h2, rfl, b, rfl⟩ | ⟨h1, rfl, rfl⟩
  · refine ⟨fst_atoms y k (Nat.le_of_lt h2), ?_⟩
    rw [List.map_cons, flat_cons, snd_atoms y k (Nat.le_of_lt h2)]
  · rw [h1, List.take_of_length_le (by rw [atomsOf_len]; exact Nat.le_refl _), List.drop_of_length_le (by rw [atomsOf_len]; exact Nat.le_refl _)]; simp
theorem Parts.plain {y y' : RunV} {k a : Nat} {L1 L2 T0 : List (Nat × RunV)} (h : Parts y k L2 y' T0) (hp : ∀ p ∈ L1 ++ (a, y) :: L2, plain p.2.text = true) : ∀ p ∈ L1 ++ (a, y') :: T0, Go.Proofs.YtlhlbamcgopiiaaGreatDoor.plain p.2.text = true := by
  have hy := hp (a, y) (by simp)
  simp only [] at hy
  have hy2 : Go.Proofs.YtlhlbamcgopiiaaGreatDoor.plain (y.text.take k) = true ∧ Go.Proofs.YtlhlbamcgopiiaaGreatDoor.plain (y.text.drop k) = true := by
    rw [← List.take_append_drop k y.text, plain_append] at hy
    simpa using hy
  rcases h with ⟨_, h2, rfl, b, rfl⟩ | ⟨h1, rfl, rfl⟩
  · intro p hpm
    simp only [List.mem_append, List.mem_cons] at hpm
    rcases hpm with h | rfl | rfl | h
    · exact hp p (by simp [h])
    · exact hy2.1
    · exact hy2.2
    · exact hp p (by simp [h])
  · exact hp
theorem put_final {L1 L2 T0 : List (Nat × RunV)} {y y' x : RunV} {a n k : Nat} {A : List AtV} (hA : flat ((L1 ++ (a, y) :: L2).map (·.2)) = A) (hk : k ≤ y.text.length) (P : Parts y k L2 y' T0) :
    flat ((L1 ++ jn a y' (jn n x T0)).map (·.2)) = A.take (atomsN (L1.map (·.2)) + k) ++ atomsOf x ++ A.drop (atomsN (L1.map (·.2)) + k) ∧
    ((A.length ≤ 1024 → NJ ((L1 ++ (a, y) :: L2).map (·.2))) → (A.take (atomsN (L1.map (·.2)) + k) ++ atomsOf x ++ A.drop (atomsN (L1.map (·.2)) + k)).length ≤ 1024 → NJ ((L1 ++ jn a y' (jn n x T0)).map (·.2))) := by
  have hf : flat ((L1 ++ jn a y' (jn n x T0)).map (·.2)) = A.take (atomsN (L1.map (·.2)) + k) ++ atomsOf x ++ A.drop (atomsN (L1.map (·.2)) + k) := by
    obtain ⟨f1, f2⟩ := flat_pos (L1 := L1) (L2 := L2) (a := a) hk
    rw [hA] at f1 f2
    obtain ⟨g1, g2⟩ := P.flat
    rw [f1, f2, jn_flat, List.map_append, List.map_cons, flat_append, flat_cons]
    have := jn_flat [] T0 n x
    simp only [List.nil_append] at this
    rw [this, List.map_cons, flat_cons, g1, g2]
    simp
  refine ⟨hf, fun hn hl => ?_⟩
  rw [← hf, flatten_length] at hl
  have hAl : A.length ≤ (A.take (atomsN (L1.map (·.2)) + k) ++ atomsOf x ++ A.drop (atomsN (L1.map (·.2)) + k)).length := by
    have := congrArg List.length (List.take_append_drop (atomsN (L1.map (·.2)) + k) A)
    rw [List.length_append] at this
    simp only [List.length_append]; omega
  have hl2 := hl
  rw [← hf, flatten_length] at hAl
  have hn := hn (by omega)
  rw [List.map_append, List.map_cons] at hn
  obtain ⟨n1, n2⟩ := NJ_split hn
  have eL : atomsN ((L1 ++ jn a y' (jn n x T0)).map (·.2)) = atomsN (L1.map (·.2)) + atomsN ((jn a y' (jn n x T0)).map (·.2)) := by rw [List.map_append, atomsN_append]
  have e1 : atomsN ((jn a y' (jn n x T0)).map (·.2)) = atomsN (y' :: (jn n x T0).map (·.2)) := by
    apply atomsN_flat; have := jn_flat [] (jn n x T0) a y'; simpa using this
  have e2 : atomsN ((jn n x T0).map (·.2)) = atomsN (x :: T0.map (·.2)) := by
    apply atomsN_flat; have := jn_flat [] T0 n x; simpa using this
  have e3 : atomsN (y' :: (jn n x T0).map (·.2)) = y'.text.length + atomsN ((jn n x T0).map (·.2)) := by simp [atomsN]
  have h1 := jn_NJ (a := n) (x := x) (L := T0) (by omega) (P.tail n2)
  have h2 := jn_NJ (a := a) (x := y') (L := jn n x T0) (by omega) h1
  obtain ⟨y'', Z, ez, ei, _⟩ := jn_head a y' (jn n x T0)
  rw [ez] at h2 ⊢
  rw [List.map_append, List.map_cons]
  rw [List.map_cons] at h2
  exact NJ_glue (NJ_ini (by rw [ei]; exact P.ini.symm) n1) h2
theorem Parts.apart {y y' x : RunV} {k a : Nat} {L1 L2 T0 : List (Nat × RunV)} (P : Parts y k L2 y' T0) (h : ∀ p ∈ L1 ++ (a, y) :: L2, p.2.apart x) : ∀ p ∈ L1 ++ (a, y') :: T0, p.2.apart x := by
  have hy := h (a, y) (by simp)
  simp only [] at hy
  rcases P with ⟨_, h2, rfl, b, rfl⟩ | ⟨h1, rfl, rfl⟩
  · intro p hpm
    simp only [List.mem_append, List.mem_cons] at hpm
    rcases hpm with h1 | rfl | rfl | h1
    · exact h p (by simp [h1])
    · exact apart_symm (apart_within (apart_symm hy) (fst_within y k))
    · exact apart_symm (apart_within (apart_symm hy) (snd_within y (Nat.le_of_lt h2)))
    · exact h p (by simp [h1])
  · exact h
theorem Parts.rok {y y' : RunV} {k a : Nat} {L1 L2 T0 : List (Nat × RunV)} (P : Parts y k L2 y' T0) (R : Rok (L1 ++ (a, y) :: L2)) : Rok (L1 ++ (a, y') :: T0) := by
  rcases P with ⟨h1, h2, rfl, b, rfl⟩ | ⟨h1, rfl, rfl⟩
  · exact R.cut h1 h2
  · exact R
theorem Parts.at_ {y y' : RunV} {k a : Nat} {L1 L2 T0 : List (Nat × RunV)} (P : Parts y k L2 y' T0) : atomsN ((L1 ++ (a, y') :: T0).map (·.2)) = atomsN ((L1 ++ (a, y) :: L2).map (·.2)) := by
  apply atomsN_flat
  obtain ⟨g1, g2⟩ := P.flat
  rw [List.map_append, List.map_append, flat_append, flat_append, List.map_cons, List.map_cons, flat_cons, flat_cons, g1, g2, ← List.append_assoc (List.take k _), List.take_append_drop]
section
variable {ro : Nat → Option (List AVal)}
/-- a run put behind a place, known, and joined with what is behind it -/
theorem put_step {h : AHeap} {s : Nat} {m : AVal} {t : Rt RunV} {ix : Nat → List (Nat × RunV)} {x : RunV} {after : AVal} {L1 T0 : List (Nat × RunV)} (S : Sx zT h s m t (· ∈ t.items) ix) (R : Rok t.items) (hx : RunOk x) (hap : ∀ p ∈ t.items, p.2.apart x) (hat : t.at_ ≤ 65536)
    (hT : t.items = L1 ++ T0) (haft : (L1 = [] ∧ after = .nilp) ∨ ∃ L0 a y, L1 = L0 ++ [(a, y)] ∧ after = .ptr a 0) {Q : AVal → AHeap → Prop}
    (hq : ∀ n h1, (∀ K : AVal → AHeap → Prop, (∀ h2 m2 t2 ix2, Sx zT h2 s m2 t2 (· ∈ t2.items) ix2 → t2.items = L1 ++ (n, x) :: T0 → Stp h (SOwn h s m t) h2 (SOwn h2 s m2 t2) → Rok t2.items → K (.tuple []) h2) → Ev (cfgR ro) 189 [.ptr s 0, .ptr n 0] h1 K) → Q (.ptr n 0) h1) : Ev (cfgR ro) 188 [.ptr s 0, after, .agg x.cells] h Q := by
  have hfit := fit_of R (Nat.le_trans hat (by decide))
  have hxl := hx.len
  refine rope_put (z := ([], m :: zT)) (x := x) S.rp hT ⟨by omega, by omega⟩ haft (fun n h1 t1 R1 e1 b1 k1 n1 => ?_)
  refine hq n h1 (fun K hK => ?_)
  have hR1 : Rok t1.items := by
    rw [e1, Rok.iff]; rw [hT] at R hap
    exact ⟨R, hx, hap⟩
  obtain ⟨S1, P1⟩ := S.tree R1 (fun p hp => by
    rw [hT] at hp; rw [e1]
    simp only [List.mem_append, List.mem_cons] at hp ⊢
    rcases hp with h | h
    · exact .inl h
    · exact .inr (.inr h)) k1 n1 (fun o ho => by
    unfold Rt.ids at ho ⊢
    rw [e1] at ho; rw [hT]
    simp only [List.map_append, List.map_cons, List.mem_append, List.mem_cons] at ho ⊢
    rcases ho with h | h | h
    · exact .inl (.inl h)
    · exact .inr (by omega)
    · exact .inl (.inr h))
  have hnb : ¬ (n, x) ∈ t.items := fun hm => by
    have := S.rp.lt n (by unfold Rt.ids; exact List.mem_map.2 ⟨_, hm, rfl⟩)
    omega
  refine know_ev S1 hR1 (a := n) (x := x) (by rw [e1]; simp) hnb (fun H2 m2 ix2 S2 P2 => ?_)
  refine hK H2 m2 t1 ix2 (S2.congr (fun p => ?_)) e1 (P1.trans P2) hR1
  rw [e1, hT]
  simp only [List.mem_append, List.mem_cons]
  constructor
  · rintro ((h | h) | h)
    · exact .inl h
    · exact .inr (.inr h)
    · exact .inr (.inl h)
  · rintro (h | h | h)
    · exact .inl (.inl h)
    · exact .inr h
    · exact .inl (.inr h)
theorem sput_ev (hro : ro 0 = some [.int .u16 0, .int .u32 0]) {h : AHeap} {s : Nat} {O : Nat → Prop} {A : List AtV} {ar an : Nat} {x : RunV} (S : StA zT h s O A) (ha : an < 2 ^ 32) (hl : x.text.length < 2 ^ 60) (hn : x.n < 2 ^ 32) (he : x.en < 2 ^ 32) {Q : AVal → AHeap → Prop}
    (hq : ∀ h' O', StA zT h' s O' (putA A ar an x).1 → Stp h O h' O' → Q (.int .i64 ((putA A ar an x).2 : Nat)) h') : Ev (cfgR ro) 161 [.ptr s 0, idA ar an, .agg x.cells] h Q := by
  refine Ev.wp rfl rfl Tryz.func161 rfl ?_
  simp -implicitDefEqProofs [Tryz.f161, idA, RunV.cells, same_self]
  refine rRight_ev (x := x) hl hn he (fun h0 b o0 hb => ?_)
  obtain ⟨O0, S0, P0⟩ := S.old o0
  have hq : ∀ h' O', StA zT h' s O' (putA A ar an x).1 → Stp h0 O0 h' O' → Q (.int .i64 ((putA A ar an x).2 : Nat)) h' := fun h' O' a b => hq h' O' a (P0.trans b)
  clear P0
  cases b with
  | false =>
    have e : putA A ar an x = (A, 11) := by unfold putA; rw [if_pos (fun hh => by have := hb.2 hh; cases this)]
    rw [e] at hq
    simp -implicitDefEqProofs [same_self]
    exact hq h0 O0 S0 (Stp.refl _ _)
  | true =>
    obtain ⟨hx, hpl⟩ := hb.1 rfl
    obtain ⟨m, t, ix, a1, a2, a3, a4, a5, a6, a7⟩ := S0
    have a5' : flat (t.items.map (·.2)) = A := a5
    have hlen : A.length = t.at_ := by rw [← a5, flatten_length]; rfl
    simp -implicitDefEqProofs [same_self]
    refine idRoot_ev hro ?_
    have e0 : putA A ar an x = (match posA A ar an with
      | none => (A, 40)
      | some k => if hitA A x = true then (A, 16) else if 65536 < A.length + x.text.length then (A, 21) else (A.take k ++ atomsOf x ++ A.drop k, 0)) := by unfold putA; rw [if_neg (fun h => h ⟨hx, hpl⟩)]
    rw [e0] at hq
    by_cases c : ar = 0 ∧ an = 0
    · have hpos : posA A ar an = some 0 := by unfold posA; rw [if_pos c]
      have hdc := decide_eq_true c
      rw [hdc]
      simp -implicitDefEqProofs [RunV.cells, same_self]
      refine free_ev a1 a2 hx (fun b hbf => ?_)
      have hit := hit_iff a2 hx
      rw [a5'] at hit
      cases b with
      | false =>
        have hh : hitA A x = true := by
          cases e : hitA A x with
          | true => rfl
          | false => have := hbf.2 (hit.1 e); cases this
        simp only [hpos, hh, if_true] at hq
        simp -implicitDefEqProofs [hdc, RunV.cells, same_self]
        exact hq h0 O0 ⟨m, t, ix, a1, a2, a3, a4, a5, a6, a7⟩ (Stp.refl _ _)
      | true =>
        have hap := hbf.1 rfl
        have hh : hitA A x = false := hit.2 hap
        simp only [hpos, hh] at hq
        have hxl := hx.len
        simp -implicitDefEqProofs [hdc, RunV.cells, same_self]
        refine slen_ev a1 ?_
        simp -implicitDefEqProofs [hdc, RunV.cells, same_self]
        refine rlen_ev (x := x) ?_
        have w1 : IntKind.i64.wrap ((t.at_ : Int) + (x.text.length : Int)) = ((A.length + x.text.length : Nat) : Int) := by rw [w64 (by omega) (by omega)]; omega
        obtain ⟨tot, htot⟩ : ∃ tot, tot = A.length + x.text.length := ⟨_, rfl⟩
        rw [← htot] at w1 hq
        by_cases cf : 65536 < tot
        · have d1 : decide ((65536 : Int) < (tot : Int)) = true := decide_eq_true (by omega)
          simp only [cf, if_true, Bool.false_eq_true, if_false] at hq
          simp -implicitDefEqProofs [hdc, RunV.cells, same_self, w1, d1, cf]
          exact hq h0 O0 ⟨m, t, ix, a1, a2, a3, a4, a5, a6, a7⟩ (Stp.refl _ _)
        · have d1 : decide ((65536 : Int) < (tot : Int)) = false := decide_eq_false (by omega)
          simp only [cf, Bool.false_eq_true, if_false] at hq
          simp -implicitDefEqProofs [hdc, RunV.cells, same_self, w1, d1, cf]
          refine idRoot_ev hro ?_
          simp -implicitDefEqProofs [hdc, RunV.cells, same_self, w1, d1, cf]
          refine put_step (x := x) (L1 := []) (T0 := t.items) a1 a2 hx hap a4 rfl (.inl ⟨rfl, rfl⟩) (fun n h1 hk => ?_)
          simp -implicitDefEqProofs [hdc, RunV.cells, same_self, w1, d1, cf]
          refine hk _ (fun h2 m2 t2 ix2 S2 e2 P2 R2 => ?_)
          have at2 : t2.at_ = x.text.length + t.at_ := by rw [at_items e2]; simp [atomsN, Rt.at_, Rt.rs]
          simp -implicitDefEqProofs [hdc, RunV.cells, same_self, w1, d1, cf]
          refine join_ev (L1 := []) S2 R2 e2 (by omega) (fun h3 t3 ix3 S3 e3 P3 => ?_)
          simp -implicitDefEqProofs [hdc, RunV.cells, same_self, w1, d1, cf]
          refine join_nil ?_
          simp -implicitDefEqProofs
          have R3 : Rok t3.items := by rw [e3]; exact jn_Rok (by rw [← e2]; exact R2)
          have fl := jn_flat [] t.items n x
          have fl3 : flat t3.rs = atomsOf x ++ A := by
            show flat (t3.items.map (·.2)) = _
            rw [e3, fl]; simp; exact a5'
          have pl3 : ∀ p ∈ t3.items, plain p.2.text = true := by
            rw [e3]
            refine jn_plain (fun p hp => ?_)
            rcases List.mem_cons.1 hp with rfl | hp
            · exact hpl
            · exact a3 p hp
          subst a7
          refine hq h3 _ ⟨m2, t3, ix3, S3, R3, pl3, ?_, ?_, fun hl => ?_, rfl⟩ (P2.trans P3)
          · have : t3.at_ = (flat t3.rs).length := by rw [flatten_length]; rfl
            rw [this, fl3, List.length_append, atomsOf_len]; omega
          · rw [fl3]; simp
          · show NJ (t3.items.map (·.2))
            rw [e3]
            simp only [List.take_zero, List.nil_append, List.drop_zero, List.length_append, atomsOf_len] at hl
            refine jn_NJ ?_ (a6 (by omega))
            have : atomsN (x :: t.items.map (·.2)) = x.text.length + t.at_ := by simp [atomsN, Rt.at_, Rt.rs]
            omega

    · have hdc := decide_eq_false c
      rw [hdc]
      simp -implicitDefEqProofs [RunV.cells, same_self]
      have fp : ∀ L1 a y L2, t.items = L1 ++ (a, y) :: L2 → y.has ar an → posA A ar an = some (atomsN (L1.map (·.2)) + (an - y.n) + 1) := by
        intro L1 a y L2 e hh
        have := pos_at (L1 := L1) (a := a) (y := y) (L2 := L2) (ar := ar) (an := an) (by rw [← e]; exact a2) hh
        rw [← e, a5'] at this
        unfold posA
        rw [if_neg c, this]; rfl
      refine has_ev a1 a2 ha (fun b hbh => ?_)
      cases b with
      | false =>
        have hnone : posA A ar an = none := by
          unfold posA; rw [if_neg c]
          have : atIx A ar an = none := by
            rw [← a5']
            refine atIx_none.2 (fun y hy hh => ?_)
            obtain ⟨p, hp, rfl⟩ := List.mem_map.1 hy
            have := hbh.2 ⟨p, hp, hh⟩; cases this
          rw [this]; rfl
        simp only [hnone] at hq
        simp -implicitDefEqProofs [RunV.cells, same_self]
        exact hq h0 O0 ⟨m, t, ix, a1, a2, a3, a4, a5, a6, a7⟩ (Stp.refl _ _)
      | true =>
        obtain ⟨kp, hpos⟩ : ∃ kp, posA A ar an = some kp := by
          obtain ⟨p, hp, hh⟩ := hbh.1 rfl
          obtain ⟨L1, L2, e⟩ := List.append_of_mem hp
          exact ⟨_, fp L1 p.1 p.2 L2 e hh⟩
        simp -implicitDefEqProofs [RunV.cells, same_self]
        refine free_ev a1 a2 hx (fun b hbf => ?_)
        have hit := hit_iff a2 hx
        rw [a5'] at hit
        cases b with
        | false =>
          have hh : hitA A x = true := by
            cases e : hitA A x with
            | true => rfl
            | false => have := hbf.2 (hit.1 e); cases this
          simp only [hpos, hh, if_true] at hq
          simp -implicitDefEqProofs [hdc, RunV.cells, same_self]
          exact hq h0 O0 ⟨m, t, ix, a1, a2, a3, a4, a5, a6, a7⟩ (Stp.refl _ _)
        | true =>
          have hap := hbf.1 rfl
          have hh : hitA A x = false := hit.2 hap
          simp only [hpos, hh] at hq
          have hxl := hx.len
          simp -implicitDefEqProofs [hdc, RunV.cells, same_self]
          refine slen_ev a1 ?_
          simp -implicitDefEqProofs [hdc, RunV.cells, same_self]
          refine rlen_ev (x := x) ?_
          have w1 : IntKind.i64.wrap ((t.at_ : Int) + (x.text.length : Int)) = ((A.length + x.text.length : Nat) : Int) := by rw [w64 (by omega) (by omega)]; omega
          obtain ⟨tot, htot⟩ : ∃ tot, tot = A.length + x.text.length := ⟨_, rfl⟩
          rw [← htot] at w1 hq
          by_cases cf : 65536 < tot
          · have d1 : decide ((65536 : Int) < (tot : Int)) = true := decide_eq_true (by omega)
            simp only [cf, if_true, Bool.false_eq_true, if_false] at hq
            simp -implicitDefEqProofs [hdc, RunV.cells, same_self, w1, d1, cf]
            exact hq h0 O0 ⟨m, t, ix, a1, a2, a3, a4, a5, a6, a7⟩ (Stp.refl _ _)
          · have d1 : decide ((65536 : Int) < (tot : Int)) = false := decide_eq_false (by omega)
            simp only [cf, Bool.false_eq_true, if_false] at hq
            simp -implicitDefEqProofs [hdc, RunV.cells, same_self, w1, d1, cf]
            refine idRoot_ev hro ?_
            simp -implicitDefEqProofs [hdc, RunV.cells, same_self, w1, d1, cf]
            refine at_ev a1 a2 ha (fun L1 a y L2 hT hh => ?_) (fun hno => ?_)
            · obtain ⟨k, hk⟩ : ∃ k, k = an - y.n + 1 := ⟨_, rfl⟩
              have hky : 1 ≤ k ∧ k ≤ y.text.length := by have := hh.2; omega
              have hyl := (a2.ok (a, y) (by rw [hT]; simp)).len
              simp only [] at hyl
              have w2 : IntKind.i64.wrap (((an - y.n : Nat) : Int) + 1) = (k : Int) := by rw [w64 (by omega) (by omega)]; omega
              have hkp : kp = atomsN (L1.map (·.2)) + k := by
                have := fp L1 a y L2 hT hh
                rw [hpos] at this; injection this with this; omega
              have a5y : flat ((L1 ++ (a, y) :: L2).map (·.2)) = A := by rw [← hT]; exact a5'
              simp -implicitDefEqProofs [hdc, RunV.cells, same_self, w1, d1, cf, w2]
              refine cut_ev (k := k) a1 a2 hT (by omega) (by omega) (fun c1 c2 h4 m4 t4 ix4 b S4 e4 P4 => ?_) (fun c3 => ?_)
              · have PP : Parts y k L2 (y.fst k) ((b, y.snd k) :: L2) := .inl ⟨c1, c2, rfl, b, rfl⟩
                have R4 : Rok t4.items := by rw [e4]; rw [hT] at a2; exact PP.rok a2
                have hap4 : ∀ p ∈ t4.items, p.2.apart x := by rw [e4]; rw [hT] at hap; exact PP.apart hap
                have at4 : t4.at_ = t.at_ := by rw [at_items e4, at_items hT]; exact PP.at_
                have e4' : t4.items = (L1 ++ [(a, (y.fst k))]) ++ ((b, y.snd k) :: L2) := by rw [e4]; simp
                simp -implicitDefEqProofs [hdc, RunV.cells, same_self, w1, d1, cf, w2]
                refine put_step (x := x) S4 R4 hx hap4 (by omega) e4' (.inr ⟨L1, a, (y.fst k), rfl, rfl⟩) (fun n h1 hk1 => ?_)
                simp -implicitDefEqProofs [hdc, RunV.cells, same_self, w1, d1, cf, w2]
                refine hk1 _ (fun h2 m2 t2 ix2 S2 e2 P2 R2 => ?_)
                have at2 : t2.at_ = x.text.length + t.at_ := by
                  rw [← at4, at_items e2, at_items e4']; simp [atomsN]; omega
                simp -implicitDefEqProofs [hdc, RunV.cells, same_self, w1, d1, cf, w2]
                refine join_ev S2 R2 e2 (by omega) (fun h3 t3 ix3 S3 e3 P3 => ?_)
                have R3 : Rok t3.items := by rw [e3]; exact jn_Rok (by rw [← e2]; exact R2)
                have e3' : t3.items = L1 ++ (a, (y.fst k)) :: jn n x ((b, y.snd k) :: L2) := by rw [e3]; simp
                have at3 : t3.at_ = t2.at_ := by
                  rw [at_items e3, at_items e2]; exact atomsN_flat (jn_flat _ _ _ _)
                simp -implicitDefEqProofs [hdc, RunV.cells, same_self, w1, d1, cf, w2]
                refine join_ev S3 R3 e3' (by omega) (fun h5 t5 ix5 S5 e5 P5 => ?_)
                have R5 : Rok t5.items := by rw [e5]; exact jn_Rok (by rw [← e3']; exact R3)
                have at5 : t5.at_ = t3.at_ := by
                  rw [at_items e5, at_items e3']; exact atomsN_flat (jn_flat _ _ _ _)
                obtain ⟨f1, f2⟩ := put_final (x := x) (n := n) a5y hky.2 PP
                have pl5 : ∀ p ∈ t5.items, plain p.2.text = true := by
                  rw [e5]
                  refine jn_plain ?_
                  have pl4 := PP.plain (a := a) (L1 := L1) (by rw [← hT]; exact a3)
                  have : ∀ p ∈ (L1 ++ [(a, (y.fst k))]) ++ (n, x) :: ((b, y.snd k) :: L2), plain p.2.text = true := by
                    intro p hp
                    simp only [List.append_assoc, List.mem_append, List.mem_cons, List.cons_append, List.nil_append] at hp pl4
                    rcases hp with h | h | h | h
                    · exact pl4 p (.inl h)
                    · exact pl4 p (.inr (.inl h))
                    · rw [h]; exact hpl
                    · exact pl4 p (.inr (.inr h))
                  have := jn_plain this
                  simpa using this
                simp -implicitDefEqProofs
                subst a7
                refine hq h5 _ ⟨m2, t5, ix5, S5, R5, pl5, by omega, ?_, fun hl => ?_, rfl⟩ (((P4.trans P2).trans P3).trans P5)
                · show flat (t5.items.map (·.2)) = _
                  rw [e5, hkp]; exact f1
                · show NJ (t5.items.map (·.2))
                  rw [e5]
                  rw [hkp] at hl
                  exact f2 (by rw [← hT]; exact a6) hl
              · have PP : Parts y k L2 y L2 := .inr ⟨by omega, rfl, rfl⟩
                have R4 : Rok t.items := by rw [hT]; rw [hT] at a2; exact PP.rok a2
                have hap4 : ∀ p ∈ t.items, p.2.apart x := by rw [hT]; rw [hT] at hap; exact PP.apart hap
                have at4 : t.at_ = t.at_ := rfl
                have e4' : t.items = (L1 ++ [(a, y)]) ++ L2 := by rw [hT]; simp
                simp -implicitDefEqProofs [hdc, RunV.cells, same_self, w1, d1, cf, w2]
                refine put_step (x := x) a1 R4 hx hap4 (by omega) e4' (.inr ⟨L1, a, y, rfl, rfl⟩) (fun n h1 hk1 => ?_)
                simp -implicitDefEqProofs [hdc, RunV.cells, same_self, w1, d1, cf, w2]
                refine hk1 _ (fun h2 m2 t2 ix2 S2 e2 P2 R2 => ?_)
                have at2 : t2.at_ = x.text.length + t.at_ := by
                  rw [← at4, at_items e2, at_items e4']; simp [atomsN]; omega
                simp -implicitDefEqProofs [hdc, RunV.cells, same_self, w1, d1, cf, w2]
                refine join_ev S2 R2 e2 (by omega) (fun h3 t3 ix3 S3 e3 P3 => ?_)
                have R3 : Rok t3.items := by rw [e3]; exact jn_Rok (by rw [← e2]; exact R2)
                have e3' : t3.items = L1 ++ (a, y) :: jn n x L2 := by rw [e3]; simp
                have at3 : t3.at_ = t2.at_ := by
                  rw [at_items e3, at_items e2]; exact atomsN_flat (jn_flat _ _ _ _)
                simp -implicitDefEqProofs [hdc, RunV.cells, same_self, w1, d1, cf, w2]
                refine join_ev S3 R3 e3' (by omega) (fun h5 t5 ix5 S5 e5 P5 => ?_)
                have R5 : Rok t5.items := by rw [e5]; exact jn_Rok (by rw [← e3']; exact R3)
                have at5 : t5.at_ = t3.at_ := by
                  rw [at_items e5, at_items e3']; exact atomsN_flat (jn_flat _ _ _ _)
                obtain ⟨f1, f2⟩ := put_final (x := x) (n := n) a5y hky.2 PP
                have pl5 : ∀ p ∈ t5.items, plain p.2.text = true := by
                  rw [e5]
                  refine jn_plain ?_
                  have pl4 := PP.plain (a := a) (L1 := L1) (by rw [← hT]; exact a3)
                  have : ∀ p ∈ (L1 ++ [(a, y)]) ++ (n, x) :: L2, plain p.2.text = true := by
                    intro p hp
                    simp only [List.append_assoc, List.mem_append, List.mem_cons, List.cons_append, List.nil_append] at hp pl4
                    rcases hp with h | h | h | h
                    · exact pl4 p (.inl h)
                    · exact pl4 p (.inr (.inl h))
                    · rw [h]; exact hpl
                    · exact pl4 p (.inr (.inr h))
                  have := jn_plain this
                  simpa using this
                simp -implicitDefEqProofs
                subst a7
                refine hq h5 _ ⟨m2, t5, ix5, S5, R5, pl5, by omega, ?_, fun hl => ?_, rfl⟩ ((P2.trans P3).trans P5)
                · show flat (t5.items.map (·.2)) = _
                  rw [e5, hkp]; exact f1
                · show NJ (t5.items.map (·.2))
                  rw [e5]
                  rw [hkp] at hl
                  exact f2 (by rw [← hT]; exact a6) hl
            · obtain ⟨p, hp, hh⟩ := hbh.1 rfl
              exact (hno p hp hh).elim
end
end Go.Proofs.YtlhlbamcgopiiaaGreatDoor
set_option linter.all false
set_option maxRecDepth 100000
set_option maxHeartbeats 4000000
namespace Go.Proofs.YtlhlbamcgopiiaaGreatDoor
open Go Go.RowKit Go.Proofs
variable {zT : List AVal}
/-- an atom shown, or not -/
def setSh : List AtV → Nat → Bool → List AtV
  | [], _, _ => []
  | a :: l, 0, v => { a with shown := v } :: l
  | a :: l, i + 1, v => a :: setSh l i v
theorem setSh_append (A B : List AtV) (i : Nat) (v : Bool) : setSh (A ++ B) (A.length + i) v = A ++ setSh B i v := by
  induction A with
  | nil => simp
  | cons a A ih => rw [List.length_cons, show A.length + 1 + i = A.length + i + 1 by omega]; show a :: setSh (A ++ B) (A.length + i) v = _; rw [ih]; rfl
theorem setSh_len (A : List AtV) (i : Nat) (v : Bool) : (setSh A i v).length = A.length := by
  induction A generalizing i with
  | nil => rfl
  | cons a A ih => cases i with
    | zero => rfl
    | succ i => show (setSh A i v).length + 1 = _; rw [ih]; rfl
theorem setSh_id : ∀ (A : List AtV) (i : Nat) (v : Bool), (∀ a, A[i]? = some a → a.shown = v) → setSh A i v = A
  | [], _, _, _ => rfl
  | a :: A, 0, v, h => by
    have := h a rfl
    show { a with shown := v } :: A = _
    rw [← this]
  | a :: A, i + 1, v, h => by
    show a :: setSh A i v = _
    rw [setSh_id A i v (fun b hb => h b hb)]
def showA (A : List AtV) (ar an : Nat) (v : Bool) : List AtV × Nat := match atIx A ar an with
  | none => (A, 40)
  | some i => (setSh A i v, 0)
def RunV.sh (x : RunV) (v : Bool) : RunV := { x with shown := v }
theorem sh_atoms {x : RunV} (h : x.text.length = 1) (v : Bool) (l : List AtV) : atomsOf (x.sh v) ++ l = setSh (atomsOf x ++ l) 0 v := by
  obtain ⟨c, r, n, er, en, tx, sh⟩ := x
  cases tx with
  | nil => simp at h
  | cons b s =>
    have : s = [] := by simpa using h
    subst this
    rfl
theorem sh_within (x : RunV) (v : Bool) : (x.sh v).within x := ⟨rfl, Nat.le_refl _, Nat.le_refl _⟩
theorem RunOk.sh {x : RunV} (h : RunOk x) (v : Bool) : RunOk (x.sh v) := ⟨h.pos, h.len, h.n1, h.n2, h.e1, h.e2⟩
theorem show_flat {Pre T0 : List (Nat × RunV)} {p : Nat} {mid : RunV} {A : List AtV} {v : Bool} (hA : flat ((Pre ++ (p, mid) :: T0).map (·.2)) = A) (hm : mid.text.length = 1) :
    flat ((Pre ++ jn p (mid.sh v) T0).map (·.2)) = setSh A (atomsN (Pre.map (·.2))) v := by
  rw [jn_flat, ← hA, List.map_append, List.map_append, flat_append, flat_append, List.map_cons, List.map_cons, flat_cons, flat_cons, sh_atoms hm, ← flatten_length]
  rw [← setSh_append]; rfl
section
variable {ro : Nat → Option (List AVal)}
theorem sshow_ev {h : AHeap} {s : Nat} {O : Nat → Prop} {A : List AtV} {ar an : Nat} {v : Bool} (S : StA zT h s O A) (ha : an < 2 ^ 32) {Q : AVal → AHeap → Prop}
    (hq : ∀ h' O', StA zT h' s O' (showA A ar an v).1 → Stp h O h' O' → Q (.int .i64 ((showA A ar an v).2 : Nat)) h') : Ev (cfgR ro) 122 [.ptr s 0, idA ar an, .bool v] h Q := by
  refine Ev.wp rfl rfl Tryz.func122 rfl ?_
  obtain ⟨m, t, ix, a1, a2, a3, a4, a5, a6, a7⟩ := S
  have a5' : flat (t.items.map (·.2)) = A := a5
  have hlen : A.length = t.at_ := by rw [← a5, flatten_length]; rfl
  simp -implicitDefEqProofs [Tryz.f122, idA, same_self]
  refine at_ev a1 a2 ha (fun L1 a y L2 hT hh => ?_) (fun hno => ?_)
  · obtain ⟨k, hk⟩ : ∃ k, k = an - y.n := ⟨_, rfl⟩
    have hky : k < y.text.length := by have := hh.2; omega
    have hyok := a2.ok (a, y) (by rw [hT]; simp)
    have hyl := hyok.len
    simp only [] at hyl
    have a5y : flat ((L1 ++ (a, y) :: L2).map (·.2)) = A := by rw [← hT]; exact a5'
    have hpos : atIx A ar an = some (atomsN (L1.map (·.2)) + k) := by
      have := pos_at (L1 := L1) (a := a) (y := y) (L2 := L2) (ar := ar) (an := an) (by rw [← hT]; exact a2) hh
      rw [a5y] at this; rw [this, hk]
    have e0 : showA A ar an v = (setSh A (atomsN (L1.map (·.2)) + k) v, 0) := by unfold showA; rw [hpos]
    rw [e0] at hq
    obtain ⟨u, l, r, ht, sz, all, hn⟩ := At.item (p := a) (x := y) a1.rp.tree (by rw [hT]; simp)
    rw [← hk]
    have eb : eqFlat Tryz.prog h .bool (.bool y.shown) (.bool v) = .ok (y.shown == v) := by rfl
    simp -implicitDefEqProofs [same_self]
    refine item_ev hn ?_
    by_cases c : y.shown = v
    · have eb2 : (y.shown == v) = true := by simpa using c
      rw [eb2] at eb
      simp -implicitDefEqProofs [same_self, RunV.cells, eb]
      refine hq h O ⟨m, t, ix, a1, a2, a3, a4, ?_, fun hl => a6 (by rw [setSh_len] at hl; exact hl), a7⟩ (Stp.refl _ _)
      rw [a5, setSh_id]
      intro x hx
      rw [← a5y, List.map_append, List.map_cons, flat_append, flat_cons, ← flatten_length, List.getElem?_append_right (by omega), Nat.add_sub_cancel_left, List.getElem?_append_left (by rw [atomsOf_len]; exact hky), atomsOf_get] at hx
      cases hy : y.text[k]? with
      | none => rw [hy] at hx; cases hx
      | some b => rw [hy] at hx; cases hx; exact c
    · have eb2 : (y.shown == v) = false := by simpa using c
      rw [eb2] at eb
      have w1 : IntKind.i64.wrap ((k : Int) + 1) = ((k + 1 : Nat) : Int) := by rw [w64 (by omega) (by omega)]; omega
      obtain ⟨k1, hk1⟩ : ∃ k1, k1 = k + 1 := ⟨_, rfl⟩
      rw [← hk1] at w1
      simp -implicitDefEqProofs [same_self, RunV.cells, eb, w1]
      subst a7
      refine cut_ev (k := k1) a1 a2 hT (by omega) (by omega) (fun c1 c2 h1 m1 t1 ix1 b1 S1 e1 P1 => ?_) (fun c3 => ?_)
      · have PP : Parts y k1 L2 (y.fst k1) ((b1, y.snd k1) :: L2) := .inl ⟨c1, c2, rfl, b1, rfl⟩
        have y1l : (y.fst k1).text.length = k + 1 := by simp [RunV.fst]; omega
        obtain ⟨y1, hy1⟩ : ∃ y1, y1 = y.fst k1 := ⟨_, rfl⟩
        obtain ⟨T0, hT0⟩ : ∃ T0, T0 = (b1, y.snd k1) :: L2 := ⟨_, rfl⟩
        rw [← hy1, ← hT0] at e1 PP
        rw [← hy1] at y1l
        have R1 : Rok t1.items := by rw [e1]; rw [hT] at a2; exact PP.rok a2
        have at1 : t1.at_ = t.at_ := by rw [at_items e1, at_items hT]; exact PP.at_
        have pl1 := PP.plain (a := a) (L1 := L1) (by rw [← hT]; exact a3)
        have f1 : flat ((L1 ++ (a, y1) :: T0).map (·.2)) = A := by
          obtain ⟨g1, g2⟩ := PP.flat
          rw [← a5y, List.map_append, List.map_append, flat_append, flat_append, List.map_cons, List.map_cons, flat_cons, flat_cons, g1, g2, ← List.append_assoc (List.take k1 _), List.take_append_drop]
        have ini1 := PP.ini
        have nj1 : A.length ≤ 1024 → NJ (L1.map (·.2) ++ [y1]) ∧ NJ (T0.map (·.2)) := fun hl => by
          have := a6 hl
          have : NJ (t.items.map (·.2)) := this
          rw [hT, List.map_append, List.map_cons] at this
          obtain ⟨n1, n2⟩ := NJ_split this
          exact ⟨NJ_ini (by rw [ini1]) n1, PP.tail n2⟩
        by_cases k0 : 0 < k
        · have d0 : decide ((0 : Int) < (k : Int)) = true := decide_eq_true (by omega)
          simp -implicitDefEqProofs [same_self, RunV.cells, w1, d0, k0]
          refine cut_ev (k := k) S1 R1 e1 (by omega) (by omega) (fun c4 c5 h2 m2 t2 ix2 b S2 e2 P2 => ?_) (fun c6 => absurd c6 (by omega))
          have R2 : Rok t2.items := by rw [e2]; rw [e1] at R1; exact R1.cut c4 c5
          obtain ⟨mid, hmid⟩ : ∃ mid, mid = y1.snd k := ⟨_, rfl⟩
          rw [← hmid] at e2
          have hml : mid.text.length = 1 := by rw [hmid]; simp [RunV.snd]; omega
          have e2' : t2.items = (L1 ++ [(a, y1.fst k)]) ++ (b, mid) :: T0 := by rw [e2]; simp
          have f2 : flat (((L1 ++ [(a, y1.fst k)]) ++ (b, mid) :: T0).map (·.2)) = A := by
            rw [← f1, hmid]; simp [flat_append]
            rw [← List.append_assoc (atomsOf (y1.fst k)), cut_atoms y1 k (by omega)]
          have hi : atomsN ((L1 ++ [(a, y1.fst k)]).map (·.2)) = atomsN (L1.map (·.2)) + k := by
            rw [List.map_append, atomsN_append]; simp [atomsN, RunV.fst]; omega
          have nj2 : A.length ≤ 1024 → NJ ((L1 ++ [(a, y1.fst k)]).map (·.2)) := fun hl => by
            rw [List.map_append]; exact NJ_ini (by rfl) (nj1 hl).1
          have pl2 : ∀ q ∈ (L1 ++ [(a, y1.fst k)]) ++ (b, mid.sh v) :: T0, plain q.2.text = true := by
            have h1 := pl1 (a, y1) (by simp)
            simp only [] at h1
            rw [← List.take_append_drop k y1.text, plain_append] at h1
            simp at h1
            intro q hq
            simp only [List.append_assoc, List.mem_append, List.mem_cons, List.cons_append, List.nil_append] at hq
            rcases hq with h | h | h | h
            · exact pl1 q (by simp [h])
            · rw [h]; exact h1.1
            · rw [h, hmid]; exact h1.2
            · exact pl1 q (by simp [h])
          simp -implicitDefEqProofs [same_self, RunV.cells, w1, d0, k0]
          refine rope_next S2.rp.tree S2.rp.nd e2 ?_
          simp -implicitDefEqProofs [same_self, RunV.cells, w1, d0, k0, headP]
          have at2 : t2.at_ ≤ 65536 := by
            have : t2.at_ = A.length := by rw [at_items e2', ← flatten_length]; rw [f2]
            omega
          obtain ⟨u2, l2, r2, ht2, sz2, all2, hn2⟩ := At.item (p := b) (x := mid) S2.rp.tree (by rw [e2']; simp)
          refine item_ev hn2 ?_
          simp -implicitDefEqProofs [same_self, RunV.cells]
          refine rope_set (z := ([], m2 :: zT)) (x := mid.sh v) S2.rp e2' ⟨by have := (fit_of R2 (by omega)).1; omega, by have := (fit_of R2 (by omega)).2.1; have : (mid.sh v).text.length = mid.text.length := rfl; omega⟩ (fun h3 t3 R3p e3 k3 n3 => ?_)
          obtain ⟨ix3, S3, P3⟩ := S2.set (t' := t3) (z := mid.sh v) e2' e3 rfl rfl R3p k3 n3
          have R3 : Rok t3.items := by rw [e3]; have hr := R2; rw [e2'] at hr; exact hr.set ((hr.ok (b, mid) (by simp)).sh v) (sh_within _ _)
          have at3 : t3.at_ = t2.at_ := by rw [at_items e3, at_items e2']; simp [atomsN, RunV.sh]
          simp -implicitDefEqProofs [same_self, RunV.cells]
          refine join_ev S3 R3 e3 (by omega) (fun h4 t4 ix4 S4 e4 P4 => ?_)
          have R4 : Rok t4.items := by rw [e4]; exact jn_Rok (by rw [← e3]; exact R3)
          have f4 : flat (t4.items.map (·.2)) = setSh A (atomsN (L1.map (·.2)) + k) v := by rw [e4, show_flat f2 hml]; exact congrArg (fun i => setSh A i v) hi
          have at4 : t4.at_ = A.length := by rw [at_items rfl, ← flatten_length, f4, setSh_len]
          have pl4 : ∀ q ∈ t4.items, plain q.2.text = true := by rw [e4]; exact jn_plain pl2
          obtain ⟨x', T1, z1, z2, z3, z4, z5, z6⟩ := jn_head b (mid.sh v) T0
          have nj4 : A.length ≤ 1024 → NJ ((jn b (mid.sh v) T0).map (·.2)) := fun hl => by
            refine jn_NJ ?_ (nj1 hl).2
            have h5 : atomsN ((mid.sh v) :: T0.map (·.2)) = mid.text.length + atomsN (T0.map (·.2)) := by simp [atomsN, RunV.sh]
            have h6 : A.length = atomsN (((L1 ++ [(a, y1.fst k)])).map (·.2)) + mid.text.length + atomsN (T0.map (·.2)) := by rw [← atomsN_mid (L1 ++ [(a, y1.fst k)]) T0 (b, mid), ← flatten_length, f2]
            omega
          have e4z := e4
          rw [z1] at e4z nj4
          simp -implicitDefEqProofs [same_self, RunV.cells]
          refine rope_prev S4.rp.tree S4.rp.nd e4z ?_
          have hlast : lastOf (L1 ++ [(a, y1.fst k)]) = .ptr a 0 := by simp [lastOf]
          simp -implicitDefEqProofs [hlast]
          have e4q : t4.items = L1 ++ (a, y1.fst k) :: (b, x') :: T1 := by rw [e4z]; simp
          refine join_ev S4 R4 e4q (by omega) (fun h5 t5 ix5 S5 e5 P5 => ?_)
          have R5 : Rok t5.items := by rw [e5]; exact jn_Rok (by rw [← e4q]; exact R4)
          have f5 : flat (t5.items.map (·.2)) = setSh A (atomsN (L1.map (·.2)) + k) v := by rw [e5, jn_flat, ← f4, e4q]
          have at5 : t5.at_ = A.length := by rw [at_items rfl, ← flatten_length, f5, setSh_len]
          simp -implicitDefEqProofs
          refine hq h5 _ ⟨m2, t5, ix5, S5, R5, ?_, by omega, f5, fun hl => ?_, rfl⟩ ((((P1.trans P2).trans P3).trans P4).trans P5)
          · rw [e5]; exact jn_plain (by rw [← e4q]; exact pl4)
          · show NJ (t5.items.map (·.2))
            rw [setSh_len] at hl
            have h5 : atomsN (y1.fst k :: ((b, x') :: T1).map (·.2)) ≤ 1024 := by
              have h6 : t4.at_ = atomsN (L1.map (·.2)) + (y1.fst k).text.length + atomsN (((b, x') :: T1).map (·.2)) := by rw [at_items e4q, atomsN_mid]
              have h7 : atomsN (y1.fst k :: ((b, x') :: T1).map (·.2)) = (y1.fst k).text.length + atomsN (((b, x') :: T1).map (·.2)) := by simp [atomsN]
              omega
            have nj5 := jn_NJ (a := a) h5 (nj4 hl)
            obtain ⟨z', Z, y1_, y2_, _⟩ := jn_head a (y1.fst k) ((b, x') :: T1)
            rw [e5, y1_, List.map_append, List.map_cons]
            rw [y1_, List.map_cons] at nj5
            have := nj2 hl
            rw [List.map_append] at this
            exact NJ_glue (NJ_ini (by rw [y2_]) this) nj5
        · have k00 : k = 0 := by omega
          have d0 : decide ((0 : Int) < (k : Int)) = false := decide_eq_false (by omega)
          simp -implicitDefEqProofs [same_self, RunV.cells, w1, d0, k00]
          have hml : y1.text.length = 1 := by omega
          have hi : atomsN (L1.map (·.2)) = atomsN (L1.map (·.2)) + k := by omega
          have nj2 : A.length ≤ 1024 → NJ (L1.map (·.2)) := fun hl => NJ_left _ _ (nj1 hl).1
          have pl2 : ∀ q ∈ L1 ++ (a, y1.sh v) :: T0, plain q.2.text = true := by
            intro q hq
            simp only [List.mem_append, List.mem_cons] at hq
            rcases hq with h | h | h
            · exact pl1 q (by simp [h])
            · rw [h]; exact pl1 (a, y1) (by simp)
            · exact pl1 q (by simp [h])
          have at2 : t1.at_ ≤ 65536 := by
            have : t1.at_ = A.length := by rw [at_items e1, ← flatten_length]; rw [f1]
            omega
          obtain ⟨u2, l2, r2, ht2, sz2, all2, hn2⟩ := At.item (p := a) (x := y1) S1.rp.tree (by rw [e1]; simp)
          refine item_ev hn2 ?_
          simp -implicitDefEqProofs [same_self, RunV.cells]
          refine rope_set (z := ([], m1 :: zT)) (x := y1.sh v) S1.rp e1 ⟨by have := (fit_of R1 (by omega)).1; omega, by have := (fit_of R1 (by omega)).2.1; have : (y1.sh v).text.length = y1.text.length := rfl; omega⟩ (fun h3 t3 R3p e3 k3 n3 => ?_)
          obtain ⟨ix3, S3, P3⟩ := S1.set (t' := t3) (z := y1.sh v) e1 e3 rfl rfl R3p k3 n3
          have R3 : Rok t3.items := by rw [e3]; have hr := R1; rw [e1] at hr; exact hr.set ((hr.ok (a, y1) (by simp)).sh v) (sh_within _ _)
          have at3 : t3.at_ = t1.at_ := by rw [at_items e3, at_items e1]; simp [atomsN, RunV.sh]
          simp -implicitDefEqProofs [same_self, RunV.cells]
          refine join_ev S3 R3 e3 (by omega) (fun h4 t4 ix4 S4 e4 P4 => ?_)
          have R4 : Rok t4.items := by rw [e4]; exact jn_Rok (by rw [← e3]; exact R3)
          have f4 : flat (t4.items.map (·.2)) = setSh A (atomsN (L1.map (·.2)) + k) v := by rw [e4, show_flat f1 hml]; exact congrArg (fun i => setSh A i v) hi
          have at4 : t4.at_ = A.length := by rw [at_items rfl, ← flatten_length, f4, setSh_len]
          have pl4 : ∀ q ∈ t4.items, plain q.2.text = true := by rw [e4]; exact jn_plain pl2
          obtain ⟨x', T1, z1, z2, z3, z4, z5, z6⟩ := jn_head a (y1.sh v) T0
          have nj4 : A.length ≤ 1024 → NJ ((jn a (y1.sh v) T0).map (·.2)) := fun hl => by
            refine jn_NJ ?_ (nj1 hl).2
            have h5 : atomsN ((y1.sh v) :: T0.map (·.2)) = y1.text.length + atomsN (T0.map (·.2)) := by simp [atomsN, RunV.sh]
            have h6 : A.length = atomsN ((L1).map (·.2)) + y1.text.length + atomsN (T0.map (·.2)) := by rw [← atomsN_mid L1 T0 (a, y1), ← flatten_length, f1]
            omega
          have e4z := e4
          rw [z1] at e4z nj4
          simp -implicitDefEqProofs [same_self, RunV.cells]
          refine rope_prev S4.rp.tree S4.rp.nd e4z ?_
          rcases List.eq_nil_or_concat L1 with hL | ⟨P0, q, hL⟩
          · subst hL
            simp -implicitDefEqProofs [lastOf]
            refine join_nil ?_
            simp -implicitDefEqProofs
            refine hq h4 _ ⟨m1, t4, ix4, S4, R4, pl4, by omega, f4, fun hl => ?_, rfl⟩ ((P1.trans P3).trans P4)
            show NJ (t4.items.map (·.2))
            rw [e4z]
            rw [setSh_len] at hl
            exact nj4 hl
          · obtain ⟨q, z⟩ := q
            rw [List.concat_eq_append] at hL
            subst hL
            have hlast : lastOf (P0 ++ [(q, z)]) = .ptr q 0 := by simp [lastOf]
            simp -implicitDefEqProofs [hlast]
            have e4q : t4.items = P0 ++ (q, z) :: (a, x') :: T1 := by rw [e4z]; simp
            refine join_ev S4 R4 e4q (by omega) (fun h5 t5 ix5 S5 e5 P5 => ?_)
            have R5 : Rok t5.items := by rw [e5]; exact jn_Rok (by rw [← e4q]; exact R4)
            have f5 : flat (t5.items.map (·.2)) = setSh A (atomsN ((P0 ++ [(q, z)]).map (·.2)) + k) v := by rw [e5, jn_flat, ← f4, e4q]
            have at5 : t5.at_ = A.length := by rw [at_items rfl, ← flatten_length, f5, setSh_len]
            simp -implicitDefEqProofs
            refine hq h5 _ ⟨m1, t5, ix5, S5, R5, ?_, by omega, f5, fun hl => ?_, rfl⟩ (((P1.trans P3).trans P4).trans P5)
            · rw [e5]; exact jn_plain (by rw [← e4q]; exact pl4)
            · show NJ (t5.items.map (·.2))
              rw [setSh_len] at hl
              have h5 : atomsN (z :: ((a, x') :: T1).map (·.2)) ≤ 1024 := by
                have h6 : t4.at_ = atomsN (P0.map (·.2)) + z.text.length + atomsN (((a, x') :: T1).map (·.2)) := by rw [at_items e4q, atomsN_mid]
                have h7 : atomsN (z :: ((a, x') :: T1).map (·.2)) = z.text.length + atomsN (((a, x') :: T1).map (·.2)) := by simp [atomsN]
                omega
              have nj5 := jn_NJ (a := q) h5 (nj4 hl)
              obtain ⟨z', Z, y1_, y2_, _⟩ := jn_head q z ((a, x') :: T1)
              rw [e5, y1_, List.map_append, List.map_cons]
              rw [y1_, List.map_cons] at nj5
              have := nj2 hl
              rw [List.map_append] at this
              exact NJ_glue (NJ_ini (by rw [y2_]) this) nj5
      · have PP : Parts y k1 L2 y L2 := .inr ⟨by omega, rfl, rfl⟩
        have y1l : y.text.length = k + 1 := by omega
        obtain ⟨h1, hh1⟩ : ∃ h1, h1 = h := ⟨_, rfl⟩
        have S1 := a1
        have P1 := Stp.refl h (SOwn h s m t)
        have e1 := hT
        rw [← hh1] at S1
        rw [← hh1]
        have P1 : Stp h (SOwn h s m t) h1 (SOwn h1 s m t) := by rw [hh1]; exact P1
        obtain ⟨t1, ht1⟩ : ∃ t1, t1 = t := ⟨_, rfl⟩
        rw [← ht1] at S1 e1
        have P1 : Stp h (SOwn h s m t) h1 (SOwn h1 s m t1) := by rw [ht1]; exact P1
        obtain ⟨m1, hm1⟩ : ∃ m1, m1 = m := ⟨_, rfl⟩
        rw [← hm1] at S1
        have P1 : Stp h (SOwn h s m t) h1 (SOwn h1 s m1 t1) := by rw [hm1]; exact P1
        obtain ⟨y1, hy1⟩ : ∃ y1, y1 = y := ⟨_, rfl⟩
        obtain ⟨T0, hT0⟩ : ∃ T0, T0 = L2 := ⟨_, rfl⟩
        have PP : Parts y k1 L2 y1 T0 := by rw [hy1, hT0]; exact PP
        have e1 : t1.items = L1 ++ (a, y1) :: T0 := by rw [hy1, hT0]; exact e1
        have y1l : y1.text.length = k + 1 := by rw [hy1]; exact y1l
        have R1 : Rok t1.items := by rw [e1]; rw [hT] at a2; exact PP.rok a2
        have at1 : t1.at_ = t.at_ := by rw [at_items e1, at_items hT]; exact PP.at_
        have pl1 := PP.plain (a := a) (L1 := L1) (by rw [← hT]; exact a3)
        have f1 : flat ((L1 ++ (a, y1) :: T0).map (·.2)) = A := by
          obtain ⟨g1, g2⟩ := PP.flat
          rw [← a5y, List.map_append, List.map_append, flat_append, flat_append, List.map_cons, List.map_cons, flat_cons, flat_cons, g1, g2, ← List.append_assoc (List.take k1 _), List.take_append_drop]
        have ini1 := PP.ini
        have nj1 : A.length ≤ 1024 → NJ (L1.map (·.2) ++ [y1]) ∧ NJ (T0.map (·.2)) := fun hl => by
          have := a6 hl
          have : NJ (t.items.map (·.2)) := this
          rw [hT, List.map_append, List.map_cons] at this
          obtain ⟨n1, n2⟩ := NJ_split this
          exact ⟨NJ_ini (by rw [ini1]) n1, PP.tail n2⟩
        by_cases k0 : 0 < k
        · have d0 : decide ((0 : Int) < (k : Int)) = true := decide_eq_true (by omega)
          simp -implicitDefEqProofs [same_self, RunV.cells, w1, d0, k0]
          refine cut_ev (k := k) S1 R1 e1 (by omega) (by omega) (fun c4 c5 h2 m2 t2 ix2 b S2 e2 P2 => ?_) (fun c6 => absurd c6 (by omega))
          have R2 : Rok t2.items := by rw [e2]; rw [e1] at R1; exact R1.cut c4 c5
          obtain ⟨mid, hmid⟩ : ∃ mid, mid = y1.snd k := ⟨_, rfl⟩
          rw [← hmid] at e2
          have hml : mid.text.length = 1 := by rw [hmid]; simp [RunV.snd]; omega
          have e2' : t2.items = (L1 ++ [(a, y1.fst k)]) ++ (b, mid) :: T0 := by rw [e2]; simp
          have f2 : flat (((L1 ++ [(a, y1.fst k)]) ++ (b, mid) :: T0).map (·.2)) = A := by
            rw [← f1, hmid]; simp [flat_append]
            rw [← List.append_assoc (atomsOf (y1.fst k)), cut_atoms y1 k (by omega)]
          have hi : atomsN ((L1 ++ [(a, y1.fst k)]).map (·.2)) = atomsN (L1.map (·.2)) + k := by
            rw [List.map_append, atomsN_append]; simp [atomsN, RunV.fst]; omega
          have nj2 : A.length ≤ 1024 → NJ ((L1 ++ [(a, y1.fst k)]).map (·.2)) := fun hl => by
            rw [List.map_append]; exact NJ_ini (by rfl) (nj1 hl).1
          have pl2 : ∀ q ∈ (L1 ++ [(a, y1.fst k)]) ++ (b, mid.sh v) :: T0, plain q.2.text = true := by
            have h1 := pl1 (a, y1) (by simp)
            simp only [] at h1
            rw [← List.take_append_drop k y1.text, plain_append] at h1
            simp at h1
            intro q hq
            simp only [List.append_assoc, List.mem_append, List.mem_cons, List.cons_append, List.nil_append] at hq
            rcases hq with h | h | h | h
            · exact pl1 q (by simp [h])
            · rw [h]; exact h1.1
            · rw [h, hmid]; exact h1.2
            · exact pl1 q (by simp [h])
          simp -implicitDefEqProofs [same_self, RunV.cells, w1, d0, k0]
          refine rope_next S2.rp.tree S2.rp.nd e2 ?_
          simp -implicitDefEqProofs [same_self, RunV.cells, w1, d0, k0, headP]
          have at2 : t2.at_ ≤ 65536 := by
            have : t2.at_ = A.length := by rw [at_items e2', ← flatten_length]; rw [f2]
            omega
          obtain ⟨u2, l2, r2, ht2, sz2, all2, hn2⟩ := At.item (p := b) (x := mid) S2.rp.tree (by rw [e2']; simp)
          refine item_ev hn2 ?_
          simp -implicitDefEqProofs [same_self, RunV.cells]
          refine rope_set (z := ([], m2 :: zT)) (x := mid.sh v) S2.rp e2' ⟨by have := (fit_of R2 (by omega)).1; omega, by have := (fit_of R2 (by omega)).2.1; have : (mid.sh v).text.length = mid.text.length := rfl; omega⟩ (fun h3 t3 R3p e3 k3 n3 => ?_)
          obtain ⟨ix3, S3, P3⟩ := S2.set (t' := t3) (z := mid.sh v) e2' e3 rfl rfl R3p k3 n3
          have R3 : Rok t3.items := by rw [e3]; have hr := R2; rw [e2'] at hr; exact hr.set ((hr.ok (b, mid) (by simp)).sh v) (sh_within _ _)
          have at3 : t3.at_ = t2.at_ := by rw [at_items e3, at_items e2']; simp [atomsN, RunV.sh]
          simp -implicitDefEqProofs [same_self, RunV.cells]
          refine join_ev S3 R3 e3 (by omega) (fun h4 t4 ix4 S4 e4 P4 => ?_)
          have R4 : Rok t4.items := by rw [e4]; exact jn_Rok (by rw [← e3]; exact R3)
          have f4 : flat (t4.items.map (·.2)) = setSh A (atomsN (L1.map (·.2)) + k) v := by rw [e4, show_flat f2 hml]; exact congrArg (fun i => setSh A i v) hi
          have at4 : t4.at_ = A.length := by rw [at_items rfl, ← flatten_length, f4, setSh_len]
          have pl4 : ∀ q ∈ t4.items, plain q.2.text = true := by rw [e4]; exact jn_plain pl2
          obtain ⟨x', T1, z1, z2, z3, z4, z5, z6⟩ := jn_head b (mid.sh v) T0
          have nj4 : A.length ≤ 1024 → NJ ((jn b (mid.sh v) T0).map (·.2)) := fun hl => by
            refine jn_NJ ?_ (nj1 hl).2
            have h5 : atomsN ((mid.sh v) :: T0.map (·.2)) = mid.text.length + atomsN (T0.map (·.2)) := by simp [atomsN, RunV.sh]
            have h6 : A.length = atomsN (((L1 ++ [(a, y1.fst k)])).map (·.2)) + mid.text.length + atomsN (T0.map (·.2)) := by rw [← atomsN_mid (L1 ++ [(a, y1.fst k)]) T0 (b, mid), ← flatten_length, f2]
            omega
          have e4z := e4
          rw [z1] at e4z nj4
          simp -implicitDefEqProofs [same_self, RunV.cells]
          refine rope_prev S4.rp.tree S4.rp.nd e4z ?_
          have hlast : lastOf (L1 ++ [(a, y1.fst k)]) = .ptr a 0 := by simp [lastOf]
          simp -implicitDefEqProofs [hlast]
          have e4q : t4.items = L1 ++ (a, y1.fst k) :: (b, x') :: T1 := by rw [e4z]; simp
          refine join_ev S4 R4 e4q (by omega) (fun h5 t5 ix5 S5 e5 P5 => ?_)
          have R5 : Rok t5.items := by rw [e5]; exact jn_Rok (by rw [← e4q]; exact R4)
          have f5 : flat (t5.items.map (·.2)) = setSh A (atomsN (L1.map (·.2)) + k) v := by rw [e5, jn_flat, ← f4, e4q]
          have at5 : t5.at_ = A.length := by rw [at_items rfl, ← flatten_length, f5, setSh_len]
          simp -implicitDefEqProofs
          refine hq h5 _ ⟨m2, t5, ix5, S5, R5, ?_, by omega, f5, fun hl => ?_, rfl⟩ ((((P1.trans P2).trans P3).trans P4).trans P5)
          · rw [e5]; exact jn_plain (by rw [← e4q]; exact pl4)
          · show NJ (t5.items.map (·.2))
            rw [setSh_len] at hl
            have h5 : atomsN (y1.fst k :: ((b, x') :: T1).map (·.2)) ≤ 1024 := by
              have h6 : t4.at_ = atomsN (L1.map (·.2)) + (y1.fst k).text.length + atomsN (((b, x') :: T1).map (·.2)) := by rw [at_items e4q, atomsN_mid]
              have h7 : atomsN (y1.fst k :: ((b, x') :: T1).map (·.2)) = (y1.fst k).text.length + atomsN (((b, x') :: T1).map (·.2)) := by simp [atomsN]
              omega
            have nj5 := jn_NJ (a := a) h5 (nj4 hl)
            obtain ⟨z', Z, y1_, y2_, _⟩ := jn_head a (y1.fst k) ((b, x') :: T1)
            rw [e5, y1_, List.map_append, List.map_cons]
            rw [y1_, List.map_cons] at nj5
            have := nj2 hl
            rw [List.map_append] at this
            exact NJ_glue (NJ_ini (by rw [y2_]) this) nj5
        · have k00 : k = 0 := by omega
          have d0 : decide ((0 : Int) < (k : Int)) = false := decide_eq_false (by omega)
          simp -implicitDefEqProofs [same_self, RunV.cells, w1, d0, k00]
          have hml : y1.text.length = 1 := by omega
          have hi : atomsN (L1.map (·.2)) = atomsN (L1.map (·.2)) + k := by omega
          have nj2 : A.length ≤ 1024 → NJ (L1.map (·.2)) := fun hl => NJ_left _ _ (nj1 hl).1
          have pl2 : ∀ q ∈ L1 ++ (a, y1.sh v) :: T0, plain q.2.text = true := by
            intro q hq
            simp only [List.mem_append, List.mem_cons] at hq
            rcases hq with h | h | h
            · exact pl1 q (by simp [h])
            · rw [h]; exact pl1 (a, y1) (by simp)
            · exact pl1 q (by simp [h])
          have at2 : t1.at_ ≤ 65536 := by
            have : t1.at_ = A.length := by rw [at_items e1, ← flatten_length]; rw [f1]
            omega
          obtain ⟨u2, l2, r2, ht2, sz2, all2, hn2⟩ := At.item (p := a) (x := y1) S1.rp.tree (by rw [e1]; simp)
          refine item_ev hn2 ?_
          simp -implicitDefEqProofs [same_self, RunV.cells]
          refine rope_set (z := ([], m1 :: zT)) (x := y1.sh v) S1.rp e1 ⟨by have := (fit_of R1 (by omega)).1; omega, by have := (fit_of R1 (by omega)).2.1; have : (y1.sh v).text.length = y1.text.length := rfl; omega⟩ (fun h3 t3 R3p e3 k3 n3 => ?_)
          obtain ⟨ix3, S3, P3⟩ := S1.set (t' := t3) (z := y1.sh v) e1 e3 rfl rfl R3p k3 n3
          have R3 : Rok t3.items := by rw [e3]; have hr := R1; rw [e1] at hr; exact hr.set ((hr.ok (a, y1) (by simp)).sh v) (sh_within _ _)
          have at3 : t3.at_ = t1.at_ := by rw [at_items e3, at_items e1]; simp [atomsN, RunV.sh]
          simp -implicitDefEqProofs [same_self, RunV.cells]
          refine join_ev S3 R3 e3 (by omega) (fun h4 t4 ix4 S4 e4 P4 => ?_)
          have R4 : Rok t4.items := by rw [e4]; exact jn_Rok (by rw [← e3]; exact R3)
          have f4 : flat (t4.items.map (·.2)) = setSh A (atomsN (L1.map (·.2)) + k) v := by rw [e4, show_flat f1 hml]; exact congrArg (fun i => setSh A i v) hi
          have at4 : t4.at_ = A.length := by rw [at_items rfl, ← flatten_length, f4, setSh_len]
          have pl4 : ∀ q ∈ t4.items, plain q.2.text = true := by rw [e4]; exact jn_plain pl2
          obtain ⟨x', T1, z1, z2, z3, z4, z5, z6⟩ := jn_head a (y1.sh v) T0
          have nj4 : A.length ≤ 1024 → NJ ((jn a (y1.sh v) T0).map (·.2)) := fun hl => by
            refine jn_NJ ?_ (nj1 hl).2
            have h5 : atomsN ((y1.sh v) :: T0.map (·.2)) = y1.text.length + atomsN (T0.map (·.2)) := by simp [atomsN, RunV.sh]
            have h6 : A.length = atomsN ((L1).map (·.2)) + y1.text.length + atomsN (T0.map (·.2)) := by rw [← atomsN_mid L1 T0 (a, y1), ← flatten_length, f1]
            omega
          have e4z := e4
          rw [z1] at e4z nj4
          simp -implicitDefEqProofs [same_self, RunV.cells]
          refine rope_prev S4.rp.tree S4.rp.nd e4z ?_
          rcases List.eq_nil_or_concat L1 with hL | ⟨P0, q, hL⟩
          · subst hL
            simp -implicitDefEqProofs [lastOf]
            refine join_nil ?_
            simp -implicitDefEqProofs
            refine hq h4 _ ⟨m1, t4, ix4, S4, R4, pl4, by omega, f4, fun hl => ?_, rfl⟩ ((P1.trans P3).trans P4)
            show NJ (t4.items.map (·.2))
            rw [e4z]
            rw [setSh_len] at hl
            exact nj4 hl
          · obtain ⟨q, z⟩ := q
            rw [List.concat_eq_append] at hL
            subst hL
            have hlast : lastOf (P0 ++ [(q, z)]) = .ptr q 0 := by simp [lastOf]
            simp -implicitDefEqProofs [hlast]
            have e4q : t4.items = P0 ++ (q, z) :: (a, x') :: T1 := by rw [e4z]; simp
            refine join_ev S4 R4 e4q (by omega) (fun h5 t5 ix5 S5 e5 P5 => ?_)
            have R5 : Rok t5.items := by rw [e5]; exact jn_Rok (by rw [← e4q]; exact R4)
            have f5 : flat (t5.items.map (·.2)) = setSh A (atomsN ((P0 ++ [(q, z)]).map (·.2)) + k) v := by rw [e5, jn_flat, ← f4, e4q]
            have at5 : t5.at_ = A.length := by rw [at_items rfl, ← flatten_length, f5, setSh_len]
            simp -implicitDefEqProofs
            refine hq h5 _ ⟨m1, t5, ix5, S5, R5, ?_, by omega, f5, fun hl => ?_, rfl⟩ (((P1.trans P3).trans P4).trans P5)
            · rw [e5]; exact jn_plain (by rw [← e4q]; exact pl4)
            · show NJ (t5.items.map (·.2))
              rw [setSh_len] at hl
              have h5 : atomsN (z :: ((a, x') :: T1).map (·.2)) ≤ 1024 := by
                have h6 : t4.at_ = atomsN (P0.map (·.2)) + z.text.length + atomsN (((a, x') :: T1).map (·.2)) := by rw [at_items e4q, atomsN_mid]
                have h7 : atomsN (z :: ((a, x') :: T1).map (·.2)) = z.text.length + atomsN (((a, x') :: T1).map (·.2)) := by simp [atomsN]
                omega
              have nj5 := jn_NJ (a := q) h5 (nj4 hl)
              obtain ⟨z', Z, y1_, y2_, _⟩ := jn_head q z ((a, x') :: T1)
              rw [e5, y1_, List.map_append, List.map_cons]
              rw [y1_, List.map_cons] at nj5
              have := nj2 hl
              rw [List.map_append] at this
              exact NJ_glue (NJ_ini (by rw [y2_]) this) nj5
  · have hnone : atIx A ar an = none := by
      rw [← a5']
      refine atIx_none.2 (fun y hy hh => ?_)
      obtain ⟨p, hp, rfl⟩ := List.mem_map.1 hy
      exact hno p hp hh
    have e0 : showA A ar an v = (A, 40) := by unfold showA; rw [hnone]
    rw [e0] at hq
    simp -implicitDefEqProofs [same_self]
    exact hq h O ⟨m, t, ix, a1, a2, a3, a4, a5, a6, a7⟩ (Stp.refl _ _)
end
end Go.Proofs.YtlhlbamcgopiiaaGreatDoor
set_option linter.all false
set_option maxRecDepth 100000
set_option maxHeartbeats 4000000
namespace Go.Proofs.YtlhlbamcgopiiaaGreatDoor
open Go Go.RowKit Go.Proofs
variable {zT : List AVal}
def AtV.cells (a : AtV) : List AVal := [.int .u64 a.clock, .int .u16 a.r, .int .u32 a.n, .int .u16 a.er, .int .u32 a.en, .int .u8 a.b.toNat, .bool a.shown]
def zeroAtom : AVal := .agg [.int .u64 0, .int .u16 0, .int .u32 0, .int .u16 0, .int .u32 0, .int .u8 0, .bool false]
/-- an atom of a run -/
def RunV.atom (x : RunV) (i : Nat) (b : UInt8) : AtV := ⟨x.clock, x.r, x.n + i, x.er, x.en + i, b, x.shown⟩
theorem shown_take {y : RunV} {k : Nat} (hk : k ≤ y.text.length) : (shownA ((atomsOf y).take k)).length = if y.shown then k else 0 := by
  rw [← fst_atoms y k hk]
  unfold atomsOf
  rw [shownA_run]
  have hl : (y.fst k).text.length = k := by simp [RunV.fst]; omega
  cases h : (y.fst k).shown <;> (have h2 : (y.fst k).shown = y.shown := rfl; rw [h] at h2; simp [← h2, hl])
section
variable {ro : Nat → Option (List AVal)}
theorem atom_ev {h : AHeap} {x : RunV} {i : Nat} {b : UInt8} (hx : RunOk x) (hb : x.text[i]? = some b) {Q : AVal → AHeap → Prop} (hq : Q (.agg (x.atom i b).cells) h) : Ev (cfgR ro) 140 [.agg x.cells, .int .i64 (i : Nat)] h Q := by
  refine Ev.wp rfl rfl Tryz.func140 rfl ?_
  have hi := (List.getElem?_eq_some_iff.1 hb).1
  obtain ⟨p1, p2, p3, p4, p5, p6⟩ := hx
  have ix : idxNat (.int .i64 (i : Int)) x.text.length = .ok i := ix_nat hi
  simp only [AtV.cells, RunV.atom] at hq
  obtain ⟨m1, hm1⟩ : ∃ m1, m1 = x.n + i := ⟨_, rfl⟩
  obtain ⟨m2, hm2⟩ : ∃ m2, m2 = x.en + i := ⟨_, rfl⟩
  rw [← hm1, ← hm2] at hq
  simp -implicitDefEqProofs [Tryz.f140, RunV.cells, same_self]
  refine keyPlus_ev (c := x.clock) (r := x.r) (n := x.n) (k := i) (by omega) ?_
  rw [← hm1]
  simp -implicitDefEqProofs [RunV.cells, same_self, keyA]
  refine idPlus_ev (r := x.er) (n := x.en) (k := i) (by omega) ?_
  rw [← hm2]
  simp -implicitDefEqProofs [RunV.cells, same_self, keyA, idA, ix, hb]
  exact hq
/-- the atom at a place of a run -/
theorem get_at {L1 L2 : List (Nat × RunV)} {a : Nat} {y : RunV} {A : List AtV} {k : Nat} (hA : flat ((L1 ++ (a, y) :: L2).map (·.2)) = A) (hk : k < y.text.length) : ∃ b, y.text[k]? = some b ∧ A[atomsN (L1.map (·.2)) + k]? = some (y.atom k b) := by
  refine ⟨_, List.getElem?_eq_getElem hk, ?_⟩
  rw [← hA, List.map_append, List.map_cons, flat_append, flat_cons, ← flatten_length, List.getElem?_append_right (by omega), Nat.add_sub_cancel_left, List.getElem?_append_left (by rw [atomsOf_len]; exact hk), atomsOf_get, List.getElem?_eq_getElem hk]
  rfl
theorem sget_ev {h : AHeap} {s : Nat} {O : Nat → Prop} {A : List AtV} {ar an : Nat} (S : StA zT h s O A) (ha : an < 2 ^ 32) {Q : AVal → AHeap → Prop}
    (hq1 : ∀ i a, atIx A ar an = some i → A[i]? = some a → Q (.tuple [.agg a.cells, .bool true]) h) (hq2 : atIx A ar an = none → Q (.tuple [zeroAtom, .bool false]) h) : Ev (cfgR ro) 104 [.ptr s 0, idA ar an] h Q := by
  refine Ev.wp rfl rfl Tryz.func104 rfl ?_
  obtain ⟨m, t, ix, a1, a2, a3, a4, a5, a6, a7⟩ := S
  have a5' : flat (t.items.map (·.2)) = A := a5
  simp -implicitDefEqProofs [Tryz.f104, idA, same_self]
  refine at_ev a1 a2 ha (fun L1 a y L2 hT hh => ?_) (fun hno => ?_)
  · obtain ⟨k, hk⟩ : ∃ k, k = an - y.n := ⟨_, rfl⟩
    have hky : k < y.text.length := by have := hh.2; omega
    have a5y : flat ((L1 ++ (a, y) :: L2).map (·.2)) = A := by rw [← hT]; exact a5'
    have hpos := pos_at (L1 := L1) (a := a) (y := y) (L2 := L2) (ar := ar) (an := an) (by rw [← hT]; exact a2) hh
    rw [a5y, ← hk] at hpos
    obtain ⟨b, hb1, hb2⟩ := get_at a5y hky
    obtain ⟨u, l, r, ht, sz, all, hn⟩ := At.item (p := a) (x := y) a1.rp.tree (by rw [hT]; simp)
    have hq := hq1 _ _ hpos hb2
    simp only [AtV.cells] at hq
    rw [← hk]
    simp -implicitDefEqProofs [same_self]
    refine item_ev hn ?_
    simp -implicitDefEqProofs [same_self]
    refine atom_ev (a2.ok (a, y) (by rw [hT]; simp)) hb1 ?_
    simp -implicitDefEqProofs [same_self, AtV.cells]
    exact hq
  · have hnone : atIx A ar an = none := by
      rw [← a5']
      refine atIx_none.2 (fun y hy hh => ?_)
      obtain ⟨p, hp, rfl⟩ := List.mem_map.1 hy
      exact hno p hp hh
    have hq := hq2 hnone
    simp only [zeroAtom] at hq
    simp -implicitDefEqProofs [same_self]
    exact hq
theorem sindex_ev {h : AHeap} {s : Nat} {O : Nat → Prop} {A : List AtV} {ar an : Nat} (S : StA zT h s O A) (ha : an < 2 ^ 32) {Q : AVal → AHeap → Prop}
    (hq1 : ∀ i h', Old h h' → atIx A ar an = some i → Q (.tuple [.int .i64 (i : Nat), .int .i64 ((shownA (A.take i)).length : Nat), .bool true]) h') (hq2 : atIx A ar an = none → Q (.tuple [.int .i64 0, .int .i64 0, .bool false]) h) : Ev (cfgR ro) 103 [.ptr s 0, idA ar an] h Q := by
  refine Ev.wp rfl rfl Tryz.func103 rfl ?_
  obtain ⟨m, t, ix, a1, a2, a3, a4, a5, a6, a7⟩ := S
  have a5' : flat (t.items.map (·.2)) = A := a5
  simp -implicitDefEqProofs [Tryz.f103, idA, same_self]
  refine at_ev a1 a2 ha (fun L1 a y L2 hT hh => ?_) (fun hno => ?_)
  · obtain ⟨k, hk⟩ : ∃ k, k = an - y.n := ⟨_, rfl⟩
    have hky : k < y.text.length := by have := hh.2; omega
    have a5y : flat ((L1 ++ (a, y) :: L2).map (·.2)) = A := by rw [← hT]; exact a5'
    have hpos := pos_at (L1 := L1) (a := a) (y := y) (L2 := L2) (ar := ar) (an := an) (by rw [← hT]; exact a2) hh
    rw [a5y, ← hk] at hpos
    have hfit := fit_of a2 (Nat.le_trans a4 (by decide))
    have hsh : (shownA (A.take (atomsN (L1.map (·.2)) + k))).length = (shownTx (L1.map (·.2))).length + if y.shown then k else 0 := by
      rw [← a5y, (flat_pos (Nat.le_of_lt hky)).1, shownA_append, List.length_append, shownA_flat, shown_take (Nat.le_of_lt hky)]
    have hyl := (a2.ok (a, y) (by rw [hT]; simp)).len
    simp only [] at hyl
    obtain ⟨u, l, r, ht, sz, all, hn⟩ := At.item (p := a) (x := y) a1.rp.tree (by rw [hT]; simp)
    rw [← hk]
    simp -implicitDefEqProofs [same_self]
    refine rope_before (z := ([], m :: zT)) a1.rp hT hfit.2.2 (fun mm h1 o1 hm => ?_)
    have hn1 : h1.get a = some (nrow u l r ht sz y all) := by rw [o1.2 a (a1.rp.lt a (by unfold Rt.ids; rw [hT]; simp))]; exact hn
    have m1 : mm.at_ = atomsN (L1.map (·.2)) := hm.at_
    have m2 : mm.sh = (shownTx (L1.map (·.2))).length := hm.sh
    have hle := shown_le (L1.map (·.2))
    have htot := at_items hT
    rw [atomsN_mid] at htot
    rw [← m2] at hsh
    have hq := hq1 _ h1 o1 hpos
    rw [hsh, ← m1] at hq
    have w2 : IntKind.i64.wrap ((mm.at_ : Int) + (k : Int)) = ((mm.at_ + k : Nat) : Int) := by rw [w64 (by omega) (by omega)]; omega
    obtain ⟨q1, hq1'⟩ : ∃ q1, q1 = mm.at_ + k := ⟨_, rfl⟩
    rw [← hq1'] at w2 hq
    simp -implicitDefEqProofs [same_self, MassV.cells]
    refine item_ev hn1 ?_
    cases hs : y.shown with
    | true =>
      have w1 : IntKind.i64.wrap ((mm.sh : Int) + (k : Int)) = ((mm.sh + k : Nat) : Int) := by rw [w64 (by omega) (by omega)]; omega
      obtain ⟨q2, hq2'⟩ : ∃ q2, q2 = mm.sh + k := ⟨_, rfl⟩
      rw [hs, if_pos rfl, ← hq2'] at hq
      rw [← hq2'] at w1
      simp -implicitDefEqProofs [same_self, MassV.cells, RunV.cells, hs, w1, w2]
      exact hq
    | false =>
      rw [hs] at hq
      simp only [Bool.false_eq_true, if_false, Nat.add_zero] at hq
      simp -implicitDefEqProofs [same_self, MassV.cells, RunV.cells, hs, w2]
      exact hq
  · have hnone : atIx A ar an = none := by
      rw [← a5']
      refine atIx_none.2 (fun y hy hh => ?_)
      obtain ⟨p, hp, rfl⟩ := List.mem_map.1 hy
      exact hno p hp hh
    simp -implicitDefEqProofs [same_self]
    exact hq2 hnone
theorem sat_ev {h : AHeap} {s : Nat} {O : Nat → Prop} {A : List AtV} {i : Int} (S : StA zT h s O A) {Q : AVal → AHeap → Prop}
    (hq1 : ∀ k a h', Old h h' → A[k]? = some a → a.shown = true → ((shownA (A.take k)).length : Int) = i → Q (.tuple [.agg a.cells, .bool true]) h') (hq2 : (i < 0 ∨ ((shownA A).length : Int) ≤ i) → ∀ h', Old h h' → Q (.tuple [zeroAtom, .bool false]) h') : Ev (cfgR ro) 111 [.ptr s 0, .int .i64 i] h Q := by
  refine Ev.wp rfl rfl Tryz.func111 rfl ?_
  obtain ⟨m, t, ix, a1, a2, a3, a4, a5, a6, a7⟩ := S
  have a5' : flat (t.items.map (·.2)) = A := a5
  have hshA : shownA A = shownTx t.rs := by rw [← a5, shownA_flat]
  simp only [zeroAtom] at hq2
  simp -implicitDefEqProofs [Tryz.f111, same_self]
  obtain ⟨H1, hH1⟩ : ∃ H1, H1 = h.push (.row 0 false [.int .i64 i]) := ⟨_, rfl⟩
  obtain ⟨q, hqq⟩ : ∃ q, q = h.next := ⟨_, rfl⟩
  have o1 : Old h H1 := by rw [hH1]; exact (Old.refl h).push _
  have hg : H1.get q = some (.row 0 false [.int .i64 i]) := by rw [hH1, hqq]; exact get_push_next _ _
  have hqn : q < H1.next := by rw [hH1, hqq]; simp
  have b1 := (a1.old o1).1
  rw [← hH1, ← hqq]
  by_cases c1 : i < 0
  · have hq := hq2 (.inl c1) H1 o1
    simp -implicitDefEqProofs [same_self, c1, hg]
    exact hq
  · have d1 : decide (i < 0) = false := decide_eq_false c1
    simp -implicitDefEqProofs [same_self, c1, hg]
    refine sshown_ev b1 ?_
    rw [← hshA]
    by_cases c2 : ((shownA A).length : Int) ≤ i
    · have hq := hq2 (.inr c2) H1 o1
      simp -implicitDefEqProofs [same_self, c1, c2, hg]
      exact hq
    · have hfit := fit_of a2 (Nat.le_trans a4 (by decide))
      simp -implicitDefEqProofs [same_self, c1, c2, hg]
      refine rope_find (z := ([], m :: zT)) b1.rp hfit.2.2 (by omega) (by rw [hshA] at c2; omega) hg hqn (fun L1 a y L2 mm h2 o2 hT hm g1 g2 => ?_)
      have a5y : flat ((L1 ++ (a, y) :: L2).map (·.2)) = A := by rw [← hT]; exact a5'
      have m2 : mm.sh = (shownTx (L1.map (·.2))).length := hm.sh
      have b2 := (b1.old o2).1
      have hg2 : H1.get q = h2.get q := (o2.2 q hqn).symm
      rw [hg2] at hg
      obtain ⟨u, l, r, ht, sz, all, hn⟩ := At.item (p := a) (x := y) b2.rp.tree (by rw [hT]; simp)
      have hsy : y.shown = true ∧ i < (mm.sh : Int) + (y.text.length : Int) := by
        cases hs : y.shown with
        | true => simp [shownTx, hs] at g2; exact ⟨rfl, g2⟩
        | false => simp [shownTx, hs] at g2; omega
      obtain ⟨k, hk⟩ : ∃ k : Nat, (k : Int) = i - (mm.sh : Int) := ⟨(i - (mm.sh : Int)).toNat, by omega⟩
      have hky : k < y.text.length := by omega
      have hyl := (a2.ok (a, y) (by rw [hT]; simp)).len
      simp only [] at hyl
      obtain ⟨b, hb1, hb2⟩ := get_at a5y hky
      have hsh : (shownA (A.take (atomsN (L1.map (·.2)) + k))).length = mm.sh + k := by
        rw [← a5y, (flat_pos (Nat.le_of_lt hky)).1, shownA_append, List.length_append, shownA_flat, shown_take (Nat.le_of_lt hky), if_pos hsy.1, m2]
      have hq := hq1 _ _ h2 (o1.trans o2) hb2 hsy.1 (by rw [hsh]; omega)
      simp only [AtV.cells] at hq
      have w1 : IntKind.i64.wrap (i - (mm.sh : Int)) = (k : Int) := by rw [← hk]; exact w64 (by omega) (by omega)
      simp -implicitDefEqProofs [same_self, c1, c2, hg, MassV.cells]
      refine item_ev hn ?_
      simp -implicitDefEqProofs [same_self, c1, c2, hg, MassV.cells, w1]
      refine atom_ev (a2.ok (a, y) (by rw [hT]; simp)) hb1 ?_
      simp -implicitDefEqProofs [same_self, c1, c2, hg, MassV.cells, w1, AtV.cells]
      exact hq
theorem sbehind_ev (hro : ro 0 = some [.int .u16 0, .int .u32 0]) {h : AHeap} {s : Nat} {O : Nat → Prop} {A : List AtV} {ar an : Nat} (S : StA zT h s O A) (ha : an < 2 ^ 32) {Q : AVal → AHeap → Prop}
    (hq1 : ∀ k z rest, posA A ar an = some k → A.drop k = atomsOf z ++ rest → RunOk z → plain z.text = true → Q (.tuple [.agg z.cells, .bool true]) h)
    (hq2 : (∀ k, posA A ar an = some k → A.length ≤ k) → Q (.tuple [zeroRun, .bool false]) h) : Ev (cfgR ro) 186 [.ptr s 0, idA ar an] h Q := by
  refine Ev.wp rfl rfl Tryz.func186 rfl ?_
  obtain ⟨m, t, ix, a1, a2, a3, a4, a5, a6, a7⟩ := S
  have a5' : flat (t.items.map (·.2)) = A := a5
  obtain ⟨s0, hr⟩ := a1.rp.root
  have first : ∀ K : AVal → AHeap → Prop, K t.lm h → Ev (cfgR ro) 127 [.ptr s 0] h K := fun K hK => first_ev (z := ([], m :: zT)) hr a1.rp.tree hK
  simp only [zeroRun] at hq2
  simp -implicitDefEqProofs [Tryz.f186, idA, same_self]
  refine first _ ?_
  simp -implicitDefEqProofs [same_self]
  refine idRoot_ev hro ?_
  -- the run at a place of the row
  have at_row : ∀ L1 a y L2, t.items = L1 ++ (a, y) :: L2 → (∃ u l r ht sz all, h.get a = some (nrow u l r ht sz y all)) ∧ A.drop (atomsN (L1.map (·.2))) = atomsOf y ++ flat (L2.map (·.2)) ∧ RunOk y ∧ plain y.text = true := by
    intro L1 a y L2 hT
    have a5y : flat ((L1 ++ (a, y) :: L2).map (·.2)) = A := by rw [← hT]; exact a5'
    have hm : (a, y) ∈ t.items := by rw [hT]; simp
    refine ⟨At.item a1.rp.tree hm, ?_, a2.ok _ hm, a3 _ hm⟩
    have := (flat_pos (L1 := L1) (L2 := L2) (a := a) (y := y) (k := 0) (Nat.zero_le _)).2
    rw [a5y] at this; simpa using this
  by_cases c : ar = 0 ∧ an = 0
  · have hpos : posA A ar an = some 0 := by unfold posA; rw [if_pos c]
    rw [decide_eq_true c, lm_head]
    cases hT : t.items with
    | nil =>
      have : A = [] := by rw [← a5', hT]; rfl
      simp -implicitDefEqProofs [same_self, headP]
      exact hq2 (fun k _ => by rw [this]; exact Nat.zero_le _)
    | cons p L2 =>
      obtain ⟨a, y⟩ := p
      obtain ⟨⟨u, l, r, ht, sz, all, hn⟩, e1, e2, e3⟩ := at_row [] a y L2 hT
      have hq := hq1 0 y _ hpos e1 e2 e3
      simp only [RunV.cells] at hq
      simp -implicitDefEqProofs [same_self, headP]
      refine item_ev hn ?_
      simp -implicitDefEqProofs [same_self, RunV.cells]
      exact hq
  · rw [decide_eq_false c]
    simp -implicitDefEqProofs [same_self]
    refine at_ev a1 a2 ha (fun L1 a y L2 hT hh => ?_) (fun hno => ?_)
    · obtain ⟨k, hk⟩ : ∃ k, k = an - y.n := ⟨_, rfl⟩
      have hky : k < y.text.length := by have := hh.2; omega
      have a5y : flat ((L1 ++ (a, y) :: L2).map (·.2)) = A := by rw [← hT]; exact a5'
      have hpos := pos_at (L1 := L1) (a := a) (y := y) (L2 := L2) (ar := ar) (an := an) (by rw [← hT]; exact a2) hh
      rw [a5y, ← hk] at hpos
      obtain ⟨k1, hk1⟩ : ∃ k1, k1 = k + 1 := ⟨_, rfl⟩
      have hpos : posA A ar an = some (atomsN (L1.map (·.2)) + k1) := by unfold posA; rw [if_neg c, hpos]; rw [hk1]; rfl
      obtain ⟨⟨u, l, r, ht, sz, all, hn⟩, e1, e2, e3⟩ := at_row L1 a y L2 hT
      have hyl := e2.len
      have w1 : IntKind.i64.wrap ((k : Int) + 1) = (k1 : Int) := by rw [w64 (by omega) (by omega)]; omega
      rw [← hk]
      simp -implicitDefEqProofs [same_self]
      refine item_ev hn ?_
      simp -implicitDefEqProofs [same_self, w1]
      refine rCut_ev (k := k1) e2 (by omega) (fun c1 c2 => ?_) (fun c3 => ?_)
      · have hz : A.drop (atomsN (L1.map (·.2)) + k1) = atomsOf (y.snd k1) ++ flat (L2.map (·.2)) := by
          rw [← a5y, (flat_pos (Nat.le_of_lt c2)).2, snd_atoms y k1 (Nat.le_of_lt c2)]
        have hpl : plain (y.snd k1).text = true := by
          have := e3
          rw [← List.take_append_drop k1 y.text, plain_append] at this
          simp at this; exact this.2
        have hq := hq1 _ (y.snd k1) _ hpos hz (e2.snd c1 c2) hpl
        simp only [RunV.cells] at hq
        simp -implicitDefEqProofs [same_self, RunV.cells]
        exact hq
      · simp -implicitDefEqProofs [same_self, zeroRun]
        refine rope_next a1.rp.tree a1.rp.nd hT ?_
        have hkl : k1 = y.text.length := by omega
        cases L2 with
        | nil =>
          simp -implicitDefEqProofs [same_self, headP]
          refine hq2 (fun k2 e => ?_)
          rw [hpos] at e
          injection e with e
          rw [← a5y, flatten_length, atomsN_mid, ← e]; simp [atomsN]; omega
        | cons p L3 =>
          obtain ⟨b, z⟩ := p
          obtain ⟨⟨u, l, r, ht, sz, all, hn2⟩, g1, g2, g3⟩ := at_row (L1 ++ [(a, y)]) b z L3 (by rw [hT]; simp)
          have hl : atomsN ((L1 ++ [(a, y)]).map (·.2)) = atomsN (L1.map (·.2)) + k1 := by rw [List.map_append, atomsN_append, hkl]; simp [atomsN]
          rw [hl] at g1
          have hq := hq1 _ z _ hpos g1 g2 g3
          simp only [RunV.cells] at hq
          simp -implicitDefEqProofs [same_self, headP]
          refine item_ev hn2 ?_
          simp -implicitDefEqProofs [same_self, RunV.cells]
          exact hq
    · have hnone : posA A ar an = none := by
        unfold posA; rw [if_neg c]
        have : atIx A ar an = none := by
          rw [← a5']
          refine atIx_none.2 (fun y hy hh => ?_)
          obtain ⟨p, hp, rfl⟩ := List.mem_map.1 hy
          exact hno p hp hh
        rw [this]; rfl
      simp -implicitDefEqProofs [same_self]
      exact hq2 (fun k e => by rw [hnone] at e; cases e)
end
end Go.Proofs.YtlhlbamcgopiiaaGreatDoor
set_option linter.all false
set_option maxRecDepth 100000
set_option maxHeartbeats 4000000
namespace Go.Proofs.YtlhlbamcgopiiaaGreatDoor
open Go Go.RowKit Go.Proofs
variable {zT : List AVal}
section
variable {ro : Nat → Option (List AVal)}
theorem stext_ev {h : AHeap} {s : Nat} {O : Nat → Prop} {A : List AtV} (S : StA zT h s O A) {Q : AVal → AHeap → Prop}
    (hq : ∀ h', Old h h' → Q (.str (shownA A)) h') : Ev (cfgR ro) 70 [.ptr s 0] h Q := by
  refine Ev.wp rfl rfl Tryz.func70 rfl ?_
  obtain ⟨m, t, ix, a1, a2, a3, a4, a5, a6, a7⟩ := S
  have hshA : shownA A = shownTx t.rs := by rw [← a5, shownA_flat]
  rw [hshA] at hq
  have hle := shown_le t.rs
  have hle2 : atomsN t.rs ≤ 65536 := a4
  have hbld : bldR h 217 (.agg [.nilp, .nils]) = .ok (.ptr h.next 0, h.push (.bld 217 none)) := by rfl
  simp -implicitDefEqProofs [Tryz.f70, hbld]
  obtain ⟨H1, hH1⟩ : ∃ H1, H1 = h.push (.bld 217 none) := ⟨_, rfl⟩
  obtain ⟨o, hoo⟩ : ∃ o, o = h.next := ⟨_, rfl⟩
  have bl : BL h H1 o [] := ⟨by rw [hH1]; exact (Old.refl h).push _, by omega, by rw [hH1, hoo]; simp, .inl ⟨rfl, by rw [hH1, hoo]; exact get_push_next _ _⟩⟩
  rw [← hH1, ← hoo]
  have b1 := (a1.old bl.1).1
  obtain ⟨s0, hr⟩ := b1.rp.root
  refine first_ev (z := ([], m :: zT)) hr b1.rp.tree ?_
  rw [lm_head]
  simp -implicitDefEqProofs [same_self]
  obtain ⟨I, hI⟩ : ∃ I : Nat → List AVal → AHeap → Prop, I = fun n env h' => ∃ L1 L2, t.items = L1 ++ L2 ∧ n = L2.length ∧ BL h h' o (shownTx (L1.map (·.2))) ∧
    env = (.dead :: .dead :: .dead :: .ptr o 0 :: headP L2 :: .dead :: .dead :: .dead :: .dead :: .dead :: .dead :: .dead :: .dead :: .dead :: .dead :: .dead :: .dead :: .dead :: .dead :: .dead :: .dead :: .dead :: []) := ⟨_, rfl⟩
  refine loop_of I ?_ t.items.length (by rw [hI]; exact ⟨[], t.items, rfl, rfl, bl, rfl⟩)
  intro n env h' hi
  rw [hI] at hi
  obtain ⟨L1, L2, hT, rfl, hbl, rfl⟩ := hi
  have b2 := (a1.old hbl.1).1
  cases L2 with
  | nil =>
    have hall : shownTx (L1.map (·.2)) = shownTx t.rs := by unfold Rt.rs; rw [hT]; simp
    rw [hall] at hbl
    simp -implicitDefEqProofs [headP]
    refine bstr_ev hbl (by omega) (fun h2 o2 => ?_)
    simp -implicitDefEqProofs
    exact hq h2 o2
  | cons p L2 =>
    obtain ⟨a, y⟩ := p
    obtain ⟨u, l, r, ht, sz, all, hn⟩ := At.item (p := a) (x := y) b2.rp.tree (by rw [hT]; simp)
    have hsum : shownTx t.rs = shownTx (L1.map (·.2)) ++ (if y.shown then y.text else []) ++ shownTx (L2.map (·.2)) := by
      unfold Rt.rs; rw [hT]; simp [shownTx]
    have hsl := congrArg List.length hsum
    simp only [List.length_append] at hsl
    have hnext : ∀ (h3 : AHeap) (K : AVal → AHeap → Prop), Old h h3 → K (headP L2) h3 → Ev (cfgR ro) 128 [.ptr a 0] h3 K := fun h3 K o3 hK => rope_next (a1.old o3).1.rp.tree a1.rp.nd hT hK
    simp -implicitDefEqProofs [headP]
    refine item_ev hn ?_
    cases hs : y.shown with
    | true =>
      rw [hs] at hsl
      simp only [if_true] at hsl
      simp -implicitDefEqProofs [RunV.cells, hs]
      refine write_ev hbl (by omega) (fun h3 hb3 => ?_)
      simp -implicitDefEqProofs [RunV.cells, hs]
      refine hnext _ _ hb3.1 ?_
      simp -implicitDefEqProofs [RunV.cells, hs]
      refine .mk (m := L2.length) (by simp) (by rw [hI]; refine ⟨L1 ++ [(a, y)], L2, by rw [hT]; simp, rfl, ?_, rfl⟩; have : shownTx ((L1 ++ [(a, y)]).map (·.2)) = shownTx (L1.map (·.2)) ++ y.text := by simp [shownTx, hs]
                                                rw [this]; exact hb3)
    | false =>
      simp -implicitDefEqProofs [RunV.cells, hs]
      refine hnext _ _ hbl.1 ?_
      simp -implicitDefEqProofs [RunV.cells, hs]
      refine .mk (m := L2.length) (by simp) (by rw [hI]; refine ⟨L1 ++ [(a, y)], L2, by rw [hT]; simp, rfl, ?_, rfl⟩; have : shownTx ((L1 ++ [(a, y)]).map (·.2)) = shownTx (L1.map (·.2)) := by simp [shownTx, hs]
                                                rw [this]; exact hbl)
theorem satoms_ev {h : AHeap} {s : Nat} {O : Nat → Prop} {A : List AtV} (S : StA zT h s O A) {Q : AVal → AHeap → Prop}
    (hq : ∀ v h', Old h h' → Mine h h' 7 (A.map AtV.cells) v → Q v h') : Ev (cfgR ro) 81 [.ptr s 0] h Q := by
  refine Ev.wp rfl rfl Tryz.func81 rfl ?_
  obtain ⟨m, t, ix, a1, a2, a3, a4, a5, a6, a7⟩ := S
  have a5' : flat (t.items.map (·.2)) = A := a5
  have hlen : A.length ≤ 65536 := by rw [← a5, flatten_length]; exact a4
  simp -implicitDefEqProofs [Tryz.f81]
  obtain ⟨s0, hr⟩ := a1.rp.root
  refine first_ev (z := ([], m :: zT)) hr a1.rp.tree ?_
  rw [lm_head]
  simp -implicitDefEqProofs [same_self]
  obtain ⟨I, hI⟩ : ∃ I : Nat → List AVal → AHeap → Prop, I = fun n env h' => ∃ L1 L2 v, t.items = L1 ++ L2 ∧ n = L2.length ∧ Old h h' ∧ Mine h h' 7 ((flat (L1.map (·.2))).map AtV.cells) v ∧
    env = (.dead :: .dead :: .dead :: v :: headP L2 :: .dead :: .dead :: .dead :: .dead :: .dead :: .dead :: .dead :: .dead :: .dead :: .dead :: .dead :: .dead :: .dead :: .dead :: .dead :: .dead :: .dead :: .dead :: .dead :: .dead :: .dead :: .dead :: .dead :: .dead :: .dead :: []) := ⟨_, rfl⟩
  refine loop_of I ?_ t.items.length (by rw [hI]; exact ⟨[], t.items, .nils, rfl, rfl, Old.refl h, Mine.nil _ _ _, rfl⟩)
  intro n env h' hi
  rw [hI] at hi
  obtain ⟨L1, L2, v, hT, rfl, ho, hm, rfl⟩ := hi
  have b2 := (a1.old ho).1
  cases L2 with
  | nil =>
    have hall : flat (L1.map (·.2)) = A := by rw [← a5', hT]; simp
    rw [hall] at hm
    simp -implicitDefEqProofs [headP]
    exact hq v h' ho hm
  | cons p L2 =>
    obtain ⟨a, y⟩ := p
    obtain ⟨u, l, r, ht, sz, all, hn⟩ := At.item (p := a) (x := y) b2.rp.tree (by rw [hT]; simp)
    have hy := a2.ok (a, y) (by rw [hT]; simp)
    simp only [] at hy
    have hyl := hy.len
    have htot : A.length = atomsN (L1.map (·.2)) + y.text.length + atomsN (L2.map (·.2)) := by rw [← a5', flatten_length, hT, atomsN_mid]
    have hL1 := flatten_length (L1.map (·.2))
    simp -implicitDefEqProofs [headP]
    refine item_ev hn ?_
    simp -implicitDefEqProofs [RunV.cells]
    refine rlen_ev (x := y) ?_
    simp -implicitDefEqProofs [RunV.cells]
    obtain ⟨J, hJ⟩ : ∃ J : Nat → List AVal → AHeap → Prop, J = fun n env h' => ∃ (i : Nat) (v : AVal), i + n = y.text.length ∧ Old h h' ∧ Mine h h' 7 ((flat (L1.map (·.2)) ++ (atomsOf y).take i).map AtV.cells) v ∧
      env = (.dead :: .dead :: .dead :: v :: .ptr a 0 :: .cell y.cells :: .dead :: .dead :: .dead :: .dead :: .dead :: .dead :: .dead :: .dead :: .dead :: .dead :: .dead :: .dead :: .int .i64 (y.text.length : Nat) :: .int .i64 (i : Nat) :: .dead :: .dead :: .dead :: .dead :: .dead :: .dead :: .dead :: .dead :: .dead :: .dead :: []) := ⟨_, rfl⟩
    refine loop_of J ?_ y.text.length (by rw [hJ]; exact ⟨0, v, by omega, ho, by simpa using hm, rfl⟩)
    intro n env h2 hj
    rw [hJ] at hj
    obtain ⟨i, v2, hin, ho2, hm2, rfl⟩ := hj
    by_cases hlt : i < y.text.length
    · have hb := List.getElem?_eq_getElem hlt
      have w1 : IntKind.i64.wrap ((i : Int) + 1) = ((i + 1 : Nat) : Int) := by rw [w64 (by omega) (by omega)]; omega
      simp -implicitDefEqProofs [hlt, RunV.cells]
      refine atom_ev (x := y) hy hb ?_
      have hle : ((flat (L1.map (·.2)) ++ (atomsOf y).take i).map AtV.cells).length = atomsN (L1.map (·.2)) + i := by
        rw [List.length_map, List.length_append, hL1, List.length_take, atomsOf_len]; omega
      obtain ⟨v3, h3, k1, k2, k3⟩ := Mine.append1 (bytes := 32) (e := (y.atom i y.text[i]).cells) (hm2.keep ((Old.refl h2).push (.row 7 false (y.atom i y.text[i]).cells))) (by decide) rfl (by rw [hle]; omega) (ho2.push (.row 7 false (y.atom i y.text[i]).cells))
      have k1' := k1
      simp only [AtV.cells] at k1'
      simp -implicitDefEqProofs [hlt, RunV.cells, AtV.cells, buildSliceR, reps, k1', w1]
      refine .mk (m := n - 1) (by omega) (by
        rw [hJ]
        refine ⟨i + 1, v3, by omega, k3, ?_, rfl⟩
        have : (atomsOf y).take (i + 1) = (atomsOf y).take i ++ [y.atom i y.text[i]] := by
          have hg : (atomsOf y)[i]? = some (y.atom i y.text[i]) := by rw [atomsOf_get, hb]; rfl
          obtain ⟨l1, l2⟩ := List.getElem?_eq_some_iff.1 hg
          rw [List.take_succ_eq_append_getElem l1, l2]
        rw [this, ← List.append_assoc, List.map_append]
        exact k2)
    · have hii : i = y.text.length := by omega
      subst hii
      rw [List.take_of_length_le (by rw [atomsOf_len]; exact Nat.le_refl _)] at hm2
      simp -implicitDefEqProofs [hlt]
      refine rope_next (a1.old ho2).1.rp.tree a1.rp.nd hT ?_
      simp -implicitDefEqProofs
      refine .mk (m := L2.length) (by simp) (by rw [hI]; exact ⟨L1 ++ [(a, y)], L2, v2, by rw [hT]; simp, rfl, ho2, by simpa [flat_append] using hm2, rfl⟩)
end
end Go.Proofs.YtlhlbamcgopiiaaGreatDoor
set_option linter.all false
set_option maxRecDepth 100000
set_option maxHeartbeats 4000000
namespace Go.Proofs.YtlhlbamcgopiiaaGreatDoor
open Go Go.RowKit Go.Proofs
/-- an append touches nothing but its own row -/
theorem app_frame {sz b n : Nat} {h h' : AHeap} {v v' : AVal} {new : List AVal} (e : appCore sz b h v n new = .ok (v', h')) (hv : notSlc v) : h.next ≤ h'.next ∧ (∀ o, o < h.next → ¬ vobj v o → h'.get o = h.get o) ∧ ∀ o, vobj v' o → vobj v o ∨ h.next ≤ o := by
  unfold appCore at e
  cases v <;> simp only at e <;> try (cases e; done)
  · split at e
    · cases e; exact ⟨Nat.le_refl _, fun _ _ _ => rfl, fun o ho => ho.elim⟩
    · split at e
      · cases e
      · cases e
        refine ⟨by simp, fun o ho _ => by rw [AHeap.get_push, if_neg (by omega)], fun o ho => ?_⟩
        have : o = h.next := ho
        exact .inr (by omega)
  · rename_i q off len
    split at e
    · rename_i esz fz vs hg
      split at e
      · split at e
        · cases hov : overR vs (off + len * sz) new with
          | err m => rw [hov] at e; cases e
          | ok ws =>
            rw [hov] at e
            cases e
            refine ⟨Nat.le_refl _, fun o ho hn => get_set_ne (fun e2 => hn e2.symm), fun o ho => .inl ho⟩
        · split at e
          · cases e
          · cases htk : takeR vs off (len * sz) with
            | err m => rw [htk] at e; cases e
            | ok ws =>
              rw [htk] at e
              cases e
              refine ⟨by simp, fun o ho hn => ?_, fun o ho => ?_⟩
              · rw [AHeap.get_push, if_neg (by simp; omega), AHeap.get_del, if_neg (fun e2 : o = q => hn e2)]
              · have : o = (h.del q).next := ho
                simp at this
                exact .inr (by omega)
      · cases e
    · cases e
  · exact (hv _ _ _ _ rfl).elim
  · split at e
    · cases e; exact ⟨Nat.le_refl _, fun _ _ _ => rfl, fun o ho => .inl ho⟩
    · cases e
theorem Mine.keepO {h0 h h' : AHeap} {sz : Nat} {es : List (List AVal)} {v : AVal} (m : Mine h0 h sz es v) (k : ∀ o, vobj v o → h'.get o = h.get o) (hn : h.next ≤ h'.next) : Mine h0 h' sz es v := by
  obtain ⟨m1, m2⟩ := m
  refine ⟨m1, m2.imp_right ?_⟩
  rintro ⟨q, fz, rfl, g1, g2, g3⟩
  exact ⟨q, fz, rfl, g1, Nat.lt_of_lt_of_le g2 hn, by rw [k q rfl]; exact g3⟩
theorem Mine.obj {h0 h : AHeap} {sz : Nat} {es : List (List AVal)} {v : AVal} (m : Mine h0 h sz es v) : ∀ o, vobj v o → h0.next ≤ o ∧ o < h.next := by
  obtain ⟨_, ⟨_, rfl⟩ | ⟨q, fz, rfl, g1, g2, _⟩⟩ := m
  · exact fun o ho => ho.elim
  · intro o ho
    have : o = q := ho
    subst this; exact ⟨g1, g2⟩
theorem atIx_some {A : List AtV} {r n i : Nat} {a : AtV} (ha : A[i]? = some a) (h1 : a.r = r ∧ a.n = n) (h2 : ∀ j b, j < i → A[j]? = some b → ¬ (b.r = r ∧ b.n = n)) : atIx A r n = some i := by
  unfold atIx
  rw [List.findIdx?_eq_some_iff_getElem]
  obtain ⟨l, e⟩ := List.getElem?_eq_some_iff.1 ha
  refine ⟨l, by rw [e]; exact decide_eq_true h1, fun j hj => ?_⟩
  have := h2 j A[j] hj (List.getElem?_eq_getElem (by omega))
  simpa using this
theorem atIx_no {A : List AtV} {r n : Nat} (h : ∀ (j : Nat) (b : AtV), A[j]? = some b → ¬ (b.r = r ∧ b.n = n)) : atIx A r n = none := by
  unfold atIx
  rw [List.findIdx?_eq_none_iff]
  intro a ha
  obtain ⟨j, hj⟩ := List.mem_iff_getElem?.1 ha
  simpa using h j a hj
theorem atIx_lt {A : List AtV} {r n i : Nat} (h : atIx A r n = some i) : i < A.length := by
  unfold atIx at h
  rw [List.findIdx?_eq_some_iff_getElem] at h
  exact h.1
theorem StA.len {zT : List AVal} {h : AHeap} {s : Nat} {O : Nat → Prop} {A : List AtV} (S : StA zT h s O A) : A.length ≤ 65536 := by
  obtain ⟨m, t, ix, a1, a2, a3, a4, a5, a6, a7⟩ := S
  rw [← a5, flatten_length]; exact a4
theorem StA.keep {zT : List AVal} {h h' : AHeap} {s : Nat} {O : Nat → Prop} {A : List AtV} (S : StA zT h s O A) (o : Old h h') : StA zT h' s O A := by
  obtain ⟨m, t, ix, a1, a2, a3, a4, a5, a6, rfl⟩ := S
  have kk : ∀ q, IObj m h q → h'.get q = h.get q := fun q hq => o.2 q (a1.lt q (.inr (.inr hq)))
  refine ⟨m, t, ix, (a1.old o).1, a2, a3, a4, a5, a6, funext fun q => propext ?_⟩
  unfold SOwn
  rw [IObj.keep a1 kk]
theorem Stp.ofOld {h h' : AHeap} (O : Nat → Prop) (o : Old h h') : Stp h O h' O := ⟨o.1, fun q hq _ => o.2 q hq, fun _ h => .inl h⟩
theorem StA.num {zT : List AVal} {h : AHeap} {s : Nat} {O : Nat → Prop} {A : List AtV} (S : StA zT h s O A) : ∀ a ∈ A, a.n < 2 ^ 29 ∧ a.en < 2 ^ 29 := by
  obtain ⟨m, t, ix, a1, a2, a3, a4, a5, a6, a7⟩ := S
  intro a ha
  rw [← a5] at ha
  obtain ⟨l, hl, ha⟩ := List.mem_flatten.1 ha
  obtain ⟨x, hx, rfl⟩ := List.mem_map.1 hl
  obtain ⟨p, hp, rfl⟩ := List.mem_map.1 hx
  obtain ⟨i, hi⟩ := List.mem_iff_getElem?.1 ha
  rw [atomsOf_get] at hi
  have := a2.ok p hp
  cases hx2 : p.2.text[i]? with
  | none => rw [hx2] at hi; cases hi
  | some b =>
    rw [hx2] at hi
    cases hi
    have h1 := (List.getElem?_eq_some_iff.1 hx2).1
    have h2 := this.n2
    have h3 := this.e2
    exact ⟨by simp only []; omega, by simp only []; omega⟩
/-! the document's functions -/
def ixI : Option Nat → Int
  | some i => i
  | none => -1
theorem elpo_off {c : Cfg} {h : AHeap} {sz : Nat} {v : AVal} {es : List (List AVal)} (s : Sl c h sz v es) {i d e : Nat} (hi : i < es.length) : addOff (elpo v sz i d) e = .ok (elpo v sz i (d + e)) := by
  obtain ⟨vs, f, h1, _⟩ := s.row (by intro h; subst h; simp at hi)
  cases v <;> simp only [rowOf] at h1 <;> first | (cases h1; done) | (simp only [elpo, addOff, Nat.add_assoc])
end Go.Proofs.YtlhlbamcgopiiaaGreatDoor
