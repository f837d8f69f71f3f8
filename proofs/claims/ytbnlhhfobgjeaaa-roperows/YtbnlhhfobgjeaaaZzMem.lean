/-
  Memory: what the abstract heap's reads and writes are in the model's memory.
-/
import Derived.Test.YtbnlhhfobgjeaaaZzRel
import Derived.Laws.CopyRow
set_option linter.all false
namespace Go.Proofs.Ytbnlhhfobgjeaaa
open Go Go.RowKit

/-! ### the heap by number -/
theorem Tr.get_setF {α : Type} : ∀ (f : Nat) (t : Tr α) (n : Nat) (x : Option α) (m : Nat), n < f → (Tr.setF f t n x).get m = if m = n then x else t.get m
  | 0, _, _, _, _, h => by omega
  | f + 1, .nil, n, x, m, h => by
    have e1 := Tr.get_setF f (.nil : Tr α) (n / 2) x (m / 2)
    have e2 := Tr.get_setF f (.nil : Tr α) (n / 2 - 1) x (m / 2 - 1)
    simp only [Tr.setF]
    by_cases hn : n = 0
    · subst hn; simp only [if_true, Tr.get]
      by_cases hm : m = 0
      · simp [hm]
      · simp only [hm, if_false]; split <;> rfl
    · simp only [hn, if_false]
      by_cases ho : n % 2 = 1
      · simp only [ho, if_true, Tr.get]
        rw [e1 (by omega)]
        by_cases hm : m = 0
        · subst hm; simp [Ne.symm hn]
        · simp only [hm, if_false]
          by_cases hmo : m % 2 = 1
          · simp only [hmo, if_true, Tr.get]
            have : (m / 2 = n / 2) = (m = n) := by apply propext; omega
            simp only [this]
          · simp only [hmo, if_false]
            rw [if_neg (by omega)]
      · simp only [ho, if_false, Tr.get]
        rw [e2 (by omega)]
        by_cases hm : m = 0
        · subst hm; simp [Ne.symm hn]
        · simp only [hm, if_false]
          by_cases hmo : m % 2 = 1
          · simp only [hmo, if_true]
            rw [if_neg (by omega)]
          · simp only [hmo, if_false, Tr.get]
            have : (m / 2 - 1 = n / 2 - 1) = (m = n) := by apply propext; omega
            simp only [this]
  | f + 1, .node v l r, n, x, m, h => by
    have e1 := Tr.get_setF f l (n / 2) x (m / 2)
    have e2 := Tr.get_setF f r (n / 2 - 1) x (m / 2 - 1)
    simp only [Tr.setF]
    by_cases hn : n = 0
    · subst hn; simp only [if_true, Tr.get]
      by_cases hm : m = 0
      · simp [hm]
      · simp [hm]
    · simp only [hn, if_false]
      by_cases ho : n % 2 = 1
      · simp only [ho, if_true, Tr.get]
        rw [e1 (by omega)]
        by_cases hm : m = 0
        · subst hm; simp [Ne.symm hn]
        · simp only [hm, if_false]
          by_cases hmo : m % 2 = 1
          · simp only [hmo, if_true]
            have : (m / 2 = n / 2) = (m = n) := by apply propext; omega
            simp only [this]
          · simp only [hmo, if_false]
            rw [if_neg (by omega)]
      · simp only [ho, if_false, Tr.get]
        rw [e2 (by omega)]
        by_cases hm : m = 0
        · subst hm; simp [Ne.symm hn]
        · simp only [hm, if_false]
          by_cases hmo : m % 2 = 1
          · simp only [hmo, if_true]
            rw [if_neg (by omega)]
          · simp only [hmo, if_false]
            have : (m / 2 - 1 = n / 2 - 1) = (m = n) := by apply propext; omega
            simp only [this]

theorem AHeap.get_set (h : AHeap) (o : Nat) (x : AObj) (p : Nat) : (h.set o x).get p = if p = o then some x else h.get p := by
  simp [AHeap.get, AHeap.set, Tr.get_setF]
theorem AHeap.get_del (h : AHeap) (o p : Nat) : (h.del o).get p = if p = o then none else h.get p := by
  simp [AHeap.get, AHeap.del, Tr.get_setF]
theorem AHeap.get_push (h : AHeap) (x : AObj) (p : Nat) : (h.push x).get p = if p = h.next then some x else h.get p := by
  simp [AHeap.get, AHeap.push, Tr.get_setF]
@[simp] theorem AHeap.next_set (h : AHeap) (o : Nat) (x : AObj) : (h.set o x).next = h.next := rfl
@[simp] theorem AHeap.next_del (h : AHeap) (o : Nat) : (h.del o).next = h.next := rfl
@[simp] theorem AHeap.next_push (h : AHeap) (x : AObj) : (h.push x).next = h.next + 1 := rfl

/-! ### new places -/
def upd (ι : Inj) (o : Nat) (e : Ent) : Inj := fun p => if p = o then some e else ι p

theorem upd_self (ι : Inj) (o : Nat) (e : Ent) : upd ι o e o = some e := by simp [upd]
theorem upd_sub {ι : Inj} {o : Nat} (e : Ent) (h : ι o = none) : Sub ι (upd ι o e) := by
  intro p f hp
  unfold upd
  split
  · rename_i h'; rw [h', h] at hp; cases hp
  · exact hp

/-- a new block, and an object that lies there -/
theorem Rel.push {F : Fix} {ι : Inj} {h : AHeap} {w : World} (r : Rel F ι h w) (fr : Fresh ι h.next (h.next + 1)) (ob : Obj) (x : AObj) (e : Ent)
    (he : e.blk = w.heap.size) (hx : ObjRel (upd ι h.next e) F.ρ { w with heap := w.heap.push ob } e x) :
    Rel F (upd ι h.next e) (h.push x) { w with heap := w.heap.push ob } ∧ Step ι h w (upd ι h.next e) (h.push x) { w with heap := w.heap.push ob } := by
  have hnone : ι h.next = none := fr _ (Nat.le_refl _) (Nat.lt_succ_self _)
  have hs := upd_sub e hnone
  have hold : ∀ k, k < w.heap.size → ({ w with heap := w.heap.push ob } : World).heap[k]? = w.heap[k]? := by
    intro k hk; simp [Array.getElem?_push, Nat.ne_of_lt hk]
  have hkeep : Keep (Own ι h) w { w with heap := w.heap.push ob } := ⟨rfl, rfl, rfl, by simp, fun k hk _ => hold k hk⟩
  have hobj : ∀ o y, (h.push x).get o = some y → (o = h.next ∧ y = x) ∨ (o ≠ h.next ∧ h.get o = some y) := by
    intro o y ho
    rw [AHeap.get_push] at ho
    split at ho
    · left; simp_all
    · right; exact ⟨by assumption, ho⟩
  refine ⟨⟨hkeep.below r.below (Nat.le_refl _) r.own_ge, ?_, ?_, ?_⟩, ⟨hs, ?_, by simp, hkeep, ?_⟩⟩
  · intro o y ho
    rcases hobj o y ho with ⟨rfl, rfl⟩ | ⟨hne, ho'⟩
    · refine ⟨e, upd_self _ _ _, ?_, hx⟩
      rw [he]; exact r.below.size
    · obtain ⟨f, h1, h2, h3⟩ := r.obj o y ho'
      refine ⟨f, by simp [upd, hne, h1], h2, h3.mono hs (hold _ h3.lt)⟩
  · intro o o' y y' f f' h1 h2 h3 h4 h5
    rcases hobj o y h1 with ⟨rfl, rfl⟩ | ⟨hne, h1'⟩ <;> rcases hobj o' y' h2 with ⟨h6, h7⟩ | ⟨hne', h2'⟩
    · exact h6.symm
    · exfalso
      obtain ⟨g, g1, _, g3⟩ := r.obj o' y' h2'
      simp [upd, hne', g1] at h4; subst h4
      simp [upd] at h3; subst h3
      have := g3.lt; omega
    · exfalso
      obtain ⟨g, g1, _, g3⟩ := r.obj o y h1'
      subst h6
      simp [upd, hne, g1] at h3; subst h3
      simp [upd] at h4; subst h4
      have := g3.lt; omega
    · simp [upd, hne] at h3
      simp [upd, hne'] at h4
      exact r.inj o o' y y' f f' h1' h2' h3 h4 h5
  · intro o y ho
    rcases hobj o y ho with ⟨rfl, rfl⟩ | ⟨_, ho'⟩
    · simp
    · have := r.lt o y ho'; simp; omega
  · intro o
    by_cases ho : o = h.next
    · subst ho; right; right; simp
    · right; left; simp [upd, ho]
  · rintro b ⟨o, y, f, h1, h2, rfl⟩
    rcases hobj o y h1 with ⟨rfl, rfl⟩ | ⟨hne, h1'⟩
    · right; simp [upd] at h2; subst h2; omega
    · left; exact ⟨o, y, f, h1', by simpa [upd, hne] using h2, rfl⟩

/-- an object is another one now -/
theorem Rel.set {F : Fix} {ι : Inj} {h : AHeap} {w w' : World} (r : Rel F ι h w) {o : Nat} {x : AObj} {e : Ent} (y : AObj) (ho : h.get o = some x) (he : ι o = some e)
    (hk : Keep (fun b => b = e.blk) w w') (hy : ObjRel ι F.ρ w' e y) : Rel F ι (h.set o y) w' ∧ Step ι h w ι (h.set o y) w' := by
  obtain ⟨e', h1, h2, h3⟩ := r.obj o x ho
  rw [he] at h1; cases h1
  have hkeep : Keep (Own ι h) w w' := hk.mono fun j _ hj => ⟨o, x, e, ho, he, hj.symm⟩
  have hobj : ∀ p z, (h.set o y).get p = some z → (p = o ∧ z = y) ∨ (p ≠ o ∧ h.get p = some z) := by
    intro p z hp
    rw [AHeap.get_set] at hp
    split at hp
    · left; simp_all
    · right; exact ⟨by assumption, hp⟩
  refine ⟨⟨hkeep.below r.below (Nat.le_refl _) r.own_ge, ?_, ?_, ?_⟩, ⟨Sub.refl _, fun p => .inr (.inl rfl), by simp, hkeep, ?_⟩⟩
  · intro p z hp
    rcases hobj p z hp with ⟨rfl, rfl⟩ | ⟨hne, hp'⟩
    · exact ⟨e, he, h2, hy⟩
    · obtain ⟨f, f1, f2, f3⟩ := r.obj p z hp'
      refine ⟨f, f1, f2, f3.mono (Sub.refl _) (hk.block _ f3.lt fun hb => ?_)⟩
      exact hne (r.inj p o z x f e hp' ho f1 he hb)
  · intro p p' z z' f f' a1 a2 a3 a4 a5
    rcases hobj p z a1 with ⟨rfl, rfl⟩ | ⟨_, a1'⟩ <;> rcases hobj p' z' a2 with ⟨h6, h7⟩ | ⟨_, a2'⟩
    · exact h6.symm
    · exact r.inj _ _ _ _ _ _ ho a2' a3 a4 a5
    · subst h6; exact r.inj _ _ _ _ _ _ a1' ho a3 a4 a5
    · exact r.inj _ _ _ _ _ _ a1' a2' a3 a4 a5
  · intro p z hp
    rcases hobj p z hp with ⟨rfl, rfl⟩ | ⟨_, hp'⟩
    · exact r.lt _ _ ho
    · exact r.lt _ _ hp'
  · rintro b ⟨p, z, f, a1, a2, rfl⟩
    left
    rcases hobj p z a1 with ⟨rfl, rfl⟩ | ⟨_, a1'⟩
    · exact ⟨_, x, f, ho, a2, rfl⟩
    · exact ⟨p, z, f, a1', a2, rfl⟩

/-- the heap's reading does not hang on how much was drawn -/
theorem Rel.drawn {F : Fix} {ι : Inj} {h : AHeap} {w : World} (r : Rel F ι h w) (n : Nat) : Rel F ι h { w with drawn := n } :=
  ⟨⟨r.below.os, r.below.tape, r.below.output, r.below.size, r.below.block⟩, fun o x ho => let ⟨e, h1, h2, h3⟩ := r.obj o x ho; ⟨e, h1, h2, h3.mono (Sub.refl _) rfl⟩, r.inj, r.lt⟩
theorem Step.drawn (ι : Inj) (h : AHeap) (w : World) (n : Nat) : Step ι h w ι h { w with drawn := n } :=
  ⟨Sub.refl _, fun _ => .inr (.inl rfl), Nat.le_refl _, ⟨rfl, rfl, rfl, Nat.le_refl _, fun _ _ _ => rfl⟩, fun _ hb => .inl hb⟩

/-- an object goes -/
theorem Rel.del {F : Fix} {ι : Inj} {h : AHeap} {w : World} (r : Rel F ι h w) (o : Nat) : Rel F ι (h.del o) w := by
  have hobj : ∀ p z, (h.del o).get p = some z → h.get p = some z := by
    intro p z hp; rw [AHeap.get_del] at hp; split at hp
    · cases hp
    · exact hp
  exact ⟨r.below, fun p z hp => r.obj p z (hobj p z hp), fun p p' z z' e e' h1 h2 => r.inj p p' z z' e e' (hobj _ _ h1) (hobj _ _ h2), fun p z hp => r.lt p z (hobj p z hp)⟩

theorem Own.del {ι : Inj} {h : AHeap} {o b : Nat} (hb : Own ι (h.del o) b) : Own ι h b := by
  obtain ⟨p, z, e, h1, h2, h3⟩ := hb
  rw [AHeap.get_del] at h1; split at h1
  · cases h1
  · exact ⟨p, z, e, h1, h2, h3⟩

/-! ### runs -/
variable {P : Program}

theorem add_none (b o n : Nat) : (⟨b, o, none⟩ : Addr).add n = ⟨b, o + n, none⟩ := by unfold Addr.add; split <;> simp_all

theorem run_typeInfo' {t : Nat} {i : TypeInfo} (h : P.info? t = some i) (w : World) : (typeInfo t).run P w = .ok i w := by simp [typeInfo, h]
theorem run_sizeOf' {t : Nat} {i : TypeInfo} (h : P.info? t = some i) (w : World) : (sizeOf t).run P w = .ok i.size w := by simp [sizeOf, run_typeInfo' h]
theorem run_und {t : Nat} {d : TypeDesc} (h : P.underlying t = some d) (w : World) : (underlying t).run P w = .ok d w := by simp [underlying, h]
theorem run_isAgg' {t : Nat} {d : TypeDesc} (h : P.underlying t = some d) (w : World) : (isAgg t).run P w = .ok (isAggD d) w := by
  simp only [isAgg, Sem.run_bind, run_und h, Result.andThen_ok]
  cases d <;> rfl
theorem run_zero {t : Nat} {i : TypeInfo} {z : Value} (h : P.info? t = some i) (hz : i.zero = some z) (w : World) : (zeroValue t).run P w = .ok z w := by
  simp [zeroValue, run_typeInfo' h, hz]

theorem infoR_ok {t : Nat} {i : TypeInfo} (h : infoR P t = .ok i) : P.info? t = some i := by
  unfold infoR ofOpt at h; split at h <;> simp_all
theorem undR_ok {t : Nat} {d : TypeDesc} (h : undR P t = .ok d) : P.underlying t = some d := by
  unfold undR ofOpt at h; split at h <;> simp_all
theorem Res.bind_ok {α β : Type} {m : Res α} {f : α → Res β} {b : β} (h : m.bind f = .ok b) : ∃ a, m = .ok a ∧ f a = .ok b := by
  cases m with
  | ok a => exact ⟨a, rfl, h⟩
  | err n => simp [Res.bind] at h
theorem ofOpt_ok {α : Type} {n : Nat} {x : Option α} {a : α} (h : ofOpt n x = .ok a) : x = some a := by
  cases x <;> simp_all [ofOpt]
theorem sizeR_ok {t n : Nat} (h : sizeR P t = .ok n) : ∃ i, P.info? t = some i ∧ i.size = n := by
  obtain ⟨i, h1, h2⟩ := Res.bind_ok h; cases h2; exact ⟨i, infoR_ok h1, rfl⟩
theorem run_size {t n : Nat} (h : sizeR P t = .ok n) (w : World) : (sizeOf t).run P w = .ok n w := by
  obtain ⟨i, h1, rfl⟩ := sizeR_ok h; exact run_sizeOf' h1 w
theorem isAggR_ok {t : Nat} {b : Bool} (h : isAggR P t = .ok b) (w : World) : (isAgg t).run P w = .ok b w := by
  obtain ⟨d, h1, h2⟩ := Res.bind_ok h; cases h2; exact run_isAgg' (undR_ok h1) w
theorem nthR_ok {l : List AVal} {n : Nat} {a : AVal} (h : nthR l n = .ok a) : l[n]? = some a := by
  induction l generalizing n with
  | nil => simp [nthR] at h
  | cons b l ih => cases n with
    | zero => simp [nthR] at h; simp [h]
    | succ n => simp [nthR] at h; simpa using ih h
theorem takeR_ok {l cs : List AVal} {off n : Nat} (h : takeR l off n = .ok cs) : off + n ≤ l.length ∧ cs = (l.drop off).take n := by
  unfold takeR at h; split at h
  · cases h; exact ⟨by assumption, rfl⟩
  · cases h
theorem overR_ok {l cs r : List AVal} {off : Nat} (h : overR l off cs = .ok r) : off + cs.length ≤ l.length ∧ r = l.take off ++ cs ++ l.drop (off + cs.length) := by
  unfold overR at h; split at h
  · cases h; exact ⟨by assumption, rfl⟩
  · cases h

/-- cells that are there, and what they stand for -/
def CellsAt (ι : Inj) (ρ : RoMap) (w : World) (b x : Nat) (vs : List AVal) : Prop :=
  ∀ (j : Nat) (a : AVal), vs[j]? = some a → ∃ v, w.cell? ⟨b, x + j, none⟩ = some v ∧ oneC v = true ∧ VRel ι ρ a v

theorem CellsAt.sub {ι : Inj} {ρ : RoMap} {w : World} {b x : Nat} {vs : List AVal} (h : CellsAt ι ρ w b x vs) (off n : Nat) : CellsAt ι ρ w b (x + off) ((vs.drop off).take n) := by
  intro j a hj
  rw [List.getElem?_take] at hj
  split at hj
  · rw [List.getElem?_drop] at hj
    obtain ⟨v, h1, h2⟩ := h _ _ hj
    exact ⟨v, by rw [Nat.add_assoc]; exact h1, h2⟩
  · cases hj

/-- a list of cells read -/
theorem CellsAt.load {ι : Inj} {ρ : RoMap} {w : World} {b x : Nat} {vs : List AVal} (h : CellsAt ι ρ w b x vs) :
    ∃ cs : List Value, (loadCells ⟨b, x, none⟩ vs.length).run P w = .ok cs.toArray w ∧ VRels ι ρ vs cs ∧ ∀ v ∈ cs, oneC v = true := by
  have hex : ∃ cs : List Value, cs.length = vs.length ∧ (∀ (j : Nat) (v : Value), cs[j]? = some v → w.cell? ⟨b, x + j, none⟩ = some v) ∧ VRels ι ρ vs cs ∧ ∀ v ∈ cs, oneC v = true := by
    induction vs generalizing x with
    | nil => exact ⟨[], rfl, by simp, rfl, by simp⟩
    | cons a as ih =>
      obtain ⟨v, h1, h2, h3⟩ := h 0 a rfl
      obtain ⟨cs, c1, c2, c3, c4⟩ := ih (x := x + 1) (fun j a' hj => by
        obtain ⟨u, u1, u2⟩ := h (j + 1) a' (by simpa using hj)
        exact ⟨u, by rw [show x + 1 + j = x + (j + 1) by omega]; exact u1, u2⟩)
      refine ⟨v :: cs, by simp [c1], ?_, ⟨v, cs, rfl, h3, c3⟩, ?_⟩
      · intro j u hj
        cases j with
        | zero => simp at hj; subst hj; simpa using h1
        | succ j => have := c2 j u (by simpa using hj); rw [show x + (j + 1) = x + 1 + j by omega]; exact this
      · intro u hu; rcases List.mem_cons.1 hu with rfl | hu
        · exact h2
        · exact c4 u hu
  obtain ⟨cs, c1, c2, c3, c4⟩ := hex
  refine ⟨cs, ?_, c3, c4⟩
  have := run_loadCells_list (P := P) (w := w) ⟨b, x, none⟩ cs (fun j v hj => by rw [add_none]; exact c2 j v hj)
  rw [c1] at this
  exact this

/-- a value of a type read -/
theorem CellsAt.loadVar {ι : Inj} {ρ : RoMap} {w : World} {b x t off : Nat} {vs : List AVal} {a : AVal} (h : CellsAt ι ρ w b x vs) (hp : partR P t vs off = .ok a) :
    ∃ v, (loadVar t ⟨b, x + off, none⟩).run P w = .ok v w ∧ VRel ι ρ a v := by
  obtain ⟨ag, h1, h2⟩ := Res.bind_ok hp
  cases ag with
  | true =>
    obtain ⟨n, h3, h4⟩ := Res.bind_ok h2
    obtain ⟨cs, h5, h6⟩ := Res.bind_ok h4
    cases h6
    obtain ⟨h7, rfl⟩ := takeR_ok h5
    obtain ⟨c, c1, c2, c3⟩ := (h.sub off n).load (P := P)
    have hl : ((vs.drop off).take n).length = n := by simp; omega
    rw [hl] at c1
    refine ⟨.agg c.toArray, ?_, ⟨_, rfl, by simpa using c2, by simpa using c3⟩⟩
    simp [Go.loadVar, isAggR_ok h1, run_size h3, c1]
  | false =>
    have h3 := nthR_ok h2
    obtain ⟨v, h4, h5, h6⟩ := h off a h3
    exact ⟨v, by simp [Go.loadVar, isAggR_ok h1, h4], h6⟩

/-- the part of a value -/
theorem part_ok {ι : Inj} {ρ : RoMap} {w : World} {t off : Nat} {vs : List AVal} {cs : Array Value} {a : AVal} (h : VRels ι ρ vs cs.toList) (ho : ∀ v ∈ cs.toList, oneC v = true)
    (hp : partR P t vs off = .ok a) : ∃ v, (part t cs off).run P w = .ok v w ∧ VRel ι ρ a v := by
  obtain ⟨ag, h1, h2⟩ := Res.bind_ok hp
  cases ag with
  | true =>
    obtain ⟨n, h3, h4⟩ := Res.bind_ok h2
    obtain ⟨l, h5, h6⟩ := Res.bind_ok h4
    cases h6
    obtain ⟨h7, rfl⟩ := takeR_ok h5
    refine ⟨.agg (cs.extract off (off + n)), by simp [part, isAggR_ok h1, run_size h3], ⟨_, rfl, ?_, ?_⟩⟩
    · have := (h.drop off).take n
      simpa [Array.toList_extract, List.extract_eq_take_drop] using this
    · intro x hx
      apply ho
      simp [Array.toList_extract, List.extract_eq_take_drop] at hx
      exact List.mem_of_mem_drop (List.mem_of_mem_take hx)
  | false =>
    obtain ⟨v, h4, h5⟩ := h.get (nthR_ok h2)
    have : cs[off]? = some v := by simpa using h4
    exact ⟨v, by simp [part, isAggR_ok h1, this], h5⟩

/-- cells written -/
theorem run_storeCells' (g o : Nat) (T : TypeId) (fr : Nat × Nat) : ∀ (vs : List Value) (i : Nat) (cur : Array Value) (w : World), w.heap[g]? = some (.cells cur T fr) →
    (fr.2 ≤ fr.1 ∨ cur.size ≤ fr.1) → o + i + vs.length ≤ cur.size → (∀ v ∈ vs, oneC v = true) →
    (storeCells ⟨g, o, none⟩ vs i).run P w = .ok () (w.setRow g (cur.toList.take (o + i) ++ vs ++ cur.toList.drop (o + i + vs.length)).toArray)
  | [], i, cur, w, hg, _, _, _ => by
    simp only [storeCells, List.append_nil, List.length_nil, Nat.add_zero, List.take_append_drop, Array.toArray_toList]
    rw [setRow_self w g cur T fr hg]
    rfl
  | v :: rest, i, cur, w, hg, hf, hl, h1 => by
    have hi : o + i < cur.size := by simp at hl; omega
    have hcell : w.cell? ⟨g, o + i, none⟩ = some cur[o + i] := by simp [World.cell?, hg, hi]
    have hfro : w.frozen? ⟨g, o + i, none⟩ = false := by
      simp only [World.frozen?, hg]
      rcases hf with hf | hf
      · simp; omega
      · simp; omega
    have hst : (store ((⟨g, o, none⟩ : Addr).add i) v).run P w = .ok () (w.setRow g (cur.setIfInBounds (o + i) v)) := by
      rw [add_none, run_store P w _ v _ (by rw [oneC_eq]; exact h1 v (by simp)), hcell]
      simp [hfro, setCell_eq_setRow w g (o + i) cur T fr v hg]
    have ih := run_storeCells' g o T fr rest (i + 1) (cur.setIfInBounds (o + i) v) (w.setRow g (cur.setIfInBounds (o + i) v)) (setRow_heap w g cur _ T fr hg) (by simpa using hf) (by simp at hl ⊢; omega) (fun x hx => h1 x (by simp [hx]))
    simp only [storeCells, Sem.run_bind, hst, Result.andThen_ok, ih, setRow_setRow]
    congr 3
    have e := list_seg_step cur.toList (o + i) v rest (by simp at hl ⊢; omega)
    simpa [Array.toList_setIfInBounds, Nat.add_assoc] using e

theorem Keep.setRow (w : World) (g : Nat) (cs : Array Value) : Keep (fun b => b = g) w (w.setRow g cs) :=
  ⟨rfl, rfl, rfl, by simp, fun k _ hk => setRow_other w g k cs hk⟩

/-- a row, written from a place on -/
theorem ObjRel.over {ι : Inj} {ρ : RoMap} {w : World} {e : Ent} {esz : Nat} {fz : Bool} {vs cs vs' : List AVal} {off : Nat} {us : List Value} (h : ObjRel ι ρ w e (.row esz fz vs))
    (hov : overR vs off cs = .ok vs') (hu : VRels ι ρ cs us) (h1 : ∀ v ∈ us, oneC v = true) :
    ∃ row, (storeCells ⟨e.blk, e.base + off, none⟩ us 0).run P w = .ok () (w.setRow e.blk row) ∧ ObjRel ι ρ (w.setRow e.blk row) e (.row esz fz vs') := by
  obtain ⟨c, T, fr, a1, a2, a3, a4, a5, a6, a7, a8⟩ := h
  obtain ⟨b1, rfl⟩ := overR_ok hov
  have hlen := hu.length
  have hle : e.base + off + 0 + us.length ≤ c.size := by omega
  refine ⟨_, run_storeCells' e.blk (e.base + off) T fr us 0 c w a1 (a6.imp (fun h => by rw [h]; exact Nat.le_refl _) id) hle h1, ?_⟩
  refine ⟨_, T, fr, setRow_heap w e.blk c _ T fr a1, a2, ?_, ?_, a5, ?_, ?_, ?_⟩
  · simp; omega
  · simp; omega
  · simpa [Nat.min_eq_left (show e.base + off ≤ c.size by omega), show e.base + off + (us.length + (c.size - (e.base + off + us.length))) = c.size by omega] using a6
  · intro v hv
    simp at hv
    rcases hv with hv | hv | hv
    · exact a7 v (List.mem_of_mem_take hv)
    · exact h1 v hv
    · exact a7 v (List.mem_of_mem_drop hv)
  · intro j a hj
    simp only [Nat.add_zero, List.getElem?_toArray]
    rw [List.append_assoc, List.getElem?_append] at hj ⊢
    have hto : (vs.take off).length = off := by simp; omega
    have hto' : (c.toList.take (e.base + off)).length = e.base + off := by simp; omega
    rw [hto] at hj; rw [hto']
    by_cases hjo : j < off
    · simp only [hjo, if_true] at hj
      simp only [show e.base + j < e.base + off by omega, if_true]
      rw [List.getElem?_take] at hj ⊢
      simp only [hjo, show e.base + j < e.base + off by omega, if_true] at hj ⊢
      simpa using a8 j a hj
    · simp only [hjo, if_false] at hj
      simp only [show ¬ e.base + j < e.base + off by omega, if_false]
      rw [List.getElem?_append] at hj ⊢
      by_cases hjc : j - off < cs.length
      · simp only [hjc, if_true] at hj
        simp only [show e.base + j - (e.base + off) < us.length by omega, if_true]
        obtain ⟨v, v1, v2⟩ := hu.get hj
        exact ⟨v, by rw [show e.base + j - (e.base + off) = j - off by omega]; exact v1, v2⟩
      · simp only [hjc, if_false] at hj
        simp only [show ¬ e.base + j - (e.base + off) < us.length by omega, if_false]
        rw [List.getElem?_drop] at hj ⊢
        have e1 : off + cs.length + (j - off - cs.length) = j := by omega
        have e2 : e.base + off + us.length + (e.base + j - (e.base + off) - us.length) = e.base + j := by omega
        rw [e1] at hj; rw [e2]
        simpa using a8 j a hj

end Go.Proofs.Ytbnlhhfobgjeaaa
