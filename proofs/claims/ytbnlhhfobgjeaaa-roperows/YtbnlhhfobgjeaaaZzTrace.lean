/-
  A region whose order is drawn: its run in the order of the text, and what was seen on the way.
-/
import Derived.Test.YtbnlhhfobgjeaaaZzKinds
import Derived.Test.YtbnlhhfobgjeaaaZzExec
set_option linter.all false
namespace Go.Proofs.Ytbnlhhfobgjeaaa
open Go Go.RowKit

section
variable {C : CallR} {c : Cfg} {loc : List Nat} {al : List (Nat × Nat)} {bad : List Nat} {ops : Array Oper} {bef : Array Nat}

def histOk (bef : Array Nat) (i : Nat) (rd : AHeap → Res AVal) (v : AVal) (l : List (Nat × AHeap)) : Bool := l.all fun p => befB bef p.1 i || sameRes (rd p.2) v
def readsOk (bef : Array Nat) (i : Nat) (h : AHeap) (l : List (Nat × (AHeap → Res AVal) × AVal)) : Bool := l.all fun p => befB bef p.1 i || sameRes (p.2.1 h) p.2.2

theorem chkHist_ok {α : Type} {i : Nat} {rd : AHeap → Res AVal} {v : AVal} {K : Res α} {r : α} : ∀ {l : List (Nat × AHeap)}, chkHist (ansR C α) bef i rd v l K = .ok r → histOk bef i rd v l = true ∧ K = .ok r
  | [], h => ⟨rfl, h⟩
  | (j, g) :: l, h => by
    unfold chkHist at h
    cases hb : befB bef j i with
    | true =>
      rw [hb] at h
      obtain ⟨h1, h2⟩ := chkHist_ok h
      exact ⟨by unfold histOk at h1 ⊢; simp [hb, h1], h2⟩
    | false =>
      rw [hb] at h
      simp only [ansR] at h
      cases hs : sameRes (rd g) v with
      | true =>
        rw [hs] at h
        obtain ⟨h1, h2⟩ := chkHist_ok h
        exact ⟨by unfold histOk at h1 ⊢; simp [hb, hs, h1], h2⟩
      | false => rw [hs] at h; cases h

theorem chkReads_ok {α : Type} {i : Nat} {g : AHeap} {K : Res α} {r : α} : ∀ {l : List (Nat × (AHeap → Res AVal) × AVal)}, chkReads (ansR C α) bef i g l K = .ok r → readsOk bef i g l = true ∧ K = .ok r
  | [], h => ⟨rfl, h⟩
  | (j, rd, v) :: l, h => by
    unfold chkReads at h
    cases hb : befB bef j i with
    | true =>
      rw [hb] at h
      obtain ⟨h1, h2⟩ := chkReads_ok h
      exact ⟨by unfold readsOk at h1 ⊢; simp [hb, h1], h2⟩
    | false =>
      rw [hb] at h
      simp only [ansR] at h
      cases hs : sameRes (rd g) v with
      | true =>
        rw [hs] at h
        obtain ⟨h1, h2⟩ := chkReads_ok h
        exact ⟨by unfold readsOk at h1 ⊢; simp [hb, hs, h1], h2⟩
      | false => rw [hs] at h; cases h

theorem sameRes_ok {r : Res AVal} {v : AVal} (h : sameRes r v = true) : r = .ok v := by
  unfold sameRes at h
  split at h
  · rw [AVal.beq_eq _ _ h]
  · cases h

/-- what one step of the run in the text's order does -/
def SD (C : CallR) (c : Cfg) (loc : List Nat) (al : List (Nat × Nat)) (bad : List Nat) (ops : Array Oper) (bef : Array Nat) (i : Nat) (o : Oper) (s s' : RS) : Prop :=
  match kindOf c.P loc al o with
  | .read => ∃ v, readAt c bad ops s.env o s.base = .ok v ∧ histOk bef i (readAt c bad ops s.env o) v s.hist = true ∧ s' = { s with env := putD s.env o v, reads := (i, readAt c bad ops s.env o, v) :: s.reads }
  | .imp => ∃ p, stepP C c loc al bad ops o s.env s.h = .ok p ∧ readsOk bef i p.2 s.reads = true ∧ s' = { s with env := p.1, h := p.2, hist := (i, s.base) :: s.hist, base := p.2 }
  | .pure => ∃ p, stepP C c loc al bad ops o s.env s.h = .ok p ∧ s' = { s with env := p.1, h := p.2 }
  | .alloc => o.guard = none ∧ ∃ p, stepP C c loc al bad ops o s.env s.h = .ok p ∧ s' = { s with env := p.1, h := p.2 }

theorem stepD_ok {α : Type} {i : Nat} {o : Oper} {s : RS} {K : RS → Res α} {r : α} (h : stepD (ansR C α) c loc al bad ops bef i o s K = .ok r) : ∃ s', SD C c loc al bad ops bef i o s s' ∧ K s' = .ok r := by
  unfold stepD at h
  unfold SD
  cases hk : kindOf c.P loc al o with
  | read =>
    rw [hk] at h
    simp only at h ⊢
    obtain ⟨v, h1, h2⟩ := Res.bind_ok h
    obtain ⟨h3, h4⟩ := chkHist_ok h2
    exact ⟨_, ⟨v, h1, h3, rfl⟩, h4⟩
  | imp =>
    rw [hk] at h
    simp only at h ⊢
    rw [stepK_eq, step1_P, Res.bind_assoc] at h
    obtain ⟨p, h1, h2⟩ := Res.bind_ok h
    simp only [Res.ok_bind] at h2
    obtain ⟨h3, h4⟩ := chkReads_ok h2
    exact ⟨_, ⟨p, h1, h3, rfl⟩, h4⟩
  | pure =>
    rw [hk] at h
    simp only at h ⊢
    rw [stepK_eq, step1_P, Res.bind_assoc] at h
    obtain ⟨p, h1, h2⟩ := Res.bind_ok h
    exact ⟨_, ⟨p, h1, rfl⟩, h2⟩
  | alloc =>
    rw [hk] at h
    simp only at h ⊢
    cases hg : o.guard with
    | some g => rw [hg] at h; cases h
    | none =>
      rw [hg] at h
      simp only at h
      rw [stepK_eq, step1_P, Res.bind_assoc] at h
      obtain ⟨p, h1, h2⟩ := Res.bind_ok h
      exact ⟨_, ⟨rfl, p, h1, rfl⟩, h2⟩

theorem runDraw_trace {α : Type} {K : RS → Res α} {r : α} : ∀ (l : List Oper) (i : Nat) (s : RS), ops.toList.drop i = l → i ≤ ops.size → runDraw (ansR C α) c loc al bad ops bef i l s K = .ok r →
    ∃ T : Nat → RS, T i = s ∧ (∀ j, i ≤ j → j < ops.size → ∃ o, ops[j]? = some o ∧ SD C c loc al bad ops bef j o (T j) (T (j + 1))) ∧ K (T ops.size) = .ok r
  | [], i, s, hl, hi, hq => by
    have : i = ops.size := by
      have h1 : (ops.toList.drop i).length = 0 := by rw [hl]; rfl
      simp at h1; omega
    subst this
    exact ⟨fun _ => s, rfl, fun j h1 h2 => by omega, hq⟩
  | o :: l, i, s, hl, hi, hq => by
    unfold runDraw at hq
    obtain ⟨s', h1, h2⟩ := stepD_ok hq
    have hlt : i < ops.size := by
      have h1 : (ops.toList.drop i).length = l.length + 1 := by rw [hl]; rfl
      simp at h1; omega
    have hoi : ops[i]? = some o := by
      rw [← Array.getElem?_toList]
      have : (ops.toList.drop i)[0]? = some o := by rw [hl]; rfl
      simpa using this
    have hl' : ops.toList.drop (i + 1) = l := by
      rw [← List.drop_drop, hl]; rfl
    obtain ⟨T, t1, t2, t3⟩ := runDraw_trace l (i + 1) s' hl' hlt h2
    refine ⟨fun j => if j ≤ i then s else T j, by simp, fun j h3 h4 => ?_, ?_⟩
    · by_cases hj : j = i
      · subst hj
        refine ⟨o, hoi, ?_⟩
        have e1 : ¬ j + 1 ≤ j := by omega
        simp only [Nat.le_refl, if_true, e1, if_false, t1]; exact h1
      · obtain ⟨o', h5, h6⟩ := t2 j (by omega) h4
        refine ⟨o', h5, ?_⟩
        have e1 : ¬ j ≤ i := by omega
        have e2 : ¬ j + 1 ≤ i := by omega
        simp only [e1, e2, if_false]; exact h6
    · have e1 : ¬ ops.size ≤ i := by omega
      simp only [e1, if_false]; exact t3

/-! ### what is known of the run -/
structure Trace (C : CallR) (c : Cfg) (loc : List Nat) (al : List (Nat × Nat)) (bad : List Nat) (ops : Array Oper) (bef : Array Nat) (en : Nat → List AVal) (hs ba : Nat → AHeap) : Prop where
  ba0 : ba 0 = hs 0
  next : ∀ j, j < ops.size → (hs j).next ≤ (hs (j + 1)).next
  frame : ∀ j o, ops[j]? = some o → Like (writesOf loc al o) (en j) (en (j + 1)) (en (j + 1))
  ba_eq : ∀ j o, ops[j]? = some o → kindOf c.P loc al o ≠ .imp → ba (j + 1) = ba j
  pu : ∀ j o, ops[j]? = some o → kindOf c.P loc al o = .pure → hs (j + 1) = hs j ∧ ∀ g, stepP C c loc al bad ops o (en j) g = .ok (en (j + 1), g)
  al_ : ∀ j o, ops[j]? = some o → kindOf c.P loc al o = .alloc → ∃ x, hs (j + 1) = (hs j).push x ∧ ∀ g : AHeap, g.next = (hs j).next → stepP C c loc al bad ops o (en j) g = .ok (en (j + 1), g.push x)
  imp : ∀ j o, ops[j]? = some o → kindOf c.P loc al o = .imp → stepP C c loc al bad ops o (en j) (hs j) = .ok (en (j + 1), hs (j + 1)) ∧ ba (j + 1) = hs (j + 1)
  rd : ∀ j o, ops[j]? = some o → kindOf c.P loc al o = .read → hs (j + 1) = hs j ∧ ∀ p, p ≤ ops.size →
    (∀ k o', k < p → ops[k]? = some o' → kindOf c.P loc al o' = .imp → befB bef j k = false) →
    (∀ k o', p ≤ k → k < j → ops[k]? = some o' → kindOf c.P loc al o' = .imp → befB bef k j = false) →
    stepP C c loc al bad ops o (en j) (ba p) = .ok (en (j + 1), ba p)


theorem stepP_next (hC : Mono C) {o : Oper} {env : List AVal} {h : AHeap} {p : List AVal × AHeap} (hq : stepP C c loc al bad ops o env h = .ok p) : h.next ≤ p.2.next := by
  unfold stepP at hq
  obtain ⟨s, h1, h2⟩ := Res.bind_ok hq
  cases h2
  exact step1_next hC h1

theorem trace_of (hC : Mono C) (T : Nat → RS) (hT : ∀ j, j < ops.size → ∃ o, ops[j]? = some o ∧ SD C c loc al bad ops bef j o (T j) (T (j + 1))) (h0 : (T 0).base = (T 0).h) :
    Trace C c loc al bad ops bef (fun j => (T j).env) (fun j => (T j).h) (fun j => (T j).base) := by
  have hS : ∀ j o, ops[j]? = some o → SD C c loc al bad ops bef j o (T j) (T (j + 1)) := by
    intro j o ho
    obtain ⟨o', h1, h2⟩ := hT j (Array.getElem?_eq_some_iff.1 ho).1
    rw [ho] at h1; cases h1; exact h2
  have hlt : ∀ {j o}, ops[j]? = some o → j < ops.size := fun ho => (Array.getElem?_eq_some_iff.1 ho).1
  have hbase : ∀ j o, ops[j]? = some o → kindOf c.P loc al o ≠ .imp → (T (j + 1)).base = (T j).base := by
    intro j o ho hk
    have := hS j o ho
    unfold SD at this
    cases hkk : kindOf c.P loc al o <;> rw [hkk] at this <;> simp only at this
    · obtain ⟨p, _, h2⟩ := this; rw [h2]
    · obtain ⟨v, _, _, h2⟩ := this; rw [h2]
    · obtain ⟨_, p, _, h2⟩ := this; rw [h2]
    · exact absurd hkk hk
  have hhist : ∀ b, b ≤ ops.size → ∀ k o, k < b → ops[k]? = some o → kindOf c.P loc al o = .imp → (k, (T k).base) ∈ (T b).hist := by
    intro b
    induction b with
    | zero => intro _ k o hk; omega
    | succ b ih =>
      intro hb k o hk ho hkk
      obtain ⟨ob, hob, hsd⟩ := hT b (by omega)
      unfold SD at hsd
      by_cases hkb : k = b
      · subst hkb
        rw [ho] at hob; cases hob
        rw [hkk] at hsd
        obtain ⟨p, _, _, h2⟩ := hsd
        rw [h2]; simp
      · have := ih (by omega) k o (by omega) ho hkk
        cases hkk' : kindOf c.P loc al ob <;> rw [hkk'] at hsd <;> simp only at hsd
        · obtain ⟨p, _, h2⟩ := hsd; rw [h2]; exact this
        · obtain ⟨v, _, _, h2⟩ := hsd; rw [h2]; exact this
        · obtain ⟨_, p, _, h2⟩ := hsd; rw [h2]; exact this
        · obtain ⟨p, _, _, h2⟩ := hsd; rw [h2]; exact List.mem_cons_of_mem _ this
  have hread : ∀ j o v, ops[j]? = some o → kindOf c.P loc al o = .read → readAt c bad ops (T j).env o (T j).base = .ok v → ∀ b, j < b → b ≤ ops.size → (j, readAt c bad ops (T j).env o, v) ∈ (T b).reads := by
    intro j o v ho hk hv b
    induction b with
    | zero => intro h; omega
    | succ b ih =>
      intro hjb hb
      obtain ⟨ob, hob, hsd⟩ := hT b (by omega)
      unfold SD at hsd
      by_cases hjb' : j = b
      · subst hjb'
        rw [ho] at hob; cases hob
        rw [hk] at hsd
        obtain ⟨v', h1, _, h2⟩ := hsd
        rw [hv] at h1; cases h1
        rw [h2]; simp
      · have := ih (by omega) (by omega)
        cases hkk' : kindOf c.P loc al ob <;> rw [hkk'] at hsd <;> simp only at hsd
        · obtain ⟨p, _, h2⟩ := hsd; rw [h2]; exact this
        · obtain ⟨v, _, _, h2⟩ := hsd; rw [h2]; exact List.mem_cons_of_mem _ this
        · obtain ⟨_, p, _, h2⟩ := hsd; rw [h2]; exact this
        · obtain ⟨p, _, _, h2⟩ := hsd; rw [h2]; exact this
  refine ⟨h0, ?_, ?_, hbase, ?_, ?_, ?_, ?_⟩
  · intro j hj
    obtain ⟨o, ho, hsd⟩ := hT j hj
    unfold SD at hsd
    cases hkk : kindOf c.P loc al o <;> rw [hkk] at hsd <;> simp only at hsd
    · obtain ⟨p, h1, h2⟩ := hsd; rw [h2]; exact stepP_next hC h1
    · obtain ⟨v, _, _, h2⟩ := hsd; rw [h2]; exact Nat.le_refl _
    · obtain ⟨_, p, h1, h2⟩ := hsd; rw [h2]; exact stepP_next hC h1
    · obtain ⟨p, h1, _, h2⟩ := hsd; rw [h2]; exact stepP_next hC h1
  · intro j o ho
    have hsd := hS j o ho
    unfold SD at hsd
    cases hkk : kindOf c.P loc al o <;> rw [hkk] at hsd <;> simp only at hsd
    · obtain ⟨p, h1, h2⟩ := hsd; rw [h2]; exact stepP_frame h1
    · obtain ⟨v, h1, _, h2⟩ := hsd; rw [h2]; exact stepP_frame (stepP_read (C := C) hkk h1)
    · obtain ⟨_, p, h1, h2⟩ := hsd; rw [h2]; exact stepP_frame h1
    · obtain ⟨p, h1, _, h2⟩ := hsd; rw [h2]; exact stepP_frame h1
  · intro j o ho hk
    have hsd := hS j o ho
    unfold SD at hsd
    rw [hk] at hsd
    obtain ⟨p, h1, h2⟩ := hsd
    obtain ⟨h3, h4⟩ := stepP_pure hk h1
    rw [h2]
    exact ⟨h3, h4⟩
  · intro j o ho hk
    have hsd := hS j o ho
    unfold SD at hsd
    rw [hk] at hsd
    obtain ⟨hg, p, h1, h2⟩ := hsd
    obtain ⟨x, h3, h4⟩ := stepP_alloc hk hg h1
    rw [h2]
    exact ⟨x, h3, h4⟩
  · intro j o ho hk
    have hsd := hS j o ho
    unfold SD at hsd
    rw [hk] at hsd
    obtain ⟨p, h1, _, h2⟩ := hsd
    rw [h2]
    exact ⟨h1, rfl⟩
  · intro j o ho hk
    have hsd := hS j o ho
    unfold SD at hsd
    rw [hk] at hsd
    obtain ⟨v, h1, hh, h2⟩ := hsd
    refine ⟨by rw [h2], fun p hp ha hb => ?_⟩
    have key : readAt c bad ops (T j).env o (T p).base = .ok v := by
      rcases Nat.le_total p j with hpj | hpj
      · -- an earlier base
        have go : ∀ m p, p + m = j → (∀ k o', p ≤ k → k < j → ops[k]? = some o' → kindOf c.P loc al o' = .imp → befB bef k j = false) → readAt c bad ops (T j).env o (T p).base = .ok v := by
          intro m
          induction m with
          | zero => intro p hpm _; have : p = j := by omega
                    subst this; exact h1
          | succ m ih =>
            intro p hpm hb
            have hpl : p < ops.size := by have := hlt ho; omega
            obtain ⟨op, hop, _⟩ := hT p hpl
            by_cases hki : kindOf c.P loc al op = .imp
            · have hm := hhist j (by have := hlt ho; omega) p op (by omega) hop hki
              have hf := hb p op (Nat.le_refl _) (by omega) hop hki
              unfold histOk at hh
              have := List.all_eq_true.1 hh _ hm
              simp only [hf, Bool.false_or] at this
              exact sameRes_ok this
            · rw [← hbase p op hop hki]
              exact ih (p + 1) (by omega) fun k o' hk1 => hb k o' (by omega)
        exact go (j - p) p (by omega) hb
      · have go : ∀ m, j + m ≤ ops.size → (∀ k o', k < j + m → ops[k]? = some o' → kindOf c.P loc al o' = .imp → befB bef j k = false) → readAt c bad ops (T j).env o (T (j + m)).base = .ok v := by
          intro m
          induction m with
          | zero => intro _ _; exact h1
          | succ m ih =>
            intro hm ha
            obtain ⟨op, hop, hsd⟩ := hT (j + m) (by omega)
            by_cases hki : kindOf c.P loc al op = .imp
            · have hne : j < j + m := by
                rcases Nat.eq_or_lt_of_le (Nat.le_add_right j m) with he | he
                · rw [← he, ho] at hop; cases hop; rw [hk] at hki; cases hki
                · exact he
              have hmem := hread j o v ho hk h1 (j + m) hne (by omega)
              unfold SD at hsd
              rw [hki] at hsd
              obtain ⟨q, q1, q2, q3⟩ := hsd
              have hf := ha (j + m) op (by omega) hop hki
              unfold readsOk at q2
              have := List.all_eq_true.1 q2 _ hmem
              simp only [hf, Bool.false_or] at this
              have hb' : (T (j + (m + 1))).base = q.2 := by rw [← Nat.add_assoc, q3]
              rw [hb']
              exact sameRes_ok this
            · have : (T (j + (m + 1))).base = (T (j + m)).base := hbase (j + m) op hop hki
              rw [this]
              exact ih (by omega) fun k o' hk1 => ha k o' (by omega)
        have := go (p - j) (by omega) (fun k o' hk1 => ha k o' (by omega))
        rwa [show j + (p - j) = p by omega] at this
    have := stepP_read (C := C) hk key
    rw [h2]
    exact this

end
end Go.Proofs.Ytbnlhhfobgjeaaa
