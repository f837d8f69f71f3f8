/-
  Regions in the order of the text; code; calls.
-/
import Derived.Test.YtbnlhhfobgjeaaaZzStep
import Derived.Scope
set_option linter.all false
namespace Go.Proofs.Ytbnlhhfobgjeaaa
open Go Go.RowKit

def Mono (C : CallR) : Prop := ∀ f args h v h', C f args h = .ok (v, h') → h.next ≤ h'.next
theorem CallSound.mono {F : Fix} {C : CallR} (h : CallSound F C) : Mono C := fun f args hh v h' hq => (h f args hh v h' hq).1

theorem step1_next {C : CallR} (hC : Mono C) {c : Cfg} {loc : List Nat} {al : List (Nat × Nat)} {bad : List Nat} {ops : Array Oper} {o : Oper} {s s' : RS}
    (hq : step1 C c loc al bad ops o s = .ok s') : s.h.next ≤ s'.h.next := by
  unfold step1 stepK at hq
  split at hq
  · split at hq
    · simp only [ansR] at hq
      obtain ⟨fa, h1, hq⟩ := Res.bind_ok hq
      obtain ⟨r, h2, hq⟩ := Res.bind_ok hq
      cases hq
      exact hC _ _ _ _ _ h2
    · simp only [ansR] at hq
      obtain ⟨b, h0, hq⟩ := Res.bind_ok hq
      obtain ⟨fa, h1, hq⟩ := Res.bind_ok hq
      cases b with
      | true =>
        simp only at h1 hq
        obtain ⟨r, h2, hq⟩ := Res.bind_ok hq
        cases hq
        exact hC _ _ _ _ _ h2
      | false => cases hq; exact Nat.le_refl _
  · split at hq
    · simp only [ansR] at hq
      obtain ⟨r, h1, hq⟩ := Res.bind_ok hq
      cases hq
      unfold ifG at h1
      split at h1
      · exact opR_next _ _ h1
      · obtain ⟨b, h0, h1⟩ := Res.bind_ok h1
        cases b with
        | true => exact opR_next _ _ h1
        | false => cases h1; exact Nat.le_refl _
    · simp only [ansR] at hq
      obtain ⟨r, h1, hq⟩ := Res.bind_ok hq
      cases hq; exact Nat.le_refl _
    · split at hq
      · simp only [ansR] at hq
        obtain ⟨r, h1, hq⟩ := Res.bind_ok hq
        cases hq; exact Nat.le_refl _
      · cases hq
    · simp only [ansR] at hq
      obtain ⟨r, h1, hq⟩ := Res.bind_ok hq
      cases hq; exact Nat.le_refl _
    · split at hq
      · simp only [ansR] at hq
        obtain ⟨r, h1, hq⟩ := Res.bind_ok hq
        cases hq; exact Nat.le_refl _
      · cases hq

theorem runText1_next {C : CallR} (hC : Mono C) {c : Cfg} {loc : List Nat} {al : List (Nat × Nat)} {bad : List Nat} {ops : Array Oper} : ∀ {l : List Oper} {s s' : RS},
    runText1 C c loc al bad ops l s = .ok s' → s.h.next ≤ s'.h.next
  | [], s, s', hq => by cases hq; exact Nat.le_refl _
  | o :: l, s, s', hq => by
    rw [runText1_cons] at hq
    obtain ⟨s1, h1, hq⟩ := Res.bind_ok hq
    exact Nat.le_trans (step1_next hC h1) (runText1_next hC hq)

section
variable {F : Fix} {loc : List Nat} {al : List (Nat × Nat)}

theorem text_ok {C : CallR} {bad : List Nat} {ops : Array Oper} {Q : Exit → Act → World → Prop} {ds : List Deferred} (ok : F.Ok) (hC : CallSound F C)
    (hal : ∀ t s, lookN al t = some s → loc.contains s = true) (hb1 : ∀ t, loc.contains t = true → bad.contains t = true) (hb2 : ∀ t s, lookN al t = some s → bad.contains t = true)
    (hop : ∀ o ∈ ops.toList, opOk loc al o = true) : ∀ (l : List Oper) (i : Nat), ops.toList.drop i = l → ∀ (ι : Inj) (tm : Array Value) (w : World) (s s' : RS), St F ι loc al s.env s.h tm w →
      runText1 C F.c loc al bad ops l s = .ok s' → Fresh ι s.h.next s'.h.next →
      (∀ ι' tm' w', St F ι' loc al s'.env s'.h tm' w' → TStep ι s.h s.env tm w ι' s'.h s'.env tm' w' → Q .normal ⟨tm', ds⟩ w') →
      wpOps F.c.P ops Q (List.range' i l.length) ⟨tm, ds⟩ w
  | [], i, _, ι, tm, w, s, s', st, hq, fr, hK => by cases hq; exact hK ι tm w st (TStep.refl ..)
  | o :: l, i, hl, ι, tm, w, s, s', st, hq, fr, hK => by
    rw [runText1_cons] at hq
    obtain ⟨s1, h1, hq⟩ := Res.bind_ok hq
    have hoi : ops[i]? = some o := by
      rw [← Array.getElem?_toList]
      have : (ops.toList.drop i)[0]? = some o := by rw [hl]; rfl
      simpa using this
    have hl' : ops.toList.drop (i + 1) = l := by
      rw [← List.drop_drop, hl]; rfl
    have hm := runText1_next hC.mono hq
    rw [List.length_cons, List.range'_succ, wpOps_cons]
    refine step_ok ok hC hal hb1 hb2 hoi (hop o (by
      have : o ∈ ops.toList.drop i := by rw [hl]; simp
      exact List.mem_of_mem_drop this)) st h1 (fr.left hm) _ _ _ fun tm' w' hr => ?_
    obtain ⟨ι', st', ts⟩ := hr
    exact text_ok ok hC hal hb1 hb2 hop l (i + 1) hl' ι' tm' w' s1 s' st' hq (ts.fresh fr) fun ι'' tm'' w'' st'' ts' => hK ι'' tm'' w'' st'' (ts.trans ts')

/-! ### before and behind a region -/
theorem St.with {ι : Inj} {h : AHeap} {env : List AVal} {tm : Array Value} {w : World} (st : St F ι loc [] env h tm w) (al : List (Nat × Nat)) : St F ι loc al env h tm w := by
  refine ⟨st.rel, ⟨st.env.size, fun t => ?_, st.env.apart⟩⟩
  have := st.env.slot t
  unfold SlotOk at this ⊢
  split
  · rename_i vs hv; simp only [hv] at this; exact this
  · rename_i off valid hv
    simp only [hv] at this
    obtain ⟨s, hs, _⟩ := this
    cases hs
  · revert this
    cases hx : nth env t <;> simp_all

theorem lookN_none {al : List (Nat × Nat)} {t : Nat} (h : t ∉ al.map (·.1)) : lookN al t = none := by
  cases hc : lookN al t with
  | none => rfl
  | some s => exact absurd (List.mem_map.2 ⟨(t, s), lookN_mem hc, rfl⟩) h

theorem nth_clearAll_mem : ∀ (ns : List Nat) (env : List AVal) (t : Nat), t ∈ ns → nth (clearAll ns env) t = .dead := by
  intro ns env t h
  rcases nth_clearAll ns env t with hh | ⟨_, hh⟩
  · exact hh
  · exact absurd h hh

theorem St.without {ι : Inj} {h : AHeap} {env : List AVal} {tm : Array Value} {w : World} (st : St F ι loc al env h tm w) :
    St F ι loc [] (clearAll (al.map (·.1)) env) h tm w := by
  obtain ⟨e, _⟩ := st.env.clear (al.map (·.1))
  refine ⟨st.rel, ⟨e.size, fun t => ?_, e.apart⟩⟩
  have := e.slot t
  unfold SlotOk at this ⊢
  split
  · rename_i vs hv; simp only [hv] at this; exact this
  · rename_i off valid hv
    simp only [hv] at this
    obtain ⟨s, hs, _⟩ := this
    have hm : t ∈ al.map (·.1) := by
      refine Classical.byContradiction fun hn => ?_
      rw [lookN_none hn] at hs; cases hs
    rw [nth_clearAll_mem _ _ _ hm] at hv; cases hv
  · revert this
    cases hx : nth (clearAll (al.map (·.1)) env) t <;> simp_all

theorem St.clear {ι : Inj} {h : AHeap} {env : List AVal} {tm : Array Value} {w : World} (st : St F ι loc al env h tm w) (ns : List Nat) : St F ι loc al (clearAll ns env) h tm w :=
  ⟨st.rel, (st.env.clear ns).1⟩

theorem TStep.clear {ι ι' : Inj} {h h' : AHeap} {env env' : List AVal} {tm tm' : Array Value} {w w' : World} {loc : List Nat} {al : List (Nat × Nat)} (st : St F ι' loc al env' h' tm' w') (ts : TStep ι h env tm w ι' h' env' tm' w') (ns : List Nat) :
    TStep ι h env tm w ι' h' (clearAll ns env') tm' w' :=
  ⟨ts.sub, ts.dom, ts.next, ts.keep, ts.own, fun b hb => ts.loc b ((st.env.clear ns).2 b hb)⟩


/-! ### what a piece of code leads to -/
def AExit.to : AExit → Exit
  | .normal => .normal
  | .ret => .ret
  | .exit id => .exit id
  | .goto l => .goto l

def After (F : Fix) (ι : Inj) (loc : List Nat) (h : AHeap) (env : List AVal) (tm : Array Value) (w : World) (r : AExit × List AVal × AHeap) : Exit → Act → World → Prop := fun e a w' =>
  e = r.1.to ∧ a.defers = [] ∧ ∃ ι', St F ι' loc [] r.2.1 r.2.2 a.tmps w' ∧ TStep ι h env tm w ι' r.2.2 r.2.1 a.tmps w'

theorem St.drawn {ι : Inj} {h : AHeap} {env : List AVal} {tm : Array Value} {w : World} (st : St F ι loc al env h tm w) (n : Nat) : St F ι loc al env h tm { w with drawn := n } :=
  ⟨st.rel.drawn n, st.env.keep fun _ _ => rfl⟩

theorem regOk_ok {P : Program} {ops : Array Oper} {d : Bool} (h : regOk P loc ops d = true) :
    (∀ o ∈ ops.toList, opOk loc (aliasPairs loc ops.toList []) o = true) ∧ (∀ t s, lookN (aliasPairs loc ops.toList []) t = some s → loc.contains s = true) ∧ (d = true → regionOk P loc ops = true) := by
  unfold regOk at h
  simp only [Bool.and_eq_true, List.all_eq_true] at h
  refine ⟨h.1.1, fun t s hl => h.1.2 (t, s) (lookN_mem hl), fun hd => ?_⟩
  have := h.2
  rw [hd] at this
  simpa using this

theorem region_text {C : CallR} {an : FnAnn} {id : Nat} {ops : Array Oper} {env : List AVal} {h : AHeap} {r : AExit × List AVal × AHeap} (ok : F.Ok) (hC : CallSound F C) (hr : regOk F.c.P an.locals ops false = true)
    (hq : regionK (ansR C (AExit × List AVal × AHeap)) F.c an id ops false env h (fun env h => .ok (.normal, env, h)) = .ok r) :
    h.next ≤ r.2.2.next ∧ ∀ (ι : Inj) (tm : Array Value) (w : World), St F ι an.locals [] env h tm w → Fresh ι h.next r.2.2.next → (Code.region id ops false).wp F.c.P (After F ι an.locals h env tm w r) ⟨tm, []⟩ w := by
  obtain ⟨r1, r2, _⟩ := regOk_ok hr
  unfold regionK at hq
  simp only [runText_eq] at hq
  obtain ⟨s', h1, hq⟩ := Res.bind_ok hq
  cases hq
  refine ⟨runText1_next hC.mono h1, fun ι tm w st fr => ?_⟩
  refine wp_region ?_
  rw [List.range_eq_range', ← Array.length_toList]
  refine text_ok (al := aliasPairs an.locals ops.toList []) ok hC r2 ?_ ?_ r1 ops.toList 0 rfl ι tm w _ s' (st.with _) h1 fr fun ι' tm' w' st' ts => ?_
  · intro t ht; simp at ht ⊢; exact .inr ht
  · intro t s hl
    have : t ∈ (aliasPairs an.locals ops.toList []).map (·.1) := List.mem_map.2 ⟨(t, s), lookN_mem hl, rfl⟩
    simp only [List.contains_iff_mem, List.mem_append]; exact .inl this
  · refine ⟨rfl, rfl, ι', (st'.without).clear _, ?_⟩
    exact TStep.clear st'.without (TStep.clear st' ts _) _

/-- the same of a region whose order is drawn -/
def DrawSound (F : Fix) : Prop := ∀ (C : CallR), CallSound F C → ∀ (an : FnAnn) (id : Nat) (ops : Array Oper) (env : List AVal) (h : AHeap) (r : AExit × List AVal × AHeap), regOk F.c.P an.locals ops true = true →
    regionK (ansR C (AExit × List AVal × AHeap)) F.c an id ops true env h (fun env h => .ok (.normal, env, h)) = .ok r →
    h.next ≤ r.2.2.next ∧ ∀ (ι : Inj) (tm : Array Value) (w : World), St F ι an.locals [] env h tm w → Fresh ι h.next r.2.2.next → (Code.region id ops true).wp F.c.P (After F ι an.locals h env tm w r) ⟨tm, []⟩ w

/-- a loop that is under way -/
def wpX (P : Program) (c : Code) (Q : Exit → Act → World → Prop) (a : Act) (w : World) : Prop :=
  match c with
  | .loop x => ∀ (b : Frame) (k : List Item) (cs : List Frame), ∃ e a' w', Q e a' w' ∧ Arrives P (lone (b.at a (.code x :: .inLoop x :: k)) cs w) b k cs e a' w'
  | c => c.wp P Q a w

theorem wp_of_X {P : Program} {c : Code} {Q : Exit → Act → World → Prop} {a : Act} {w : World} (h : wpX P c Q a w) : c.wp P Q a w := by
  cases c with
  | loop x =>
    intro b k cs
    obtain ⟨e, a', w', h1, h2⟩ := h b k cs
    exact ⟨e, a', w', h1, .of_steps (.one step_loop) h2⟩
  | _ => exact h

/-- a scope that is under way -/
def wpS (P : Program) (body cur : Code) (Q : Exit → Act → World → Prop) (a : Act) (w : World) : Prop :=
  ∀ (b : Frame) (k : List Item) (cs : List Frame), ∃ e a' w', Q e a' w' ∧ Arrives P (lone (b.at a (.code cur :: .inScope body :: k)) cs w) b k cs e a' w'

end
end Go.Proofs.Ytbnlhhfobgjeaaa
