/-
  The machine is sound.
-/
import Derived.Test.YtbnlhhfobgjeaaaZzExec
set_option linter.all false
namespace Go.Proofs.Ytbnlhhfobgjeaaa
open Go Go.RowKit

/-- what must be so of a program's reading -/
structure Sure (F : Fix) : Prop where
  ok : F.Ok
  code : ∀ f fn code, (F.c.ann f).ok = true → F.c.P.funcs[f]? = some fn → fn.body = some code → codeOk F.c.P (F.c.ann f).locals code = true ∧ (fn.name == "runtime.NumGoroutine") = false
  prim : ∀ f g, F.c.prim f = some g → ∀ args h v h', g args h = .ok (v, h') → h.next ≤ h'.next ∧
    ∀ ι w (av : Array Value), Rel F ι h w → VRels ι F.ρ args av.toList → Fresh ι h.next h'.next → CallTo F.c.P f av w (Out F ι h w v h')
  draw : DrawSound F

def ExecS (F : Fix) (k : Nat) : Prop := ∀ f code env h r, codeOk F.c.P (F.c.ann f).locals code = true → exec F.c k f code env h = .ok r →
  h.next ≤ r.2.2.next ∧ ∀ (ι : Inj) (tm : Array Value) (w : World), St F ι (F.c.ann f).locals [] env h tm w → Fresh ι h.next r.2.2.next → wpX F.c.P code (After F ι (F.c.ann f).locals h env tm w r) ⟨tm, []⟩ w

def ScopeS (F : Fix) (k : Nat) : Prop := ∀ f body cur env h r, codeOk F.c.P (F.c.ann f).locals body = true → codeOk F.c.P (F.c.ann f).locals cur = true → scopeE F.c k f body cur env h = .ok r →
  h.next ≤ r.2.2.next ∧ ∀ (ι : Inj) (tm : Array Value) (w : World), St F ι (F.c.ann f).locals [] env h tm w → Fresh ι h.next r.2.2.next → wpS F.c.P body cur (After F ι (F.c.ann f).locals h env tm w r) ⟨tm, []⟩ w

theorem findLabel_ok {P : Program} {loc : List Nat} : ∀ {body : Code} {l : Nat} {rest : Code}, findLabel body l = some rest → codeOk P loc body = true → codeOk P loc rest = true := by
  intro body
  induction body with
  | seq a b iha ihb =>
    intro l rest hf hc
    simp only [codeOk, Bool.and_eq_true] at hc
    unfold findLabel at hf
    split at hf
    · rename_i r hr; cases hf
      simp only [codeOk, Bool.and_eq_true]; exact ⟨iha hr hc.1, hc.2⟩
    · exact ihb hf hc.2
  | label l' =>
    intro l rest hf hc
    unfold findLabel at hf
    split at hf
    · cases hf; rfl
    · cases hf
  | _ => intro l rest hf hc; cases hf

section
variable {F : Fix} {ι : Inj} {h : AHeap} {w : World} {loc : List Nat}

/-- a frame, entered -/
theorem enter_st (r : Rel F ι h w) {args : List AVal} {av : Array Value} (ha : VRels ι F.ρ args av.toList) (n : Nat) :
    St F ι loc [] (args ++ List.replicate (n - args.length) .dead) h (av ++ Array.replicate (n - av.size) undef) w ∧ ∀ t us, nth (args ++ List.replicate (n - args.length) .dead) t ≠ .cell us := by
  have hl : args.length = av.size := by simpa using ha.length
  have hval : ∀ t, VRel ι F.ρ (nth (args ++ List.replicate (n - args.length) .dead) t) ((av ++ Array.replicate (n - av.size) undef).getD t undef) := by
    intro t
    rw [nth_eq, List.getElem?_append]
    split
    · rename_i ht
      obtain ⟨v, v1, v2⟩ := ha.get (j := t) (List.getElem?_eq_getElem ht)
      have hv : av[t]? = some v := by simpa using v1
      have ht' : t < av.size := by omega
      have : (av ++ Array.replicate (n - av.size) undef)[t]? = some v := by rw [Array.getElem?_append_left ht']; exact hv
      rw [Array.getD_eq_getD_getElem?, this, List.getElem?_eq_getElem ht]
      exact v2
    · have : ((List.replicate (n - args.length) AVal.dead)[t - args.length]?).getD .dead = .dead := by
        simp only [List.getElem?_replicate]; split <;> rfl
      rw [this]; trivial
  refine ⟨⟨r, ⟨by simp [hl], fun t => SlotOk.of_val (hval t), fun t t' vs vs' b h1 => ?_⟩⟩, fun t us hn => ?_⟩
  · have := hval t; rw [h1] at this; exact this.elim
  · have := hval t; rw [hn] at this; exact this.elim

def resF (tm : Array Value) : ResultVar → Sem Value
  | .tmp t => pure (tm.getD t undef)
  | .cell a t => do loadVar t (← asAddr (tm.getD a undef))

theorem loadR_ptr {c : Cfg} {t : Nat} {x v : AVal} {xv : Value} (hq : loadR c h t x = .ok v) (hx : VRel ι F.ρ x xv) : ∃ a, xv = .pointer (some a) := by
  unfold loadR at hq
  obtain ⟨_, h1, _⟩ := Res.bind_ok hq
  unfold rowR at h1
  split at h1
  · obtain ⟨e, _, rfl⟩ := hx; exact ⟨_, rfl⟩
  · obtain ⟨e, _, rfl⟩ := hx; exact ⟨_, rfl⟩
  · cases h1

theorem results_list (ok : F.Ok) {env : List AVal} {tm : Array Value} (st : St F ι loc [] env h tm w) : ∀ (l : List ResultVar) (vs : List AVal), resultsR F.c loc env h l = .ok vs →
    ∃ us, (l.mapM (resF tm)).run F.c.P w = .ok us w ∧ VRels ι F.ρ vs us
  | [], vs, hq => by cases hq; exact ⟨[], rfl, rfl⟩
  | .tmp t :: l, vs, hq => by
    unfold resultsR at hq
    obtain ⟨v, h1, hq⟩ := Res.bind_ok hq
    obtain ⟨r, h2, hq⟩ := Res.bind_ok hq
    cases hq
    obtain ⟨us, u1, u2⟩ := results_list ok st l r h2
    have hv := st.env.opnd_ok (bad := loc) ok (fun _ h => h) (fun _ _ h => by cases h) [] _ _ h1
    refine ⟨tm.getD t undef :: us, ?_, ⟨_, _, rfl, hv, u2⟩⟩
    simp [List.mapM_cons, u1, resF]
  | .cell a t :: l, vs, hq => by
    unfold resultsR at hq
    obtain ⟨v, h1, hq⟩ := Res.bind_ok hq
    obtain ⟨r, h2, hq⟩ := Res.bind_ok hq
    cases hq
    obtain ⟨us, u1, u2⟩ := results_list ok st l r h2
    have hld : ∃ u, (resF tm (.cell a t)).run F.c.P w = .ok u w ∧ VRel ι F.ρ v u := by
      split at h1
      · obtain ⟨vo, h3, h1⟩ := Res.bind_ok h1
        obtain ⟨vs', off⟩ := vo
        obtain ⟨_, b, c, T', b1, b2, _, _, b5, b6, b7⟩ := st.env.cell (.inl rfl) h3
        rw [b1] at b2; cases b2
        obtain ⟨u, u1, u2⟩ := (cells_at b5 b6 b7).loadVar (P := F.c.P) h1
        have hx : tm.getD a undef = .pointer (some ⟨b, 0, none⟩) := by rw [Array.getD_eq_getD_getElem?, b1]; rfl
        exact ⟨u, by simpa [resF, hx, asAddr] using u1, u2⟩
      · rename_i hnc
        have hv : VRel ι F.ρ (nth env a) (tm.getD a undef) := (st.env.slot a).val (by simpa using hnc) rfl
        obtain ⟨u, u1, u2⟩ := load_ok ok st.rel h1 hv
        refine ⟨u, ?_, u2⟩
        obtain ⟨ad, had⟩ := loadR_ptr h1 hv
        rw [← u1]
        simp [resF, had, asAddr, Instr.loadAt, Instr.sureAddr]
    obtain ⟨u, u3, u4⟩ := hld
    refine ⟨u :: us, ?_, ⟨_, _, rfl, u4, u2⟩⟩
    simp [List.mapM_cons, u3, u1]

theorem results_ok (ok : F.Ok) {env : List AVal} {tm : Array Value} (st : St F ι loc [] env h tm w) {fn : Func} {vs : List AVal} (hq : resultsR F.c loc env h fn.results.toList = .ok vs) :
    ∃ u, (results fn tm).run F.c.P w = .ok u w ∧ VRel ι F.ρ (packR vs) u := by
  obtain ⟨us, u1, u2⟩ := results_list ok st _ _ hq
  have hl := u2.length
  have h1 := run_mapM_arr fn.results _ w u1
  have h2 : results fn tm = (do let vs ← fn.results.mapM (resF tm); pure (if h : vs.size = 1 then vs[0] else .tuple vs)) := by
    unfold results
    congr 1
  rw [h2]
  simp only [Sem.run_bind, h1, Result.andThen_ok, Sem.run_pure]
  refine ⟨_, rfl, ?_⟩
  match vs, us, u2 with
  | [], _, u2 => simp only [VRels] at u2; subst u2; exact ⟨#[], rfl, rfl⟩
  | [a], _, ⟨v, _, rfl, v1, v2⟩ => simp only [VRels] at v2; subst v2; exact v1
  | a :: b :: l, us, u2 =>
    obtain ⟨v0, _, rfl, v1, v, us, rfl, v2, v3⟩ := u2
    refine ⟨(v0 :: v :: us).toArray, by simp, ?_⟩
    exact ⟨_, _, rfl, v1, _, _, rfl, v2, v3⟩

end
section
variable {F : Fix}

theorem After.trans {ι ι' : Inj} {loc : List Nat} {h h' : AHeap} {env env' : List AVal} {tm tm' : Array Value} {w w' : World} {r : AExit × List AVal × AHeap} {e : Exit} {a : Act} {w'' : World}
    (ts : TStep ι h env tm w ι' h' env' tm' w') (hh : After F ι' loc h' env' tm' w' r e a w'') : After F ι loc h env tm w r e a w'' := by
  obtain ⟨h1, h2, ι'', st, ts'⟩ := hh
  exact ⟨h1, h2, ι'', st, ts.trans ts'⟩

theorem loop_items {x : Item} {P : Program} {m : Machine} {b : Frame} {k : List Item} {cs : List Frame} {e : Exit} {a : Act} {w : World} (hx : x.plain = true) (he : e ≠ .normal) (h : Arrives P m b (x :: k) cs e a w) : Arrives P m b k cs e a w :=
  Arrives.pass hx (fun _ _ => .inl he) h

set_option maxHeartbeats 1000000 in
theorem sound (S : Sure F) : ∀ k, ExecS F k ∧ ScopeS F k ∧ CallSound F (callF F.c k) := by
  intro k
  induction k with
  | zero =>
    refine ⟨fun f code env h r _ hq => ?_, fun f body cur env h r _ _ hq => ?_, fun f args h v h' hq => ?_⟩
    · unfold exec at hq; cases hq
    · unfold scopeE at hq; cases hq
    · unfold callF at hq; cases hq
  | succ k ih =>
    obtain ⟨ihE, ihS, ihC⟩ := ih
    refine ⟨?_, ?_, ?_⟩
    · intro f code env h r hco hq
      unfold exec at hq
      have hsame : ∀ e, r = (e, env, h) → h.next ≤ r.2.2.next ∧ ∀ (ι : Inj) (tm : Array Value) (w : World), St F ι (F.c.ann f).locals [] env h tm w → After F ι (F.c.ann f).locals h env tm w r e.to ⟨tm, []⟩ w := by
        rintro e rfl
        exact ⟨Nat.le_refl _, fun ι tm w st => ⟨rfl, rfl, ι, st, TStep.refl ..⟩⟩
      cases code with
      | skip =>
        simp only at hq; cases hq
        exact ⟨(hsame _ rfl).1, fun ι tm w st _ => wp_skip ((hsame _ rfl).2 ι tm w st)⟩
      | label l =>
        simp only at hq; cases hq
        exact ⟨(hsame _ rfl).1, fun ι tm w st _ => wp_label ((hsame _ rfl).2 ι tm w st)⟩
      | exit id =>
        simp only at hq; cases hq
        exact ⟨(hsame _ rfl).1, fun ι tm w st _ => wp_exit ((hsame _ rfl).2 ι tm w st)⟩
      | goto l =>
        simp only at hq; cases hq
        exact ⟨(hsame _ rfl).1, fun ι tm w st _ => wp_goto ((hsame _ rfl).2 ι tm w st)⟩
      | ret =>
        simp only at hq; cases hq
        exact ⟨(hsame _ rfl).1, fun ι tm w st _ => wp_ret ((hsame _ rfl).2 ι tm w st)⟩
      | seq a b =>
        simp only [codeOk, Bool.and_eq_true] at hco
        simp only at hq
        obtain ⟨r1, h1, hq⟩ := Res.bind_ok hq
        obtain ⟨n1, s1⟩ := ihE _ _ _ _ _ hco.1 h1
        obtain ⟨e1, env1, hp1⟩ := r1
        have hout : e1 ≠ .normal → r = (e1, env1, hp1) → h.next ≤ r.2.2.next ∧ ∀ (ι : Inj) (tm : Array Value) (w : World), St F ι (F.c.ann f).locals [] env h tm w → Fresh ι h.next r.2.2.next →
            (Code.seq a b).wp F.c.P (After F ι (F.c.ann f).locals h env tm w r) ⟨tm, []⟩ w := by
          rintro hne rfl
          refine ⟨n1, fun ι tm w st fr => wp_seq (wp_mono (wp_of_X (s1 ι tm w st fr)) fun e a w' ha => ?_)⟩
          have := ha.1
          cases e1 with
          | normal => exact absurd rfl hne
          | _ => simp only [AExit.to] at this; subst this; exact ha
        cases e1 with
        | normal =>
          simp only at hq
          obtain ⟨n2, s2⟩ := ihE _ _ _ _ _ hco.2 hq
          refine ⟨Nat.le_trans n1 n2, fun ι tm w st fr => ?_⟩
          refine wp_seq (wp_mono (wp_of_X (s1 ι tm w st (fr.left n2))) fun e a w' ha => ?_)
          obtain ⟨he, hd, ι', st', ts⟩ := ha
          simp only [AExit.to] at he
          subst he
          obtain ⟨tm', ds'⟩ := a
          simp only at hd; subst hd
          exact wp_mono (wp_of_X (s2 ι' tm' w' st' (ts.fresh fr))) fun e a w'' hh => After.trans ts hh
        | ret => simp only at hq; cases hq; exact hout (by simp) rfl
        | exit id => simp only at hq; cases hq; exact hout (by simp) rfl
        | goto l => simp only at hq; cases hq; exact hout (by simp) rfl
      | cond x a b =>
        simp only [codeOk, Bool.and_eq_true] at hco
        simp only at hq
        obtain ⟨v, h1, hq⟩ := Res.bind_ok hq
        split at hq
        rotate_left; · cases hq
        rename_i t
        have hev : ∀ (ι : Inj) (tm : Array Value) (w : World), St F ι (F.c.ann f).locals [] env h tm w → (⟨tm, []⟩ : Act).eval x = .bool t := by
          intro ι tm w st
          exact st.env.opnd_ok (bad := (F.c.ann f).locals) S.ok (fun _ h => h) (fun _ _ h => by cases h) [] x _ h1
        split at hq
        · obtain ⟨n2, s2⟩ := ihE _ _ _ _ _ hco.1 hq
          exact ⟨n2, fun ι tm w st fr => wp_cond_true (hev ι tm w st) (wp_of_X (s2 ι tm w st fr))⟩
        · obtain ⟨n2, s2⟩ := ihE _ _ _ _ _ hco.2 hq
          exact ⟨n2, fun ι tm w st fr => wp_cond_false (hev ι tm w st) (wp_of_X (s2 ι tm w st fr))⟩
      | block id a =>
        simp only [codeOk] at hco
        simp only at hq
        obtain ⟨r1, h1, hq⟩ := Res.bind_ok hq
        obtain ⟨n1, s1⟩ := ihE _ _ _ _ _ hco h1
        obtain ⟨e1, env1, hp1⟩ := r1
        have hr : r.2 = (env1, hp1) := by
          simp only at hq
          split at hq
          · split at hq <;> cases hq <;> rfl
          · cases hq; rfl
        refine ⟨by rw [hr]; exact n1, fun ι tm w st fr => wp_block (wp_mono (wp_of_X (s1 ι tm w st (by rw [hr] at fr; exact fr))) fun e a w' ha => ?_)⟩
        obtain ⟨he, hd, ι', st', ts⟩ := ha
        simp only at he hq
        subst he
        have hfin : ∀ e', e' = r.1.to → After F ι (F.c.ann f).locals h env tm w r e' a w' := by
          intro e' he'
          exact ⟨he', hd, ι', by rw [hr]; exact st', by rw [hr]; exact ts⟩
        cases e1 with
        | normal => simp only at hq; cases hq; exact hfin _ rfl
        | ret => simp only at hq; cases hq; exact hfin _ rfl
        | goto l => simp only at hq; cases hq; exact hfin _ rfl
        | exit id' =>
          simp only at hq
          simp only [AExit.to, Exit.inBlock]
          split at hq
          · rename_i hid; cases hq; rw [if_pos hid]; exact hfin _ rfl
          · rename_i hid; cases hq; rw [if_neg hid]; exact hfin _ rfl
      | loop a =>
        have hco' := hco
        simp only [codeOk] at hco
        simp only at hq
        obtain ⟨r1, h1, hq⟩ := Res.bind_ok hq
        obtain ⟨n1, s1⟩ := ihE _ _ _ _ _ hco h1
        obtain ⟨e1, env1, hp1⟩ := r1
        have hout : e1 ≠ .normal → r = (e1, env1, hp1) → h.next ≤ r.2.2.next ∧ ∀ (ι : Inj) (tm : Array Value) (w : World), St F ι (F.c.ann f).locals [] env h tm w → Fresh ι h.next r.2.2.next →
            wpX F.c.P (Code.loop a) (After F ι (F.c.ann f).locals h env tm w r) ⟨tm, []⟩ w := by
          rintro hne rfl
          refine ⟨n1, fun ι tm w st fr b kk cs => ?_⟩
          obtain ⟨e, a', w', ha, harr⟩ := wp_of_X (s1 ι tm w st fr) b (.inLoop a :: kk) cs
          refine ⟨e, a', w', ha, loop_items rfl ?_ harr⟩
          have := ha.1
          cases e1 with
          | normal => exact absurd rfl hne
          | _ => simp only [AExit.to] at this; subst this; simp
        cases e1 with
        | normal =>
          simp only at hq
          obtain ⟨n2, s2⟩ := ihE _ _ _ _ _ hco' hq
          refine ⟨Nat.le_trans n1 n2, fun ι tm w st fr b kk cs => ?_⟩
          obtain ⟨e, a', w', ha, harr⟩ := wp_of_X (s1 ι tm w st (fr.left n2)) b (.inLoop a :: kk) cs
          obtain ⟨he, hd, ι', st', ts⟩ := ha
          simp only [AExit.to] at he
          subst he
          obtain ⟨tm', ds'⟩ := a'
          simp only at hd; subst hd
          obtain ⟨e2, a2, w2, hq2, harr2⟩ := s2 ι' tm' w' st' (ts.fresh fr) b kk cs
          exact ⟨e2, a2, w2, After.trans ts hq2, .of_steps (Steps.trans harr (.one step_inLoop)) harr2⟩
        | ret => simp only at hq; cases hq; exact hout (by simp) rfl
        | exit id => simp only at hq; cases hq; exact hout (by simp) rfl
        | goto l => simp only at hq; cases hq; exact hout (by simp) rfl
      | scope a =>
        simp only [codeOk] at hco
        simp only at hq
        obtain ⟨n1, s1⟩ := ihS _ _ _ _ _ _ hco hco hq
        refine ⟨n1, fun ι tm w st fr b kk cs => ?_⟩
        obtain ⟨e, a', w', ha, harr⟩ := s1 ι tm w st fr b kk cs
        exact ⟨e, a', w', ha, .of_steps (.one step_scope) harr⟩
      | region id ops draw =>
        simp only [codeOk] at hco
        simp only at hq
        cases draw with
        | false => exact region_text S.ok ihC hco hq
        | true => exact S.draw _ ihC _ id _ _ _ _ hco hq
      | _ => cases hq
    · intro f body cur env h r hb hco hq
      unfold scopeE at hq
      obtain ⟨r1, h1, hq⟩ := Res.bind_ok hq
      obtain ⟨n1, s1⟩ := ihE _ _ _ _ _ hco h1
      obtain ⟨e1, env1, hp1⟩ := r1
      have hout : (∀ l, e1 = .goto l → findLabel body l = none) → r = (e1, env1, hp1) → h.next ≤ r.2.2.next ∧ ∀ (ι : Inj) (tm : Array Value) (w : World), St F ι (F.c.ann f).locals [] env h tm w → Fresh ι h.next r.2.2.next →
          wpS F.c.P body cur (After F ι (F.c.ann f).locals h env tm w r) ⟨tm, []⟩ w := by
        rintro hne rfl
        refine ⟨n1, fun ι tm w st fr b kk cs => ?_⟩
        obtain ⟨e, a', w', ha, harr⟩ := wp_of_X (s1 ι tm w st fr) b (.inScope body :: kk) cs
        refine ⟨e, a', w', ha, ?_⟩
        have he := ha.1
        cases e1 with
        | normal => simp only [AExit.to] at he; subst he; exact Steps.trans harr (.one step_inScope)
        | ret => simp only [AExit.to] at he; subst he; exact harr
        | exit id => simp only [AExit.to] at he; subst he; exact fun k' hk => harr k' (by simp [exitTo, hk])
        | goto l => simp only [AExit.to] at he; subst he; exact fun k' hk => harr k' (by simp [gotoIn, hne l rfl, hk])
      cases e1 with
      | normal => simp only at hq; cases hq; exact hout (by simp) rfl
      | ret => simp only at hq; cases hq; exact hout (by simp) rfl
      | exit id => simp only at hq; cases hq; exact hout (by simp) rfl
      | goto l =>
        simp only at hq
        split at hq
        · rename_i rest hf
          obtain ⟨n2, s2⟩ := ihS _ _ _ _ _ _ hb (findLabel_ok hf hb) hq
          refine ⟨Nat.le_trans n1 n2, fun ι tm w st fr b kk cs => ?_⟩
          obtain ⟨e, a', w', ha, harr⟩ := wp_of_X (s1 ι tm w st (fr.left n2)) b (.inScope body :: kk) cs
          obtain ⟨he, hd, ι', st', ts⟩ := ha
          simp only [AExit.to] at he
          subst he
          obtain ⟨tm', ds'⟩ := a'
          simp only at hd; subst hd
          obtain ⟨e2, a2, w2, hq2, harr2⟩ := s2 ι' tm' w' st' (ts.fresh fr) b kk cs
          exact ⟨e2, a2, w2, After.trans ts hq2, .of_steps (harr _ (by simp [gotoIn, hf])) harr2⟩
        · rename_i hf
          cases hq
          exact hout (fun l' hl => by cases hl; exact hf) rfl
    · intro f args h v h' hq
      unfold callF at hq
      split at hq
      · rename_i g hg
        exact S.prim f g hg _ _ _ _ hq
      · split at hq
        rotate_left; · cases hq
        rename_i fn hok hf
        split at hq
        rotate_left; · cases hq
        rename_i code hb
        obtain ⟨r, h1, hq⟩ := Res.bind_ok hq
        obtain ⟨hco, hname⟩ := S.code f fn code hok hf hb
        obtain ⟨n1, s1⟩ := ihE _ _ _ _ _ hco h1
        obtain ⟨e, env', hp⟩ := r
        have hq' : (e = .normal ∨ e = .ret) ∧ ∃ vs, resultsR F.c (F.c.ann f).locals env' hp fn.results.toList = .ok vs ∧ v = packR vs ∧ h' = hp := by
          cases e with
          | normal => simp only at hq; obtain ⟨vs, h2, hq⟩ := Res.bind_ok hq; cases hq; exact ⟨.inl rfl, vs, h2, rfl, rfl⟩
          | ret => simp only at hq; obtain ⟨vs, h2, hq⟩ := Res.bind_ok hq; cases hq; exact ⟨.inr rfl, vs, h2, rfl, rfl⟩
          | exit id => cases hq
          | goto l => cases hq
        obtain ⟨he, vs, h2, rfl, rfl⟩ := hq'
        refine ⟨n1, fun ι w av rel hav fr => .inr ⟨?_, ?_⟩⟩
        · have hname' : ¬ fn.name = "runtime.NumGoroutine" := by simpa using hname
          simp [callFunc, hf, hname', hb]
        · have st : St F ι (F.c.ann f).locals [] (args ++ List.replicate (fn.ntmps - args.length) .dead) h (av ++ Array.replicate (fn.ntmps - av.size) undef) w ∧ ∀ t us, nth (args ++ List.replicate (fn.ntmps - args.length) .dead) t ≠ .cell us := by
            exact enter_st rel hav fn.ntmps
          obtain ⟨st, hnc⟩ := st
          refine calls_of_wp hf hb (wp_mono (wp_of_X (s1 ι _ w st fr)) fun e' a w' ha => ?_)
          obtain ⟨he', hd, ι', st', ts⟩ := ha
          have hres : ∃ u, (results fn a.tmps).run F.c.P w' = .ok u w' ∧ VRel ι' F.ρ (packR vs) u := results_ok S.ok st' h2
          obtain ⟨u, u1, u2⟩ := hres
          have hnl : ∀ b, ¬ LocB (args ++ List.replicate (fn.ntmps - args.length) .dead) (av ++ Array.replicate (fn.ntmps - av.size) undef) b := by
            rintro b ⟨t, us, h3, _⟩; exact hnc t us h3
          have hout : Out F ι h w (packR vs) h' u w' := by
            refine ⟨ι', u2, st'.rel, ⟨ts.sub, ts.dom, ts.next, ts.keep.mono fun b _ hb => hb.resolve_right (hnl b), ts.own⟩⟩
          rcases he with rfl | rfl
          · simp only [AExit.to] at he'; subst he'; exact ⟨hd, u, u1, hout⟩
          · simp only [AExit.to] at he'; subst he'; exact ⟨hd, u, u1, hout⟩

end
end Go.Proofs.Ytbnlhhfobgjeaaa
