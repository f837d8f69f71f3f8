/-
  One step of a region.
-/
import Derived.Test.YtbnlhhfobgjeaaaZzNext
set_option linter.all false
namespace Go.Proofs.Ytbnlhhfobgjeaaa
open Go Go.RowKit

theorem Res.bind_assoc {α β γ : Type} (m : Res α) (f : α → Res β) (g : β → Res γ) : (m.bind f).bind g = m.bind fun a => (f a).bind g := by
  cases m <;> rfl

def step1 (C : CallR) (c : Cfg) (loc : List Nat) (al : List (Nat × Nat)) (bad : List Nat) (ops : Array Oper) (o : Oper) (s : RS) : Res RS :=
  stepK (ansR C RS) c loc al bad ops o s .ok

@[simp] theorem Res.ok_bind {α β : Type} (a : α) (f : α → Res β) : (Res.ok a).bind f = f a := rfl
@[simp] theorem Res.err_bind {α β : Type} (n : Nat) (f : α → Res β) : (Res.err n : Res α).bind f = .err n := rfl

theorem stepK_eq {α : Type} (C : CallR) (c : Cfg) (loc : List Nat) (al : List (Nat × Nat)) (bad : List Nat) (ops : Array Oper) (o : Oper) (s : RS) (K : RS → Res α) :
    stepK (ansR C α) c loc al bad ops o s K = (step1 C c loc al bad ops o s).bind K := by
  unfold step1 stepK
  split
  · split
    · simp only [ansR, Res.bind_assoc, Res.ok_bind]
    · simp only [ansR, Res.bind_assoc]
      congr 1; funext b
      congr 1; funext fa
      cases b <;> simp [Res.bind_assoc]
  · split
    · simp only [ansR, Res.bind_assoc, Res.ok_bind]
    · simp only [ansR, Res.bind_assoc, Res.ok_bind]
    · split <;> simp only [ansR, Res.bind_assoc, Res.ok_bind, Res.err_bind]
    · simp only [ansR, Res.bind_assoc, Res.ok_bind]
    · split <;> simp only [ansR, Res.bind_assoc, Res.ok_bind, Res.err_bind]

def runText1 (C : CallR) (c : Cfg) (loc : List Nat) (al : List (Nat × Nat)) (bad : List Nat) (ops : Array Oper) (l : List Oper) (s : RS) : Res RS :=
  runText (ansR C RS) c loc al bad ops l s .ok

theorem runText_eq {α : Type} (C : CallR) (c : Cfg) (loc : List Nat) (al : List (Nat × Nat)) (bad : List Nat) (ops : Array Oper) (K : RS → Res α) : ∀ (l : List Oper) (s : RS),
    runText (ansR C α) c loc al bad ops l s K = (runText1 C c loc al bad ops l s).bind K
  | [], s => rfl
  | o :: l, s => by
    unfold runText1
    simp only [runText]
    rw [stepK_eq, stepK_eq, Res.bind_assoc]
    congr 1; funext s'
    rw [runText_eq C c loc al bad ops K l s']; rfl

theorem runText1_cons (C : CallR) (c : Cfg) (loc : List Nat) (al : List (Nat × Nat)) (bad : List Nat) (ops : Array Oper) (o : Oper) (l : List Oper) (s : RS) :
    runText1 C c loc al bad ops (o :: l) s = (step1 C c loc al bad ops o s).bind fun s' => runText1 C c loc al bad ops l s' := by
  unfold runText1; simp only [runText]; rw [stepK_eq]

/-! ### calls -/
def CallTo (P : Program) (f : Nat) (args : Array Value) (w : World) (R : Value → World → Prop) : Prop :=
  (∃ v w', (callFunc f args).run P w = .ok (.value v) w' ∧ R v w') ∨
  ((callFunc f args).run P w = .ok (.enter f args) w ∧ Calls P f args w fun | .returned v, w' => R v w' | _, _ => False)

def CallSound (F : Fix) (C : CallR) : Prop := ∀ f args h v h', C f args h = .ok (v, h') → h.next ≤ h'.next ∧
  ∀ ι w (av : Array Value), Rel F ι h w → VRels ι F.ρ args av.toList → Fresh ι h.next h'.next → CallTo F.c.P f av w (Out F ι h w v h')

/-- what a callee is -/
theorem methodR_run {P : Program} {t : Nat} {name : String} {f : Nat} {ev : Value} {args : Array Value} {w : World} (hq : methodR P t name = .ok f) :
    (callMethod (.iface t ev) name args).run P w = (callFunc f (#[ev] ++ args)).run P w := by
  unfold methodR at hq
  obtain ⟨i, h1, hq⟩ := Res.bind_ok hq
  obtain ⟨m, h2, hq⟩ := Res.bind_ok hq
  have hi := infoR_ok h1
  have hm := ofOpt_ok h2
  split at hq
  rotate_left; · cases hq
  rename_i hp
  have hp' : m.path.toList = [] := by simpa using hp
  have hd : Made.depth = (Made.depth - 1) + 1 := by decide
  split at hq
  · rename_i f' ptr hf
    obtain ⟨d, h3, hq⟩ := Res.bind_ok hq
    have hu := undR_ok h3
    simp only [callMethod, Sem.run_bind, run_program, Result.andThen_ok]
    rw [hd, ← Nat.add_assoc]
    simp only [Go.method, Sem.run_bind, run_typeInfo' hi, Result.andThen_ok, hm, hp', Go.follow, Sem.run_pure, hf]
    split at hq
    · split at hq
      · rename_i hptr
        cases hq
        simp [receiverAt, run_und hu, hptr, Place.get]
      · cases hq
    · split at hq
      · cases hq
      · rename_i hnp hptr
        cases hq
        have : ptr = false := by simpa using hptr
        subst this
        simp only [receiverAt, Sem.run_bind, run_und hu, Result.andThen_ok]
        simp [Place.get]
  · cases hq

section
variable {F : Fix} {ι : Inj} {h : AHeap} {w : World} {loc : List Nat} {al : List (Nat × Nat)} {env : List AVal} {tm : Array Value}

/-- blocks that stay -/
theorem Rel.keep (r : Rel F ι h w) {B : Nat → Prop} {w' : World} (k : Keep B w w') (hB : ∀ b, B b → F.N ≤ b) (hO : ∀ b, Own ι h b → w'.heap[b]? = w.heap[b]?) : Rel F ι h w' := by
  refine ⟨k.below r.below (Nat.le_refl _) hB, fun o x hx => ?_, r.inj, r.lt⟩
  obtain ⟨e, e1, e2, e3⟩ := r.obj o x hx
  exact ⟨e, e1, e2, e3.mono (Sub.refl _) (hO _ ⟨o, x, e, hx, e1, rfl⟩)⟩

/-! ### what an operation's outcome leads to -/
def StepTo (P : Program) (ops : Array Oper) (i : Nat) (tm : Array Value) (w : World) (R : Array Value → World → Prop) : Prop :=
  ∀ (Q : Exit → Act → World → Prop) (K : Act → World → Prop) (ds : List Deferred), (∀ tm' w', R tm' w' → K ⟨tm', ds⟩ w') → wpOp P ops Q i K ⟨tm, ds⟩ w

def putT (tm : Array Value) (d : Option Nat) (v : Value) : Array Value :=
  match d with
  | some d => tm.setIfInBounds d v
  | none => tm

theorem put_eq (tm : Array Value) (ds : List Deferred) (d : Option Nat) (v : Value) : (⟨tm, ds⟩ : Act).put d v = ⟨putT tm d v, ds⟩ := by
  cases d <;> rfl

theorem StepTo.op {P : Program} {ops : Array Oper} {i : Nat} {o : Oper} {tm : Array Value} {w : World} {R : Array Value → World → Prop} (ho : ops[i]? = some o)
    (hw : Region.wanted o (yielded ops tm) = true) (h : ∀ ds, OpTo P (execOp (⟨tm, ds⟩ : Act).eval o) w fun v w' => R (putT tm o.dst v) w') : StepTo P ops i tm w R := by
  intro Q K ds hK
  simp only [wpOp, ho]
  rw [if_pos hw]
  left
  obtain ⟨v, w', h1, h2⟩ := h ds
  unfold Oper.wp
  rcases h1 with h1 | ⟨h1, rfl⟩
  · rw [h1, Oper.upon_value, put_eq]; exact hK _ _ h2
  · rw [h1, Oper.upon_skip, put_eq]; exact hK _ _ h2

theorem StepTo.call {P : Program} {ops : Array Oper} {i : Nat} {o : Oper} {tm : Array Value} {w : World} {R : Array Value → World → Prop} (ho : ops[i]? = some o)
    (hw : Region.wanted o (yielded ops tm) = true) {f : Nat} {args : Array Value} (hc : ∀ ds, (execOp (⟨tm, ds⟩ : Act).eval o).run P w = (callFunc f args).run P w)
    (h : CallTo P f args w fun v w' => R (putT tm o.dst v) w') : StepTo P ops i tm w R := by
  intro Q K ds hK
  simp only [wpOp, ho]
  rw [if_pos hw]
  left
  unfold Oper.wp
  rw [hc]
  rcases h with ⟨v, w', h1, h2⟩ | ⟨h1, h2⟩
  · rw [h1, Oper.upon_value, put_eq]; exact hK _ _ h2
  · rw [h1, Oper.upon_enter]
    refine Calls.mono h2 fun e w' he => ?_
    cases e with
    | returned v => simp only [put_eq]; exact hK _ _ he
    | panicked _ => exact he.elim
    | outgrown => exact he.elim

theorem StepTo.skip {P : Program} {ops : Array Oper} {i : Nat} {o : Oper} {tm : Array Value} {w : World} {R : Array Value → World → Prop} (ho : ops[i]? = some o)
    (hw : Region.wanted o (yielded ops tm) = false) (h : R (putT tm o.dst undef) w) : StepTo P ops i tm w R := by
  intro Q K ds hK
  simp only [wpOp, ho]
  rw [if_neg (by simp [hw]), put_eq]
  exact hK _ _ h

theorem StepTo.mono {P : Program} {ops : Array Oper} {i : Nat} {tm : Array Value} {w : World} {R R' : Array Value → World → Prop} (h : StepTo P ops i tm w R) (hR : ∀ tm w, R tm w → R' tm w) : StepTo P ops i tm w R' :=
  fun Q K ds hK => h Q K ds fun tm' w' hr => hK _ _ (hR _ _ hr)

/-- what the slots hold -/
theorem EnvOk.opnd_ok {bad : List Nat} (ok : F.Ok) (e : EnvOk F ι h loc al env tm w) (hb1 : ∀ t, loc.contains t = true → bad.contains t = true) (hb2 : ∀ t s, lookN al t = some s → bad.contains t = true)
    (ds : List Deferred) (x : Operand) (a : AVal) (hx : opnd bad env x = .ok a) : VRel ι F.ρ a ((⟨tm, ds⟩ : Act).eval x) := by
  unfold opnd at hx
  split at hx
  · rename_i t
    split at hx
    · cases hx
    · rename_i hbt
      cases hx
      have h1 : loc.contains t = false := by
        cases hc : loc.contains t with
        | false => rfl
        | true => exact absurd (hb1 t hc) hbt
      have h2 : lookN al t = none := by
        cases hc : lookN al t with
        | none => rfl
        | some s => exact absurd (hb2 t s hc) hbt
      have := (e.slot t).val h1 h2
      simpa [Act.eval, Array.getD_eq_getD_getElem?] using this
  · rename_i v
    exact toA_ok (ofOpt_ok hx)
  · rename_i g
    split at hx
    · rename_i hg
      cases hx
      exact ⟨(g, 0), ok.glob g hg, by simp [Act.eval]⟩
    · cases hx
  · cases hx
    exact ⟨#[], #[], by simp [Act.eval], rfl, rfl⟩

theorem EnvOk.wanted_ok (e : EnvOk F ι h loc al env tm w) {ops : Array Oper} {o : Oper} {b : Bool} (hq : wantedR ops env o = .ok b) : Region.wanted o (yielded ops tm) = b := by
  unfold wantedR at hq
  unfold Region.wanted
  split at hq
  · rename_i hg; cases hq; simp [hg]
  · rename_i j want hg
    simp only [hg]
    split at hq
    rotate_left; · cases hq
    rename_i d hd
    have hs := e.slot d
    unfold SlotOk at hs
    have hy : yielded ops tm j = (match tm[d]? with | some (.bool b) => some b | _ => none) := by
      unfold yielded; rw [hd]; rfl
    rw [hy]
    split at hq
    · rename_i b' hn
      simp only [hn, VRel] at hs
      cases hq
      cases ht : tm[d]? with
      | none => rw [Array.getD_eq_getD_getElem?, ht] at hs; cases hs
      | some v => rw [Array.getD_eq_getD_getElem?, ht] at hs; simp at hs; subst hs; rfl
    · rename_i hn
      simp only [hn] at hs
      cases hq
      obtain ⟨a, h1, h2⟩ := hs
      have h3 : a = #[] := by apply Array.toList_inj.1; simpa [VRels] using h2
      subst h3
      cases ht : tm[d]? with
      | none => cases want <;> rfl
      | some v => rw [Array.getD_eq_getD_getElem?, ht] at h1; simp at h1; subst h1; cases want <;> rfl
    · cases hq


/-- a value put -/
theorem St.put (st : St F ι loc al env h tm w) (hal : ∀ t s, lookN al t = some s → loc.contains s = true) {o : Oper} (hd : ∀ d, o.dst = some d → loc.contains d = false)
    {v : AVal} {h' : AHeap} {u : Value} {w' : World} (out : Out F ι h w v h' u w') :
    ∃ ι', St F ι' loc al (putD env o v) h' (putT tm o.dst u) w' ∧ TStep ι h env tm w ι' h' (putD env o v) (putT tm o.dst u) w' := by
  obtain ⟨ι', hv, r', sp⟩ := out
  refine ⟨ι', ?_⟩
  have e1 := st.env.step sp
  have key : ∀ env' tm', EnvOk F ι' h' loc al env' tm' w' → (∀ b, LocB env' tm' b → LocB env tm b) → St F ι' loc al env' h' tm' w' ∧ TStep ι h env tm w ι' h' env' tm' w' := by
    intro env' tm' e2 lb
    refine ⟨⟨r', e2⟩, ⟨sp.sub, sp.dom, sp.next, sp.keep.mono (fun _ _ hb => .inl hb), sp.own, fun b hb => .inl (lb b hb)⟩⟩
  unfold putD putT
  cases hdst : o.dst with
  | none => exact key _ _ e1 fun _ hb => hb
  | some d =>
    obtain ⟨e2, lb⟩ := e1.put hal (hd d hdst) hv
    exact key _ _ e2 lb

theorem Out.same {v : AVal} {u : Value} (r : Rel F ι h w) (hv : VRel ι F.ρ v u) : Out F ι h w v h u w := ⟨ι, hv, r, Step.refl _ _ _⟩

/-- what is called -/
theorem callee_ok {ρ : RoMap} {c : Cfg} {bad : List Nat} {ev : Operand → Value} (hev : ∀ x a, opnd bad env x = .ok a → VRel ι ρ a (ev x)) {o : Oper} {x : Call} (hx : callOf o = some x) {f : Nat} {args : List AVal}
    (hq : calleeR c bad env x = .ok (f, args)) : ∃ av : Array Value, VRels ι ρ args av.toList ∧ (execOp ev o).run c.P w = (callFunc f av).run c.P w := by
  unfold callOf at hx
  split at hx
  rotate_left; · cases hx
  rename_i x' hop
  unfold calleeR at hq
  obtain ⟨as, h1, hq⟩ := Res.bind_ok hq
  have ha := opnds_ok hev _ _ h1
  split at hx
  · cases hx
  · rename_i hnb
    cases hx
    simp only [execOp, hop, resolve]
    split at hq
    · rename_i fo hf
      obtain ⟨v, h2, hq⟩ := Res.bind_ok hq
      split at hq
      rotate_left; · cases hq
      rename_i f' first cap
      cases hq
      obtain ⟨a', b', e1, e2, e3⟩ := hev _ _ h2
      refine ⟨a' ++ x.args.map ev ++ b', ?_, ?_⟩
      · simpa using (e2.append ha).append e3
      · rw [hf]; simp [e1, Deferred.ofValue, invoke]
    · rename_i ro name hf
      obtain ⟨v, h2, hq⟩ := Res.bind_ok hq
      split at hq
      rotate_left; · cases hq
      rename_i t rv
      obtain ⟨f', h3, hq⟩ := Res.bind_ok hq
      cases hq
      obtain ⟨y, e1, e2⟩ := hev _ _ h2
      refine ⟨#[y] ++ x.args.map ev, ?_, ?_⟩
      · have : (#[y] ++ x.args.map ev).toList = y :: x.args.toList.map ev := by simp
        rw [this]; exact ⟨y, _, rfl, e2, ha⟩
      · rw [hf]
        have h0 : (#[ev ro] ++ x.args.map ev)[0]? = some (ev ro) := by
          rw [← Array.getElem?_toList]; simp
        have h1' : (#[ev ro] ++ x.args.map ev).extract 1 (#[ev ro] ++ x.args.map ev).size = x.args.map ev := by
          apply Array.toList_inj.1; simp [List.take_of_length_le]
        simp only [Sem.run_bind, Sem.run_pure, Result.andThen_ok, invoke, h0, h1']
        rw [e1]; exact methodR_run h3
    · cases hq


theorem EnvOk.keep (e : EnvOk F ι h loc al env tm w) {w' : World} (hk : ∀ b, LocB env tm b → w'.heap[b]? = w.heap[b]?) : EnvOk F ι h loc al env tm w' := by
  refine ⟨e.size, fun t => ?_, e.apart⟩
  have := e.slot t
  unfold SlotOk at this ⊢
  split
  · rename_i vs hv
    simp only [hv] at this
    obtain ⟨h1, b, c, T, h2, h3, h4, h5, h6⟩ := this
    exact ⟨h1, b, c, T, h2, h3, h4, by rw [hk b ⟨t, vs, hv, h2⟩]; exact h5, h6⟩
  · rename_i off valid hv
    simp only [hv] at this
    exact this
  · rename_i a hn1 hn2
    revert this
    cases hx : nth env t <;> simp_all

/-- a slot pointed into a cell, or not worked out -/
theorem St.putLoc (st : St F ι loc al env h tm w) (hal : ∀ t s, lookN al t = some s → loc.contains s = true) {o : Oper} {d s off : Nat} {valid : Bool} {u : Value} (hdst : o.dst = some d) (hd : loc.contains d = false) (hl : lookN al d = some s)
    (hv : valid = true → ∃ b, u = .pointer (some ⟨b, off, none⟩) ∧ tm[s]? = some (.pointer (some ⟨b, 0, none⟩))) :
    St F ι loc al (putD env o (.loc off valid)) h (putT tm o.dst u) w ∧ TStep ι h env tm w ι h (putD env o (.loc off valid)) (putT tm o.dst u) w := by
  unfold putD putT
  rw [hdst]
  obtain ⟨e2, lb⟩ := st.env.putLoc hal hd hl hv
  exact ⟨⟨st.rel, e2⟩, ⟨Sub.refl _, fun _ => .inr (.inl rfl), Nat.le_refl _, Keep.refl _ _, fun b hb => .inl hb, fun b hb => .inl (lb b hb)⟩⟩

/-- where a slot points into its cell -/
theorem EnvOk.base (e : EnvOk F ι h loc al env tm w) {t s off : Nat} (hts : t = s ∨ lookN al t = some s) (hq : baseOff env t s = .ok (off, true)) :
    ∃ b, tm[t]? = some (.pointer (some ⟨b, off, none⟩)) ∧ tm[s]? = some (.pointer (some ⟨b, 0, none⟩)) := by
  unfold baseOff at hq
  split at hq
  · rename_i hd
    have : t = s := by simpa using hd
    subst this
    split at hq
    · rename_i vs hn
      cases hq
      have := e.slot t
      unfold SlotOk at this
      simp only [hn] at this
      obtain ⟨_, b, c, T, h2, _⟩ := this
      exact ⟨b, h2, h2⟩
    · cases hq
  · rename_i hd
    have hne : t ≠ s := by simpa using hd
    split at hq
    · rename_i off' valid hn
      cases hq
      have := e.slot t
      unfold SlotOk at this
      simp only [hn] at this
      obtain ⟨s', h1, h2⟩ := this
      rcases hts with hts | hts
      · exact absurd hts hne
      · rw [hts] at h1; cases h1
        exact h2 trivial
    · cases hq


theorem slotOf_ok {x : Operand} {t s : Nat} (hq : slotOf loc al x = some (t, s)) : x = .tmp t ∧ ((t = s ∧ loc.contains t = true) ∨ lookN al t = some s) := by
  unfold slotOf at hq
  split at hq
  rotate_left; · cases hq
  rename_i t'
  split at hq
  · rename_i hl; cases hq; exact ⟨rfl, .inl ⟨rfl, hl⟩⟩
  · split at hq
    · rename_i s' hs; cases hq; exact ⟨rfl, .inr hs⟩
    · cases hq


def HowP (loc : List Nat) (al : List (Nat × Nat)) (o : Oper) : How → Prop
  | .plain => True
  | .alias_ t s => ∃ x, slotOf loc al x = some (t, s) ∧ (o.op = .move x ∨ o.op = .nilCheck x ∨ (∃ T f, o.op = .fieldAddr T x f) ∨ ∃ T i, o.op = .indexAddr T x i)
  | .make d => o.dst = some d ∧ loc.contains d = true ∧ ((∃ T, o.op = .alloc T) ∨ ∃ T x, o.op = .box T x)
  | .load_ t s => ∃ T x, slotOf loc al x = some (t, s) ∧ o.op = .load T x
  | .store_ t s => ∃ T x y, slotOf loc al x = some (t, s) ∧ o.op = .store T x y

theorem how_inv' (loc : List Nat) (al : List (Nat × Nat)) (o : Oper) : HowP loc al o (how loc al o) := by
  obtain ⟨dst, op, type, pos, after, guard⟩ := o
  unfold how
  cases op
  case alloc T =>
    cases dst with
    | none => trivial
    | some d =>
      simp only
      split
      · rename_i hl; exact ⟨rfl, hl, .inl ⟨_, rfl⟩⟩
      · trivial
  case box T x =>
    cases dst with
    | none => trivial
    | some d =>
      simp only
      split
      · rename_i hl; exact ⟨rfl, hl, .inr ⟨_, _, rfl⟩⟩
      · trivial
  case move x =>
    simp only
    split
    · rename_i p hs; exact ⟨x, hs, .inl rfl⟩
    · trivial
  case nilCheck x =>
    simp only
    split
    · rename_i p hs; exact ⟨x, hs, .inr (.inl rfl)⟩
    · trivial
  case fieldAddr T x f =>
    simp only
    split
    · rename_i p hs; exact ⟨x, hs, .inr (.inr (.inl ⟨_, _, rfl⟩))⟩
    · trivial
  case indexAddr T x f =>
    simp only
    split
    · rename_i p hs; exact ⟨x, hs, .inr (.inr (.inr ⟨_, _, rfl⟩))⟩
    · trivial
  case load T x =>
    simp only
    split
    · rename_i p hs; exact ⟨T, x, hs, rfl⟩
    · trivial
  case store T x y =>
    simp only
    split
    · rename_i p hs; exact ⟨T, x, y, hs, rfl⟩
    · trivial
  all_goals trivial

theorem how_inv {o : Oper} {q : How} (hh : how loc al o = q) : HowP loc al o q := hh ▸ how_inv' loc al o

/-- an operation that points on in a cell -/
theorem alias_ok {bad : List Nat} {o : Oper} {t s off : Nat} (e : EnvOk F ι h loc al env tm w) (ev : Operand → Value) (hev : ∀ x a, opnd bad env x = .ok a → VRel ι F.ρ a (ev x)) (het : ∀ t, ev (.tmp t) = tm.getD t undef)
    (hh : how loc al o = .alias_ t s) (hq : aliasR F.c.P bad env t s o = .ok (off, true)) :
    ∃ b, (execOp ev o).run F.c.P w = .ok (.value (.pointer (some ⟨b, off, none⟩))) w ∧ tm[s]? = some (.pointer (some ⟨b, 0, none⟩)) := by
  unfold aliasR at hq
  obtain ⟨bo, h1, hq⟩ := Res.bind_ok hq
  obtain ⟨b0, v0⟩ := bo
  cases v0 with
  | false => cases hq
  | true =>
    obtain ⟨n, h2, hq⟩ := Res.bind_ok hq
    cases hq
    obtain ⟨x, hs, hop⟩ := how_inv hh
    obtain ⟨rfl, hts⟩ := slotOf_ok hs
    obtain ⟨b, b1, b2⟩ := e.base (hts.imp (·.1) id) h1
    have hx : ev (.tmp t) = .pointer (some ⟨b, b0, none⟩) := by rw [het, Array.getD_eq_getD_getElem?, b1]; rfl
    refine ⟨b, ?_, b2⟩
    unfold stepOff at h2
    rcases hop with hop | hop | ⟨T, f, hop⟩ | ⟨T, i, hop⟩
    · simp only [hop] at h2; cases h2; simp [execOp, hop, hx]
    · simp only [hop] at h2; cases h2; simp [execOp, hop, hx]
    · simp only [hop] at h2
      obtain ⟨fd, f1, h2⟩ := Res.bind_ok h2
      obtain ⟨n', f2, h2⟩ := Res.bind_ok h2
      split at h2
      · cases h2
      · rename_i hn
        cases h2
        obtain ⟨fs, hu, hf⟩ := fieldOf_ok f1
        simp [execOp, hop, hx, Instr.fieldAt, run_und hu, hf, Instr.sureAddr, fieldPlace, run_size f2, hn, add_none]
    · simp only [hop] at h2
      obtain ⟨d, f1, h2⟩ := Res.bind_ok h2
      split at h2
      rotate_left; · cases h2
      obtain ⟨size, f2, h2⟩ := Res.bind_ok h2
      obtain ⟨iv, f3, h2⟩ := Res.bind_ok h2
      obtain ⟨n', f4, h2⟩ := Res.bind_ok h2
      cases h2
      have hu := undR_ok f1
      obtain ⟨k, z, z0, z1, z2, z3⟩ := idx_ok f4 (hev _ _ f3)
      subst z3
      simp [execOp, hop, hx, Instr.indexAt, run_und hu, z0, asIntOf, run_size f2, Instr.sureAddr, z1, z2, add_none]

/-- a cell, with its block -/
theorem EnvOk.cell (e : EnvOk F ι h loc al env tm w) {t s off : Nat} {vs : List AVal} (hts : t = s ∨ lookN al t = some s) (hq : cellAt env t s = .ok (vs, off)) :
    nth env s = .cell vs ∧ ∃ b c T, tm[t]? = some (.pointer (some ⟨b, off, none⟩)) ∧ tm[s]? = some (.pointer (some ⟨b, 0, none⟩)) ∧ F.N ≤ b ∧ ¬ Own ι h b ∧ w.heap[b]? = some (.cells c T (0, 0)) ∧ VRels ι F.ρ vs c.toList ∧ ∀ v ∈ c.toList, oneC v = true := by
  unfold cellAt at hq
  split at hq
  rotate_left; · cases hq
  rename_i vs' hn
  obtain ⟨bo, h1, hq⟩ := Res.bind_ok hq
  split at hq
  rotate_left; · cases hq
  rename_i hb
  cases hq
  obtain ⟨b0, v0⟩ := bo
  simp only at hb; subst hb
  refine ⟨hn, ?_⟩
  obtain ⟨b, b1, b2⟩ := e.base hts h1
  have := e.slot s
  unfold SlotOk at this
  simp only [hn] at this
  obtain ⟨_, b', c, T, h2, h3⟩ := this
  rw [b2] at h2; cases h2
  exact ⟨b, c, T, b1, b2, h3⟩

theorem cells_at {ρ : RoMap} {vs : List AVal} {b : Nat} {c : Array Value} {T : TypeId} {fr : Nat × Nat} (hb : w.heap[b]? = some (.cells c T fr)) (hr : VRels ι ρ vs c.toList) (ho : ∀ v ∈ c.toList, oneC v = true) : CellsAt ι ρ w b 0 vs := by
  intro j a hj
  obtain ⟨v, v1, v2⟩ := hr.get hj
  refine ⟨v, ?_, ho v (List.mem_of_getElem? v1), v2⟩
  have : c[j]? = some v := by simpa using v1
  simp [World.cell?, hb, this]

theorem loadCell_ok {o : Oper} {t s : Nat} {v : AVal} (e : EnvOk F ι h loc al env tm w) (ev : Operand → Value) (het : ∀ t, ev (.tmp t) = tm.getD t undef)
    (hh : how loc al o = .load_ t s) (hq : loadCell F.c.P env t s o = .ok v) : ∃ u, (execOp ev o).run F.c.P w = .ok (.value u) w ∧ VRel ι F.ρ v u := by
  obtain ⟨T, x, hs, hop⟩ := how_inv hh
  obtain ⟨rfl, hts⟩ := slotOf_ok hs
  unfold loadCell at hq
  simp only [hop] at hq
  obtain ⟨vo, h1, hq⟩ := Res.bind_ok hq
  obtain ⟨vs, off⟩ := vo
  obtain ⟨_, b, c, T', b1, b2, _, _, b5, b6, b7⟩ := e.cell (hts.imp (·.1) id) h1
  obtain ⟨u, u1, u2⟩ := (cells_at b5 b6 b7).loadVar (P := F.c.P) hq
  refine ⟨u, ?_, u2⟩
  have hx : ev (.tmp t) = .pointer (some ⟨b, off, none⟩) := by rw [het, Array.getD_eq_getD_getElem?, b1]; rfl
  rw [Nat.zero_add] at u1
  simp [execOp, hop, hx, Instr.loadAt, Instr.sureAddr, u1]


/-- a cell written -/
theorem EnvOk.setCell (e : EnvOk F ι h loc al env tm w) {s b : Nat} {vs vs' : List AVal} {c c' : Array Value} {T : TypeId} (hn : nth env s = .cell vs) (hb : tm[s]? = some (.pointer (some ⟨b, 0, none⟩)))
    (hw : w.heap[b]? = some (.cells c T (0, 0))) (hrel : VRels ι F.ρ vs' c'.toList) (hone : ∀ v ∈ c'.toList, oneC v = true) :
    EnvOk F ι h loc al (setN env s (.cell vs')) tm (w.setRow b c') ∧ ∀ k, LocB (setN env s (.cell vs')) tm k → LocB env tm k := by
  have hback : ∀ t us, nth (setN env s (.cell vs')) t = .cell us → (t = s ∧ us = vs') ∨ (t ≠ s ∧ nth env t = .cell us) := by
    intro t us ht
    rw [nth_setN] at ht
    split at ht
    · rename_i hh; cases ht; exact .inl ⟨hh.1.symm, rfl⟩
    · rename_i hh
      right
      refine ⟨fun hts => hh ⟨hts.symm, ?_⟩, ht⟩
      have : s < tm.size := (Array.getElem?_eq_some_iff.1 hb).1
      rw [e.size]; exact this
  have hs := e.slot s
  unfold SlotOk at hs
  simp only [hn] at hs
  obtain ⟨s1, b', c0, T0, s2, s3, s4, s5, _⟩ := hs
  rw [hb] at s2; cases s2
  rw [hw] at s5; cases s5
  refine ⟨⟨by rw [length_setN]; exact e.size, fun t => ?_, ?_⟩, ?_⟩
  · by_cases hts : t = s
    · subst hts
      have hlt : t < env.length := by rw [e.size]; exact (Array.getElem?_eq_some_iff.1 hb).1
      unfold SlotOk
      rw [nth_setN, if_pos ⟨rfl, hlt⟩]
      exact ⟨s1, b, c', T, hb, s3, s4, setRow_heap w b c c' T (0, 0) hw, hrel, hone⟩
    · have hn' : nth (setN env s (.cell vs')) t = nth env t := by rw [nth_setN, if_neg (fun hh => hts hh.1.symm)]
      have ht := e.slot t
      unfold SlotOk at ht ⊢
      rw [hn']
      split
      · rename_i us hc
        simp only [hc] at ht
        obtain ⟨h1, b2, c2, T2, h2, h3, h4, h5, h6⟩ := ht
        refine ⟨h1, b2, c2, T2, h2, h3, h4, ?_, h6⟩
        rw [setRow_other w b b2 c' (fun hbb => ?_)]
        · exact h5
        · subst hbb
          exact hts (e.apart t s us vs _ hc hn h2 hb)
      · rename_i off valid hc
        simp only [hc] at ht
        exact ht
      · revert ht
        cases hx : nth env t <;> simp_all
  · intro t t' us us' k h1 h2 h3 h4
    rcases hback t us h1 with ⟨ht, _⟩ | ⟨_, h1'⟩ <;> rcases hback t' us' h2 with ⟨ht', _⟩ | ⟨_, h2'⟩
    · rw [ht, ht']
    · exact e.apart _ _ _ _ k (ht ▸ hn) h2' h3 h4
    · exact e.apart _ _ _ _ k h1' (ht' ▸ hn) h3 h4
    · exact e.apart _ _ _ _ k h1' h2' h3 h4
  · rintro k ⟨t, us, h1, h2⟩
    rcases hback t us h1 with ⟨rfl, _⟩ | ⟨_, h1⟩
    · exact ⟨t, vs, hn, h2⟩
    · exact ⟨t, us, h1, h2⟩

theorem how_dst {o : Oper} {t s : Nat} (hop : opOk loc al o = true) (hh : how loc al o = .alias_ t s) : ∃ d, o.dst = some d ∧ loc.contains d = false ∧ lookN al d = some s := by
  unfold opOk at hop
  rw [hh] at hop
  simp only at hop
  split at hop
  · rename_i d hd
    simp at hop
    refine ⟨d, hd, by simpa using hop.1, hop.2⟩
  · cases hop

theorem opOk_put {o : Oper} (hop : opOk loc al o = true) (h1 : ∀ d, how loc al o ≠ .make d) : ∀ d, o.dst = some d → loc.contains d = false := by
  intro d hd
  unfold opOk at hop
  split at hop
  · rename_i d' hh; exact absurd hh (h1 d')
  · rw [hd] at hop; simp at hop; simpa using hop.1
  · rw [hd] at hop; simpa using hop

set_option maxHeartbeats 1000000 in
theorem step_ok {C : CallR} {bad : List Nat} {ops : Array Oper} {i : Nat} {o : Oper} {s s' : RS} (ok : F.Ok) (hC : CallSound F C)
    (hal : ∀ t s, lookN al t = some s → loc.contains s = true) (hb1 : ∀ t, loc.contains t = true → bad.contains t = true) (hb2 : ∀ t s, lookN al t = some s → bad.contains t = true)
    (ho : ops[i]? = some o) (hop : opOk loc al o = true) (st : St F ι loc al s.env s.h tm w) (hq : step1 C F.c loc al bad ops o s = .ok s') (fr : Fresh ι s.h.next s'.h.next) :
    StepTo F.c.P ops i tm w fun tm' w' => ∃ ι', St F ι' loc al s'.env s'.h tm' w' ∧ TStep ι s.h s.env tm w ι' s'.h s'.env tm' w' := by
  have hev := st.env.opnd_ok ok hb1 hb2 []
  have hds : ∀ ds, (⟨tm, ds⟩ : Act).eval = (⟨tm, []⟩ : Act).eval := fun ds => funext fun x => by cases x <;> rfl
  have het : ∀ t, (⟨tm, []⟩ : Act).eval (.tmp t) = tm.getD t undef := fun _ => rfl
  unfold step1 stepK at hq
  split at hq
  · rename_i x hx
    have hnm : ∀ d, how loc al o ≠ .make d := by
      intro d hh
      obtain ⟨_, _, h1 | h1⟩ := how_inv hh
      · obtain ⟨T, h1⟩ := h1; simp [callOf, h1] at hx
      · obtain ⟨T, y, h1⟩ := h1; simp [callOf, h1] at hx
    have hdst := opOk_put hop hnm
    have hcall : ∀ (fa : Nat × List AVal) (r : AVal × AHeap), calleeR F.c bad s.env x = .ok fa → C fa.1 fa.2 s.h = .ok r → Fresh ι s.h.next r.2.next → Region.wanted o (yielded ops tm) = true →
        StepTo F.c.P ops i tm w fun tm' w' => ∃ ι', St F ι' loc al (putD s.env o r.1) r.2 tm' w' ∧ TStep ι s.h s.env tm w ι' r.2 (putD s.env o r.1) tm' w' := by
      rintro ⟨f, args⟩ ⟨v, h'⟩ h1 h2 hfr hw
      obtain ⟨av, a1, a2⟩ := callee_ok (w := w) hev hx h1
      obtain ⟨_, hc⟩ := hC _ _ _ _ _ h2
      have hto := hc ι w av st.rel a1 hfr
      have hput : ∀ u w', Out F ι s.h w v h' u w' → ∃ ι', St F ι' loc al (putD s.env o v) h' (putT tm o.dst u) w' ∧ TStep ι s.h s.env tm w ι' h' (putD s.env o v) (putT tm o.dst u) w' :=
        fun u w' out => st.put hal hdst out
      refine StepTo.call ho hw (f := f) (args := av) (fun ds => by rw [hds]; exact a2) ?_
      rcases hto with ⟨u, w', c1, c2⟩ | ⟨c1, c2⟩
      · exact .inl ⟨u, w', c1, hput _ _ c2⟩
      · refine .inr ⟨c1, Calls.mono c2 fun e w' he => ?_⟩
        cases e with
        | returned u => exact hput _ _ he
        | panicked _ => exact he.elim
        | outgrown => exact he.elim
    split at hq
    · rename_i hg
      simp only [ansR] at hq
      obtain ⟨fa, h1, hq⟩ := Res.bind_ok hq
      obtain ⟨r, h2, hq⟩ := Res.bind_ok hq
      cases hq
      exact hcall fa r h1 h2 fr (by simp [Region.wanted, hg])
    · rename_i g hg
      simp only [ansR] at hq
      obtain ⟨b, h0, hq⟩ := Res.bind_ok hq
      have hw := st.env.wanted_ok h0
      obtain ⟨fa, h1, hq⟩ := Res.bind_ok hq
      cases b with
      | true =>
        simp only at h1 hq
        obtain ⟨r, h2, hq⟩ := Res.bind_ok hq
        cases hq
        exact hcall fa r h1 h2 fr hw
      | false =>
        simp only at hq
        cases hq
        exact StepTo.skip ho hw (st.put hal hdst (Out.same st.rel ⟨#[], rfl, rfl⟩))
  · split at hq
    · -- plain
      rename_i hh
      have hdst := opOk_put hop (fun d hc => by rw [hh] at hc; cases hc)
      simp only [ansR] at hq
      obtain ⟨r, h1, hq⟩ := Res.bind_ok hq
      obtain ⟨v, h'⟩ := r
      cases hq
      have hdo : opR F.c bad s.env s.h o = .ok (v, h') → Region.wanted o (yielded ops tm) = true → StepTo F.c.P ops i tm w fun tm' w' => ∃ ι', St F ι' loc al (putD s.env o v) h' tm' w' ∧ TStep ι s.h s.env tm w ι' h' (putD s.env o v) tm' w' := by
        intro h2 hw
        refine StepTo.op ho hw fun ds => ?_
        rw [hds]
        obtain ⟨u, w', e1, e2⟩ := opR_ok ok st.rel hev h2 fr
        exact ⟨u, w', e1, st.put hal hdst e2⟩
      unfold ifG at h1
      split at h1
      · rename_i hg
        exact hdo h1 (by simp [Region.wanted, hg])
      · obtain ⟨b, h0, h1⟩ := Res.bind_ok h1
        have hw := st.env.wanted_ok h0
        cases b with
        | true => exact hdo h1 hw
        | false =>
          simp only at h1
          cases h1
          exact StepTo.skip ho hw (st.put hal hdst (Out.same st.rel ⟨#[], rfl, rfl⟩))
    · -- alias
      rename_i t sl hh
      obtain ⟨d, hd, hld, hls⟩ := how_dst hop hh
      simp only [ansR] at hq
      obtain ⟨r, h1, hq⟩ := Res.bind_ok hq
      obtain ⟨off, valid⟩ := r
      cases hq
      have hval : ∀ (b : Bool) (n : Nat), aliasR F.c.P bad s.env t sl o = .ok (n, b) → b = true := by
        intro b n hq
        unfold aliasR at hq
        obtain ⟨bo, _, hq⟩ := Res.bind_ok hq
        split at hq
        · obtain ⟨_, _, hq⟩ := Res.bind_ok hq; cases hq; rfl
        · cases hq
      have hdo : aliasR F.c.P bad s.env t sl o = .ok (off, valid) → Region.wanted o (yielded ops tm) = true → StepTo F.c.P ops i tm w fun tm' w' => ∃ ι', St F ι' loc al (putD s.env o (.loc off valid)) s.h tm' w' ∧ TStep ι s.h s.env tm w ι' s.h (putD s.env o (.loc off valid)) tm' w' := by
        intro h2 hw
        have := hval _ _ h2; subst this
        refine StepTo.op ho hw fun ds => ?_
        rw [hds]
        obtain ⟨b, b1, b2⟩ := alias_ok st.env _ hev het hh h2
        exact ⟨_, w, .inl b1, ι, st.putLoc hal hd hld hls fun _ => ⟨b, rfl, b2⟩⟩
      unfold ifG at h1
      split at h1
      · rename_i hg
        exact hdo h1 (by simp [Region.wanted, hg])
      · obtain ⟨b, h0, h1⟩ := Res.bind_ok h1
        have hw := st.env.wanted_ok h0
        cases b with
        | true => exact hdo h1 hw
        | false =>
          simp only at h1
          cases h1
          exact StepTo.skip ho hw ⟨ι, st.putLoc hal hd hld hls (fun hc => by cases hc)⟩
    · -- make
      rename_i d hh
      split at hq
      · rename_i hg
        simp only [ansR] at hq
        obtain ⟨vs, h1, hq⟩ := Res.bind_ok hq
        cases hq
        obtain ⟨hd, hld, hop'⟩ := how_inv hh
        refine StepTo.op ho (by simp [Region.wanted, hg]) fun ds => ?_
        rw [hds]
        have hrun : ∃ (c : Array Value) (T : TypeId), (execOp (⟨tm, []⟩ : Act).eval o).run F.c.P w = .ok (.value (.pointer (some ⟨w.heap.size, 0, none⟩))) { w with heap := w.heap.push (.cells c T) } ∧ VRels ι F.ρ vs c.toList ∧ ∀ v ∈ c.toList, oneC v = true := by
          unfold makeCells at h1
          rcases hop' with ⟨T, hop'⟩ | ⟨T, x, hop'⟩
          · simp only [hop'] at h1
            unfold zeroCellsR at h1
            obtain ⟨z, hz, h1⟩ := Res.bind_ok h1
            obtain ⟨zv, z1, z2⟩ := zeroV_ok (ι := ι) (ρ := F.ρ) hz
            obtain ⟨c1, c2⟩ := z2.cells h1
            exact ⟨zv.cells, T, by simp [execOp, hop', Instr.alloc, z1, newVar, Go.newRow], c1, c2⟩
          · simp only [hop'] at h1
            obtain ⟨a, ha, h1⟩ := Res.bind_ok h1
            have hr := hev _ _ ha
            obtain ⟨c1, c2⟩ := hr.cells h1
            exact ⟨_, T, by simp [execOp, hop', Instr.box, newVar, Go.newRow], c1, c2⟩
        obtain ⟨c, T, r1, r2, r3⟩ := hrun
        refine ⟨_, _, .inl r1, ι, ?_⟩
        have hk : Keep (fun b => False) w { w with heap := w.heap.push (.cells c T) } :=
          ⟨rfl, rfl, rfl, by simp, fun k hk _ => by simp [Array.getElem?_push, Nat.ne_of_lt hk]⟩
        have hblk : ∀ k, k < w.heap.size → ({ w with heap := w.heap.push (.cells c T) } : World).heap[k]? = w.heap[k]? := fun k hk => by simp [Array.getElem?_push, Nat.ne_of_lt hk]
        obtain ⟨m1, m2⟩ := EnvOk.make st.rel st.env (d := d) (T := T) hld r2 r3 (w' := { w with heap := w.heap.push (.cells c T) }) rfl
        unfold putT
        rw [hd]
        refine ⟨⟨st.rel.keep hk (fun _ hb => hb.elim) (fun b hb => hblk b (st.rel.own_lt b hb)), m1⟩, ⟨Sub.refl _, fun _ => .inr (.inl rfl), Nat.le_refl _, hk.mono (fun _ _ hb => hb.elim), fun b hb => .inl hb, fun b hb => ?_⟩⟩
        rcases m2 b hb with hb | hb
        · exact .inl hb
        · exact .inr (by omega)
      · cases hq
    · -- load
      rename_i t sl hh
      have hdst := opOk_put hop (fun d hc => by rw [hh] at hc; cases hc)
      simp only [ansR] at hq
      obtain ⟨v, h1, hq⟩ := Res.bind_ok hq
      cases hq
      have hdo : loadCell F.c.P s.env t sl o = .ok v → Region.wanted o (yielded ops tm) = true → StepTo F.c.P ops i tm w fun tm' w' => ∃ ι', St F ι' loc al (putD s.env o v) s.h tm' w' ∧ TStep ι s.h s.env tm w ι' s.h (putD s.env o v) tm' w' := by
        intro h2 hw
        refine StepTo.op ho hw fun ds => ?_
        rw [hds]
        obtain ⟨u, b1, b2⟩ := loadCell_ok st.env _ het hh h2
        exact ⟨_, w, .inl b1, st.put hal hdst (Out.same st.rel b2)⟩
      unfold ifG at h1
      split at h1
      · rename_i hg
        exact hdo h1 (by simp [Region.wanted, hg])
      · obtain ⟨b, h0, h1⟩ := Res.bind_ok h1
        have hw := st.env.wanted_ok h0
        cases b with
        | true => exact hdo h1 hw
        | false =>
          simp only at h1
          cases h1
          exact StepTo.skip ho hw (st.put hal hdst (Out.same st.rel ⟨#[], rfl, rfl⟩))
    · -- store
      rename_i t sl hh
      split at hq
      · rename_i hg hdn
        simp only [ansR] at hq
        obtain ⟨vs', h1, hq⟩ := Res.bind_ok hq
        cases hq
        refine StepTo.op ho (by simp [Region.wanted, hg]) fun ds => ?_
        rw [hds]
        obtain ⟨T, x, y, hs, hop'⟩ := how_inv hh
        obtain ⟨rfl, hts⟩ := slotOf_ok hs
        unfold storeCell at h1
        simp only [hop'] at h1
        obtain ⟨vo, h2, h1⟩ := Res.bind_ok h1
        obtain ⟨vs, off⟩ := vo
        obtain ⟨a, h3, h1⟩ := Res.bind_ok h1
        obtain ⟨n, h4, h1⟩ := Res.bind_ok h1
        obtain ⟨cs, h5, h1⟩ := Res.bind_ok h1
        split at h1
        rotate_left; · cases h1
        rename_i hl
        obtain ⟨hov, rfl⟩ := overR_ok h1
        have hov : off + cs.length ≤ vs.length := hov
        obtain ⟨hn, b, c, T', b1, b2, b3, b4, b5, b6, b7⟩ := st.env.cell (hts.imp (·.1) id) h2
        obtain ⟨c1, c2⟩ := (hev _ _ h3).cells h5
        have hlen := c1.length
        have hvl := b6.length
        have hx : (⟨tm, []⟩ : Act).eval (.tmp t) = .pointer (some ⟨b, off, none⟩) := by rw [het, Array.getD_eq_getD_getElem?, b1]; rfl
        have hrun := run_storeCells' (P := F.c.P) b off T' (0, 0) ((⟨tm, []⟩ : Act).eval y).cells.toList 0 c w b5 (.inl (Nat.le_refl _)) (by simp at hlen hvl ⊢; omega) c2
        have hsz : ((⟨tm, []⟩ : Act).eval y).cells.size = n := by simp at hlen; omega
        obtain ⟨R, hR⟩ : ∃ R, R = (c.toList.take (off + 0) ++ ((⟨tm, []⟩ : Act).eval y).cells.toList ++ c.toList.drop (off + 0 + ((⟨tm, []⟩ : Act).eval y).cells.toList.length)).toArray := ⟨_, rfl⟩
        rw [← hR] at hrun
        refine ⟨undef, w.setRow b R, .inr ⟨by simp [execOp, hop', hx, Instr.storeAt, Instr.sureAddr, storeVar, run_size h4, hsz, hrun], rfl⟩, ι, ?_⟩
        unfold putT
        rw [hdn]
        simp only
        have hcs : VRels ι F.ρ (vs.take off ++ cs ++ vs.drop (off + cs.length)) R.toList := by
          rw [hR, ← hlen]
          simpa using ((b6.take off).append c1).append (b6.drop (off + cs.length))
        obtain ⟨m1, m2⟩ := st.env.setCell (c' := R) hn b2 b5 hcs (by
          intro v hv
          rw [hR] at hv
          simp at hv
          rcases hv with hv | hv | hv
          · exact b7 v (List.mem_of_mem_take hv)
          · exact c2 v (by simpa using hv)
          · exact b7 v (List.mem_of_mem_drop hv))
        have hk := Keep.setRow w b R
        refine ⟨⟨st.rel.keep hk (fun k hk => by rw [hk]; exact b3) (fun k hk' => setRow_other w b k _ (fun hh => b4 (hh ▸ hk'))), m1⟩, ⟨Sub.refl _, fun _ => .inr (.inl rfl), Nat.le_refl _, hk.mono (fun k _ hb => by subst hb; exact .inr ⟨_, _, hn, b2⟩), fun k hb => .inl hb, fun k hb => .inl (m2 k hb)⟩⟩
      · cases hq

end
end Go.Proofs.Ytbnlhhfobgjeaaa
