/-
  A part of the proof of ConsoleParses, over the seat YtofnbldbggddmaaGreatDoor: for every input the law returns true, and the input reads as it did.
-/
import Derived.Test.YtofnbldbggddmaaGreatDoorGc
import Derived.Scope
import Derived.Orders
import Derived.ChangeSame
import Derived.Below
set_option linter.all false
namespace Go.Proofs.YtofnbldbggddmaaGreatDoor
open Go Go.RowKit

def Nx (h : AHeap) (r : Res (AVal × AHeap)) : Prop := ∀ v h', r = .ok (v, h') → h.next ≤ h'.next
def NxH (h : AHeap) (r : Res AHeap) : Prop := ∀ h', r = .ok h' → h.next ≤ h'.next

theorem Nx.err {h : AHeap} {n : Nat} : Nx h (.err n) := fun _ _ hh => by cases hh
theorem Nx.same {h : AHeap} {v : AVal} : Nx h (.ok (v, h)) := fun _ _ hh => by cases hh; exact Nat.le_refl _
theorem Nx.set {h : AHeap} {v : AVal} {o : Nat} {x : AObj} : Nx h (.ok (v, h.set o x)) := fun _ _ hh => by cases hh; exact Nat.le_refl _
theorem Nx.push {h : AHeap} {v : AVal} {x : AObj} : Nx h (.ok (v, h.push x)) := fun _ _ hh => by cases hh; exact Nat.le_succ _
theorem Nx.del {h : AHeap} {v : AVal} {o : Nat} {x : AObj} : Nx h (.ok (v, (h.del o).push x)) := fun _ _ hh => by cases hh; exact Nat.le_succ _
theorem Nx.bind {α : Type} {h : AHeap} {m : Res α} {f : α → Res (AVal × AHeap)} (hf : ∀ a, Nx h (f a)) : Nx h (m.bind f) := fun v h' hh => by
  obtain ⟨a, _, h2⟩ := Res.bind_ok hh; exact hf a v h' h2
theorem Nx.pure {h : AHeap} {r : Res AVal} : Nx h (pureV h r) := Nx.bind fun _ => Nx.same
theorem NxH.err {h : AHeap} {n : Nat} : NxH h (.err n) := fun _ hh => by cases hh
theorem NxH.set {h : AHeap} {o : Nat} {x : AObj} : NxH h (.ok (h.set o x)) := fun _ hh => by cases hh; exact Nat.le_refl _
theorem NxH.bind {α : Type} {h : AHeap} {m : Res α} {f : α → Res AHeap} (hf : ∀ a, NxH h (f a)) : NxH h (m.bind f) := fun h' hh => by
  obtain ⟨a, _, h2⟩ := Res.bind_ok hh; exact hf a h' h2
theorem Nx.of_H {h : AHeap} {m : Res AHeap} {v : AVal} (hm : NxH h m) : Nx h (m.bind fun h' => .ok (v, h')) := fun _ h' hh => by
  obtain ⟨a, h1, h2⟩ := Res.bind_ok hh; cases h2; exact hm _ h1

theorem storeR_next {c : Cfg} {h : AHeap} {t : Nat} {x v : AVal} : NxH h (storeR c h t x v) := by unfold storeR; repeat' (first | exact Nx.err | exact Nx.same | exact Nx.set | exact Nx.push | exact Nx.del | exact Nx.pure | exact NxH.err | exact NxH.set | (with_reducible refine Nx.bind (fun _ => ?_)) | (with_reducible refine NxH.bind (fun _ => ?_)) | split)
theorem mapUpdateR_next {c : Cfg} {h : AHeap} {t : Nat} {x k v : AVal} : NxH h (mapUpdateR c h t x k v) := by unfold mapUpdateR; repeat' (first | exact Nx.err | exact Nx.same | exact Nx.set | exact Nx.push | exact Nx.del | exact Nx.pure | exact NxH.err | exact NxH.set | (with_reducible refine Nx.bind (fun _ => ?_)) | (with_reducible refine NxH.bind (fun _ => ?_)) | split)
theorem bldR_next {h : AHeap} {t : Nat} {v : AVal} : Nx h (bldR h t v) := by unfold bldR; repeat' (first | exact Nx.err | exact Nx.same | exact Nx.set | exact Nx.push | exact Nx.del | exact Nx.pure | exact NxH.err | exact NxH.set | (with_reducible refine Nx.bind (fun _ => ?_)) | (with_reducible refine NxH.bind (fun _ => ?_)) | split)
theorem boxR_next {h : AHeap} {v : AVal} : Nx h (boxR h v) := by unfold boxR; repeat' (first | exact Nx.err | exact Nx.same | exact Nx.set | exact Nx.push | exact Nx.del | exact Nx.pure | exact NxH.err | exact NxH.set | (with_reducible refine Nx.bind (fun _ => ?_)) | (with_reducible refine NxH.bind (fun _ => ?_)) | split)
theorem buildSliceR_next {P : Program} {h : AHeap} {t n : Nat} {l : List (Nat × AVal)} : Nx h (buildSliceR P h t n l) := by unfold buildSliceR; repeat' (first | exact Nx.err | exact Nx.same | exact Nx.set | exact Nx.push | exact Nx.del | exact Nx.pure | exact NxH.err | exact NxH.set | (with_reducible refine Nx.bind (fun _ => ?_)) | (with_reducible refine NxH.bind (fun _ => ?_)) | split)
theorem makeSliceR_next {P : Program} {h : AHeap} {t : Nat} {l m : AVal} : Nx h (makeSliceR P h t l m) := by unfold makeSliceR; repeat' (first | exact Nx.err | exact Nx.same | exact Nx.set | exact Nx.push | exact Nx.del | exact Nx.pure | exact NxH.err | exact NxH.set | (with_reducible refine Nx.bind (fun _ => ?_)) | (with_reducible refine NxH.bind (fun _ => ?_)) | split)
theorem appendG_next {c : Cfg} {h : AHeap} {t : Nat} {l m : AVal} : Nx h (appendG c h t l m) := by unfold appendG; repeat' (first | exact Nx.err | exact Nx.same | exact Nx.set | exact Nx.push | exact Nx.del | exact Nx.pure | exact NxH.err | exact NxH.set | (with_reducible refine Nx.bind (fun _ => ?_)) | (with_reducible refine NxH.bind (fun _ => ?_)) | split)
theorem appMakeR_next {c : Cfg} {h : AHeap} {t : Nat} {xt : Option Nat} {l m : AVal} : Nx h (appMakeR c h t xt l m) := by unfold appMakeR; repeat' (first | exact Nx.err | exact Nx.same | exact Nx.set | exact Nx.push | exact Nx.del | exact Nx.pure | exact NxH.err | exact NxH.set | (with_reducible refine Nx.bind (fun _ => ?_)) | (with_reducible refine NxH.bind (fun _ => ?_)) | split)
theorem appendR_next {c : Cfg} {h : AHeap} {t : Nat} {xt : Option Nat} {l m : AVal} : Nx h (appendR c h t xt l m) := by
  unfold appendR
  cases notMake c.P xt with
  | ok _ => exact appendG_next
  | err _ => exact appMakeR_next
theorem copyR_next {c : Cfg} {h : AHeap} {t : Nat} {l m : AVal} : Nx h (copyR c h t l m) := by unfold copyR; repeat' (first | exact Nx.err | exact Nx.same | exact Nx.set | exact Nx.push | exact Nx.del | exact Nx.pure | exact NxH.err | exact NxH.set | (with_reducible refine Nx.bind (fun _ => ?_)) | (with_reducible refine NxH.bind (fun _ => ?_)) | split)
theorem clearR_next {c : Cfg} {h : AHeap} {t : Nat} {l : AVal} : Nx h (clearR c h t l) := by unfold clearR; repeat' (first | exact Nx.err | exact Nx.same | exact Nx.set | exact Nx.push | exact Nx.del | exact Nx.pure | exact NxH.err | exact NxH.set | (with_reducible refine Nx.bind (fun _ => ?_)) | (with_reducible refine NxH.bind (fun _ => ?_)) | split)
theorem deleteR_next {c : Cfg} {h : AHeap} {t : Nat} {l m : AVal} : Nx h (deleteR c h t l m) := by unfold deleteR; repeat' (first | exact Nx.err | exact Nx.same | exact Nx.set | exact Nx.push | exact Nx.del | exact Nx.pure | exact NxH.err | exact NxH.set | (with_reducible refine Nx.bind (fun _ => ?_)) | (with_reducible refine NxH.bind (fun _ => ?_)) | split)
theorem builtinR_next {c : Cfg} {h : AHeap} {b : Builtin} {ts : Array Nat} {l : List AVal} : Nx h (builtinR c h b ts l) := by
  unfold builtinR
  repeat' (first
    | exact appendR_next | exact copyR_next | exact clearR_next | exact deleteR_next
    | exact Nx.err | exact Nx.same | (with_reducible refine Nx.bind (fun _ => ?_)) | split)

theorem opR_next {c : Cfg} {bad : List Nat} {env : List AVal} {h : AHeap} {o : Oper} : Nx h (opR c bad env h o) := by
  unfold opR
  repeat' (first
    | exact Nx.pure | exact boxR_next | exact bldR_next | exact buildSliceR_next | exact makeSliceR_next | exact builtinR_next | exact Nx.of_H storeR_next | exact Nx.of_H mapUpdateR_next
    | exact Nx.err | exact Nx.same | exact Nx.push | exact Nx.set | (with_reducible refine Nx.bind (fun _ => ?_)) | split)

end Go.Proofs.YtofnbldbggddmaaGreatDoor
namespace Go.Proofs.YtofnbldbggddmaaGreatDoor
open Go Go.RowKit

theorem Res.bind_assoc {α β γ : Type} (m : Res α) (f : α → Res β) (g : β → Res γ) : (m.bind f).bind g = m.bind fun a => (f a).bind g := by
  cases m <;> rfl

def step1 (C : CallR) (c : Cfg) (loc : List Nat) (al : List (Nat × Nat)) (bad : List Nat) (ops : Array Oper) (o : Oper) (s : RS) : Res RS :=
  stepK (ansR C RS) c loc al bad ops o s .ok

@[simp] theorem Res.ok_bind {α β : Type} (a : α) (f : α → Res β) : (Res.ok a).bind f = f a := rfl
@[simp] theorem Res.err_bind {α β : Type} (n : Nat) (f : α → Res β) : (Res.err n : Res α).bind f = .err n := rfl

theorem stepK_eq {α : Type} (C : CallR) (c : Cfg) (loc : List Nat) (al : List (Nat × Nat)) (bad : List Nat) (ops : Array Oper) (o : Oper) (s : RS) (K : RS → Res α) :
    stepK (ansR C α) c loc al bad ops o s K = (step1 C c loc al bad ops o s).bind K := by
  unfold step1 stepK
  split
  · split
    · simp only [ansR, Res.bind_assoc, Res.ok_bind]
    · simp only [ansR, Res.bind_assoc]
      congr 1; funext b
      congr 1; funext fa
      cases b <;> simp [Res.bind_assoc]
  · split
    · simp only [ansR, Res.bind_assoc, Res.ok_bind]
    · simp only [ansR, Res.bind_assoc, Res.ok_bind]
    · split <;> simp only [ansR, Res.bind_assoc, Res.ok_bind, Res.err_bind]
    · simp only [ansR, Res.bind_assoc, Res.ok_bind]
    · split <;> simp only [ansR, Res.bind_assoc, Res.ok_bind, Res.err_bind]

def runText1 (C : CallR) (c : Cfg) (loc : List Nat) (al : List (Nat × Nat)) (bad : List Nat) (ops : Array Oper) (l : List Oper) (s : RS) : Res RS :=
  runText (ansR C RS) c loc al bad ops l s .ok

theorem runText_eq {α : Type} (C : CallR) (c : Cfg) (loc : List Nat) (al : List (Nat × Nat)) (bad : List Nat) (ops : Array Oper) (K : RS → Res α) : ∀ (l : List Oper) (s : RS),
    runText (ansR C α) c loc al bad ops l s K = (runText1 C c loc al bad ops l s).bind K
  | [], s => rfl
  | o :: l, s => by
    unfold runText1
    simp only [runText]
    rw [stepK_eq, stepK_eq, Res.bind_assoc]
    congr 1; funext s'
    rw [runText_eq C c loc al bad ops K l s']; rfl

theorem runText1_cons (C : CallR) (c : Cfg) (loc : List Nat) (al : List (Nat × Nat)) (bad : List Nat) (ops : Array Oper) (o : Oper) (l : List Oper) (s : RS) :
    runText1 C c loc al bad ops (o :: l) s = (step1 C c loc al bad ops o s).bind fun s' => runText1 C c loc al bad ops l s' := by
  unfold runText1; simp only [runText]; rw [stepK_eq]

/-! ### calls -/
def CallTo (P : Program) (f : Nat) (args : Array Value) (w : World) (R : Value → World → Prop) : Prop :=
  (∃ v w', (callFunc f args).run P w = .ok (.value v) w' ∧ R v w') ∨
  ((callFunc f args).run P w = .ok (.enter f args) w ∧ Calls P f args w fun | .returned v, w' => R v w' | _, _ => False)

def CallSound (F : Fix) (C : CallR) : Prop := ∀ f args h v h', C f args h = .ok (v, h') → h.next ≤ h'.next ∧
  ∀ ι w (av : Array Value), Rel F ι h w → VRels ι F.ρ args av.toList → Fresh ι h.next h'.next → CallTo F.c.P f av w (Out F ι h w v h')

/-- what a callee is -/
theorem methodR_run {P : Program} {t : Nat} {name : String} {f : Nat} {ev : Value} {args : Array Value} {w : World} (hq : methodR P t name = .ok f) :
    (callMethod (.iface t ev) name args).run P w = (callFunc f (#[ev] ++ args)).run P w := by
  unfold methodR at hq
  obtain ⟨i, h1, hq⟩ := Res.bind_ok hq
  obtain ⟨m, h2, hq⟩ := Res.bind_ok hq
  have hi := infoR_ok h1
  have hm := ofOpt_ok h2
  split at hq
  rotate_left; · cases hq
  rename_i hp
  have hp' : m.path.toList = [] := by simpa using hp
  have hd : Made.depth = (Made.depth - 1) + 1 := by decide
  split at hq
  · rename_i f' ptr hf
    obtain ⟨d, h3, hq⟩ := Res.bind_ok hq
    have hu := undR_ok h3
    simp only [callMethod, Sem.run_bind, run_program, Result.andThen_ok]
    rw [hd, ← Nat.add_assoc]
    simp only [Go.method, Sem.run_bind, run_typeInfo' hi, Result.andThen_ok, hm, hp', Go.follow, Sem.run_pure, hf]
    split at hq
    · split at hq
      · rename_i hptr
        cases hq
        simp [receiverAt, run_und hu, hptr, Place.get]
      · cases hq
    · split at hq
      · cases hq
      · rename_i hnp hptr
        cases hq
        have : ptr = false := by simpa using hptr
        subst this
        simp only [receiverAt, Sem.run_bind, run_und hu, Result.andThen_ok]
        simp [Place.get]
  · cases hq

section
variable {F : Fix} {ι : Inj} {h : AHeap} {w : World} {loc : List Nat} {al : List (Nat × Nat)} {env : List AVal} {tm : Array Value}

/-- blocks that stay -/
theorem Rel.keep (r : Rel F ι h w) {B : Nat → Prop} {w' : World} (k : Keep B w w') (hB : ∀ b, B b → F.N ≤ b) (hO : ∀ b, Own ι h b → w'.heap[b]? = w.heap[b]?) : Rel F ι h w' := by
  refine ⟨k.below r.below (Nat.le_refl _) hB, fun o x hx => ?_, r.inj, r.lt⟩
  obtain ⟨e, e1, e2, e3⟩ := r.obj o x hx
  exact ⟨e, e1, e2, e3.mono (Sub.refl _) (hO _ ⟨o, x, e, hx, e1, rfl⟩)⟩

/-! ### what an operation's outcome leads to -/
def StepTo (P : Program) (ops : Array Oper) (i : Nat) (tm : Array Value) (w : World) (R : Array Value → World → Prop) : Prop :=
  ∀ (Q : Exit → Act → World → Prop) (K : Act → World → Prop) (ds : List Deferred), (∀ tm' w', R tm' w' → K ⟨tm', ds⟩ w') → wpOp P ops Q i K ⟨tm, ds⟩ w

def putT (tm : Array Value) (d : Option Nat) (v : Value) : Array Value :=
  match d with
  | some d => tm.setIfInBounds d v
  | none => tm

theorem put_eq (tm : Array Value) (ds : List Deferred) (d : Option Nat) (v : Value) : (⟨tm, ds⟩ : Act).put d v = ⟨putT tm d v, ds⟩ := by
  cases d <;> rfl

theorem StepTo.op {P : Program} {ops : Array Oper} {i : Nat} {o : Oper} {tm : Array Value} {w : World} {R : Array Value → World → Prop} (ho : ops[i]? = some o)
    (hw : Region.wanted o (yielded ops tm) = true) (h : ∀ ds, OpTo P (execOp (⟨tm, ds⟩ : Act).eval o) w fun v w' => R (putT tm o.dst v) w') : StepTo P ops i tm w R := by
  intro Q K ds hK
  simp only [wpOp, ho]
  rw [if_pos hw]
  left
  obtain ⟨v, w', h1, h2⟩ := h ds
  unfold Oper.wp
  rcases h1 with h1 | ⟨h1, rfl⟩
  · rw [h1, Oper.upon_value, put_eq]; exact hK _ _ h2
  · rw [h1, Oper.upon_skip, put_eq]; exact hK _ _ h2

theorem StepTo.call {P : Program} {ops : Array Oper} {i : Nat} {o : Oper} {tm : Array Value} {w : World} {R : Array Value → World → Prop} (ho : ops[i]? = some o)
    (hw : Region.wanted o (yielded ops tm) = true) {f : Nat} {args : Array Value} (hc : ∀ ds, (execOp (⟨tm, ds⟩ : Act).eval o).run P w = (callFunc f args).run P w)
    (h : CallTo P f args w fun v w' => R (putT tm o.dst v) w') : StepTo P ops i tm w R := by
  intro Q K ds hK
  simp only [wpOp, ho]
  rw [if_pos hw]
  left
  unfold Oper.wp
  rw [hc]
  rcases h with ⟨v, w', h1, h2⟩ | ⟨h1, h2⟩
  · rw [h1, Oper.upon_value, put_eq]; exact hK _ _ h2
  · rw [h1, Oper.upon_enter]
    refine Calls.mono h2 fun e w' he => ?_
    cases e with
    | returned v => simp only [put_eq]; exact hK _ _ he
    | panicked _ => exact he.elim
    | outgrown => exact he.elim

theorem StepTo.skip {P : Program} {ops : Array Oper} {i : Nat} {o : Oper} {tm : Array Value} {w : World} {R : Array Value → World → Prop} (ho : ops[i]? = some o)
    (hw : Region.wanted o (yielded ops tm) = false) (h : R (putT tm o.dst undef) w) : StepTo P ops i tm w R := by
  intro Q K ds hK
  simp only [wpOp, ho]
  rw [if_neg (by simp [hw]), put_eq]
  exact hK _ _ h

theorem StepTo.mono {P : Program} {ops : Array Oper} {i : Nat} {tm : Array Value} {w : World} {R R' : Array Value → World → Prop} (h : StepTo P ops i tm w R) (hR : ∀ tm w, R tm w → R' tm w) : StepTo P ops i tm w R' :=
  fun Q K ds hK => h Q K ds fun tm' w' hr => hK _ _ (hR _ _ hr)

/-- what the slots hold -/
theorem EnvOk.opnd_ok {bad : List Nat} (ok : F.Ok) (e : EnvOk F ι h loc al env tm w) (hb1 : ∀ t, loc.contains t = true → bad.contains t = true) (hb2 : ∀ t s, lookN al t = some s → bad.contains t = true)
    (ds : List Deferred) (x : Operand) (a : AVal) (hx : opnd bad env x = .ok a) : VRel ι F.ρ a ((⟨tm, ds⟩ : Act).eval x) := by
  unfold opnd at hx
  split at hx
  · rename_i t
    split at hx
    · cases hx
    · rename_i hbt
      cases hx
      have h1 : loc.contains t = false := by
        cases hc : loc.contains t with
        | false => rfl
        | true => exact absurd (hb1 t hc) hbt
      have h2 : lookN al t = none := by
        cases hc : lookN al t with
        | none => rfl
        | some s => exact absurd (hb2 t s hc) hbt
      have := (e.slot t).val h1 h2
      simpa [Act.eval, Array.getD_eq_getD_getElem?] using this
  · rename_i v
    exact toA_ok (ofOpt_ok hx)
  · rename_i g
    split at hx
    · rename_i hg
      cases hx
      exact ⟨(g, 0), ok.glob g hg, by simp [Act.eval]⟩
    · cases hx
  · cases hx
    exact ⟨#[], #[], by simp [Act.eval], rfl, rfl⟩

theorem EnvOk.wanted_ok (e : EnvOk F ι h loc al env tm w) {ops : Array Oper} {o : Oper} {b : Bool} (hq : wantedR ops env o = .ok b) : Region.wanted o (yielded ops tm) = b := by
  unfold wantedR at hq
  unfold Region.wanted
  split at hq
  · rename_i hg; cases hq; simp [hg]
  · rename_i j want hg
    simp only [hg]
    split at hq
    rotate_left; · cases hq
    rename_i d hd
    have hs := e.slot d
    unfold SlotOk at hs
    have hy : yielded ops tm j = (match tm[d]? with | some (.bool b) => some b | _ => none) := by
      unfold yielded; rw [hd]; rfl
    rw [hy]
    split at hq
    · rename_i b' hn
      simp only [hn, VRel] at hs
      cases hq
      cases ht : tm[d]? with
      | none => rw [Array.getD_eq_getD_getElem?, ht] at hs; cases hs
      | some v => rw [Array.getD_eq_getD_getElem?, ht] at hs; simp at hs; subst hs; rfl
    · rename_i hn
      simp only [hn] at hs
      cases hq
      obtain ⟨a, h1, h2⟩ := hs
      have h3 : a = #[] := by apply Array.toList_inj.1; simpa [VRels] using h2
      subst h3
      cases ht : tm[d]? with
      | none => cases want <;> rfl
      | some v => rw [Array.getD_eq_getD_getElem?, ht] at h1; simp at h1; subst h1; cases want <;> rfl
    · cases hq


/-- a value put -/
theorem St.put (st : St F ι loc al env h tm w) (hal : ∀ t s, lookN al t = some s → loc.contains s = true) {o : Oper} (hd : ∀ d, o.dst = some d → loc.contains d = false)
    {v : AVal} {h' : AHeap} {u : Value} {w' : World} (out : Out F ι h w v h' u w') :
    ∃ ι', St F ι' loc al (putD env o v) h' (putT tm o.dst u) w' ∧ TStep ι h env tm w ι' h' (putD env o v) (putT tm o.dst u) w' := by
  obtain ⟨ι', hv, r', sp⟩ := out
  refine ⟨ι', ?_⟩
  have e1 := st.env.step sp
  have key : ∀ env' tm', EnvOk F ι' h' loc al env' tm' w' → (∀ b, LocB env' tm' b → LocB env tm b) → St F ι' loc al env' h' tm' w' ∧ TStep ι h env tm w ι' h' env' tm' w' := by
    intro env' tm' e2 lb
    refine ⟨⟨r', e2⟩, ⟨sp.sub, sp.dom, sp.next, sp.keep.mono (fun _ _ hb => .inl hb), sp.own, fun b hb => .inl (lb b hb)⟩⟩
  unfold putD putT
  cases hdst : o.dst with
  | none => exact key _ _ e1 fun _ hb => hb
  | some d =>
    obtain ⟨e2, lb⟩ := e1.put hal (hd d hdst) hv
    exact key _ _ e2 lb

theorem Out.same {v : AVal} {u : Value} (r : Rel F ι h w) (hv : VRel ι F.ρ v u) : Out F ι h w v h u w := ⟨ι, hv, r, Step.refl _ _ _⟩

/-- what is called -/
theorem callee_ok {ρ : RoMap} {c : Cfg} {bad : List Nat} {ev : Operand → Value} (hev : ∀ x a, opnd bad env x = .ok a → VRel ι ρ a (ev x)) {o : Oper} {x : Call} (hx : callOf o = some x) {f : Nat} {args : List AVal}
    (hq : calleeR c bad env x = .ok (f, args)) : ∃ av : Array Value, VRels ι ρ args av.toList ∧ (execOp ev o).run c.P w = (callFunc f av).run c.P w := by
  unfold callOf at hx
  split at hx
  rotate_left; · cases hx
  rename_i x' hop
  unfold calleeR at hq
  obtain ⟨as, h1, hq⟩ := Res.bind_ok hq
  have ha := opnds_ok hev _ _ h1
  split at hx
  · cases hx
  · rename_i hnb
    cases hx
    simp only [execOp, hop, resolve]
    split at hq
    · rename_i fo hf
      obtain ⟨v, h2, hq⟩ := Res.bind_ok hq
      split at hq
      rotate_left; · cases hq
      rename_i f' first cap
      cases hq
      obtain ⟨a', b', e1, e2, e3⟩ := hev _ _ h2
      refine ⟨a' ++ x.args.map ev ++ b', ?_, ?_⟩
      · simpa using (e2.append ha).append e3
      · rw [hf]; simp [e1, Deferred.ofValue, invoke]
    · rename_i ro name hf
      obtain ⟨v, h2, hq⟩ := Res.bind_ok hq
      split at hq
      rotate_left; · cases hq
      rename_i t rv
      obtain ⟨f', h3, hq⟩ := Res.bind_ok hq
      cases hq
      obtain ⟨y, e1, e2⟩ := hev _ _ h2
      refine ⟨#[y] ++ x.args.map ev, ?_, ?_⟩
      · have : (#[y] ++ x.args.map ev).toList = y :: x.args.toList.map ev := by simp
        rw [this]; exact ⟨y, _, rfl, e2, ha⟩
      · rw [hf]
        have h0 : (#[ev ro] ++ x.args.map ev)[0]? = some (ev ro) := by
          rw [← Array.getElem?_toList]; simp
        have h1' : (#[ev ro] ++ x.args.map ev).extract 1 (#[ev ro] ++ x.args.map ev).size = x.args.map ev := by
          apply Array.toList_inj.1; simp [List.take_of_length_le]
        simp only [Sem.run_bind, Sem.run_pure, Result.andThen_ok, invoke, h0, h1']
        rw [e1]; exact methodR_run h3
    · cases hq


theorem EnvOk.keep (e : EnvOk F ι h loc al env tm w) {w' : World} (hk : ∀ b, LocB env tm b → w'.heap[b]? = w.heap[b]?) : EnvOk F ι h loc al env tm w' := by
  refine ⟨e.size, fun t => ?_, e.apart⟩
  have := e.slot t
  unfold SlotOk at this ⊢
  split
  · rename_i vs hv
    simp only [hv] at this
    obtain ⟨h1, b, c, T, h2, h3, h4, h5, h6⟩ := this
    exact ⟨h1, b, c, T, h2, h3, h4, by rw [hk b ⟨t, vs, hv, h2⟩]; exact h5, h6⟩
  · rename_i off valid hv
    simp only [hv] at this
    exact this
  · rename_i a hn1 hn2
    revert this
    cases hx : nth env t <;> simp_all

/-- a slot pointed into a cell, or not worked out -/
theorem St.putLoc (st : St F ι loc al env h tm w) (hal : ∀ t s, lookN al t = some s → loc.contains s = true) {o : Oper} {d s off : Nat} {valid : Bool} {u : Value} (hdst : o.dst = some d) (hd : loc.contains d = false) (hl : lookN al d = some s)
    (hv : valid = true → ∃ b, u = .pointer (some ⟨b, off, none⟩) ∧ tm[s]? = some (.pointer (some ⟨b, 0, none⟩))) :
    St F ι loc al (putD env o (.loc off valid)) h (putT tm o.dst u) w ∧ TStep ι h env tm w ι h (putD env o (.loc off valid)) (putT tm o.dst u) w := by
  unfold putD putT
  rw [hdst]
  obtain ⟨e2, lb⟩ := st.env.putLoc hal hd hl hv
  exact ⟨⟨st.rel, e2⟩, ⟨Sub.refl _, fun _ => .inr (.inl rfl), Nat.le_refl _, Keep.refl _ _, fun b hb => .inl hb, fun b hb => .inl (lb b hb)⟩⟩

/-- where a slot points into its cell -/
theorem EnvOk.base (e : EnvOk F ι h loc al env tm w) {t s off : Nat} (hts : t = s ∨ lookN al t = some s) (hq : baseOff env t s = .ok (off, true)) :
    ∃ b, tm[t]? = some (.pointer (some ⟨b, off, none⟩)) ∧ tm[s]? = some (.pointer (some ⟨b, 0, none⟩)) := by
  unfold baseOff at hq
  split at hq
  · rename_i hd
    have : t = s := by simpa using hd
    subst this
    split at hq
    · rename_i vs hn
      cases hq
      have := e.slot t
      unfold SlotOk at this
      simp only [hn] at this
      obtain ⟨_, b, c, T, h2, _⟩ := this
      exact ⟨b, h2, h2⟩
    · cases hq
  · rename_i hd
    have hne : t ≠ s := by simpa using hd
    split at hq
    · rename_i off' valid hn
      cases hq
      have := e.slot t
      unfold SlotOk at this
      simp only [hn] at this
      obtain ⟨s', h1, h2⟩ := this
      rcases hts with hts | hts
      · exact absurd hts hne
      · rw [hts] at h1; cases h1
        exact h2 trivial
    · cases hq


theorem slotOf_ok {x : Operand} {t s : Nat} (hq : slotOf loc al x = some (t, s)) : x = .tmp t ∧ ((t = s ∧ loc.contains t = true) ∨ lookN al t = some s) := by
  unfold slotOf at hq
  split at hq
  rotate_left; · cases hq
  rename_i t'
  split at hq
  · rename_i hl; cases hq; exact ⟨rfl, .inl ⟨rfl, hl⟩⟩
  · split at hq
    · rename_i s' hs; cases hq; exact ⟨rfl, .inr hs⟩
    · cases hq


def HowP (loc : List Nat) (al : List (Nat × Nat)) (o : Oper) : How → Prop
  | .plain => True
  | .alias_ t s => ∃ x, slotOf loc al x = some (t, s) ∧ (o.op = .move x ∨ o.op = .nilCheck x ∨ (∃ T f, o.op = .fieldAddr T x f) ∨ ∃ T i, o.op = .indexAddr T x i)
  | .make d => o.dst = some d ∧ loc.contains d = true ∧ ((∃ T, o.op = .alloc T) ∨ ∃ T x, o.op = .box T x)
  | .load_ t s => ∃ T x, slotOf loc al x = some (t, s) ∧ o.op = .load T x
  | .store_ t s => ∃ T x y, slotOf loc al x = some (t, s) ∧ o.op = .store T x y

theorem how_inv' (loc : List Nat) (al : List (Nat × Nat)) (o : Oper) : HowP loc al o (how loc al o) := by
  obtain ⟨dst, op, type, pos, after, guard⟩ := o
  unfold how
  cases op
  case alloc T =>
    cases dst with
    | none => trivial
    | some d =>
      simp only
      split
      · rename_i hl; exact ⟨rfl, hl, .inl ⟨_, rfl⟩⟩
      · trivial
  case box T x =>
    cases dst with
    | none => trivial
    | some d =>
      simp only
      split
      · rename_i hl; exact ⟨rfl, hl, .inr ⟨_, _, rfl⟩⟩
      · trivial
  case move x =>
    simp only
    split
    · rename_i p hs; exact ⟨x, hs, .inl rfl⟩
    · trivial
  case nilCheck x =>
    simp only
    split
    · rename_i p hs; exact ⟨x, hs, .inr (.inl rfl)⟩
    · trivial
  case fieldAddr T x f =>
    simp only
    split
    · rename_i p hs; exact ⟨x, hs, .inr (.inr (.inl ⟨_, _, rfl⟩))⟩
    · trivial
  case indexAddr T x f =>
    simp only
    split
    · rename_i p hs; exact ⟨x, hs, .inr (.inr (.inr ⟨_, _, rfl⟩))⟩
    · trivial
  case load T x =>
    simp only
    split
    · rename_i p hs; exact ⟨T, x, hs, rfl⟩
    · trivial
  case store T x y =>
    simp only
    split
    · rename_i p hs; exact ⟨T, x, y, hs, rfl⟩
    · trivial
  all_goals trivial

theorem how_inv {o : Oper} {q : How} (hh : how loc al o = q) : HowP loc al o q := hh ▸ how_inv' loc al o

/-- an operation that points on in a cell -/
theorem alias_ok {bad : List Nat} {o : Oper} {t s off : Nat} (e : EnvOk F ι h loc al env tm w) (ev : Operand → Value) (hev : ∀ x a, opnd bad env x = .ok a → VRel ι F.ρ a (ev x)) (het : ∀ t, ev (.tmp t) = tm.getD t undef)
    (hh : how loc al o = .alias_ t s) (hq : aliasR F.c.P bad env t s o = .ok (off, true)) :
    ∃ b, (execOp ev o).run F.c.P w = .ok (.value (.pointer (some ⟨b, off, none⟩))) w ∧ tm[s]? = some (.pointer (some ⟨b, 0, none⟩)) := by
  unfold aliasR at hq
  obtain ⟨bo, h1, hq⟩ := Res.bind_ok hq
  obtain ⟨b0, v0⟩ := bo
  cases v0 with
  | false => cases hq
  | true =>
    obtain ⟨n, h2, hq⟩ := Res.bind_ok hq
    cases hq
    obtain ⟨x, hs, hop⟩ := how_inv hh
    obtain ⟨rfl, hts⟩ := slotOf_ok hs
    obtain ⟨b, b1, b2⟩ := e.base (hts.imp (·.1) id) h1
    have hx : ev (.tmp t) = .pointer (some ⟨b, b0, none⟩) := by rw [het, Array.getD_eq_getD_getElem?, b1]; rfl
    refine ⟨b, ?_, b2⟩
    unfold stepOff at h2
    rcases hop with hop | hop | ⟨T, f, hop⟩ | ⟨T, i, hop⟩
    · simp only [hop] at h2; cases h2; simp [execOp, hop, hx]
    · simp only [hop] at h2; cases h2; simp [execOp, hop, hx]
    · simp only [hop] at h2
      obtain ⟨fd, f1, h2⟩ := Res.bind_ok h2
      obtain ⟨n', f2, h2⟩ := Res.bind_ok h2
      split at h2
      · cases h2
      · rename_i hn
        cases h2
        obtain ⟨fs, hu, hf⟩ := fieldOf_ok f1
        simp [execOp, hop, hx, Instr.fieldAt, run_und hu, hf, Instr.sureAddr, fieldPlace, run_size f2, hn, add_none]
    · simp only [hop] at h2
      obtain ⟨d, f1, h2⟩ := Res.bind_ok h2
      split at h2
      rotate_left; · cases h2
      obtain ⟨size, f2, h2⟩ := Res.bind_ok h2
      obtain ⟨iv, f3, h2⟩ := Res.bind_ok h2
      obtain ⟨n', f4, h2⟩ := Res.bind_ok h2
      cases h2
      have hu := undR_ok f1
      obtain ⟨k, z, z0, z1, z2, z3⟩ := idx_ok f4 (hev _ _ f3)
      subst z3
      simp [execOp, hop, hx, Instr.indexAt, run_und hu, z0, asIntOf, run_size f2, Instr.sureAddr, z1, z2, add_none]

/-- a cell, with its block -/
theorem EnvOk.cell (e : EnvOk F ι h loc al env tm w) {t s off : Nat} {vs : List AVal} (hts : t = s ∨ lookN al t = some s) (hq : cellAt env t s = .ok (vs, off)) :
    nth env s = .cell vs ∧ ∃ b c T, tm[t]? = some (.pointer (some ⟨b, off, none⟩)) ∧ tm[s]? = some (.pointer (some ⟨b, 0, none⟩)) ∧ F.N ≤ b ∧ ¬ Own ι h b ∧ w.heap[b]? = some (.cells c T (0, 0)) ∧ VRels ι F.ρ vs c.toList ∧ ∀ v ∈ c.toList, oneC v = true := by
  unfold cellAt at hq
  split at hq
  rotate_left; · cases hq
  rename_i vs' hn
  obtain ⟨bo, h1, hq⟩ := Res.bind_ok hq
  split at hq
  rotate_left; · cases hq
  rename_i hb
  cases hq
  obtain ⟨b0, v0⟩ := bo
  simp only at hb; subst hb
  refine ⟨hn, ?_⟩
  obtain ⟨b, b1, b2⟩ := e.base hts h1
  have := e.slot s
  unfold SlotOk at this
  simp only [hn] at this
  obtain ⟨_, b', c, T, h2, h3⟩ := this
  rw [b2] at h2; cases h2
  exact ⟨b, c, T, b1, b2, h3⟩

theorem cells_at {ρ : RoMap} {vs : List AVal} {b : Nat} {c : Array Value} {T : TypeId} {fr : Nat × Nat} (hb : w.heap[b]? = some (.cells c T fr)) (hr : VRels ι ρ vs c.toList) (ho : ∀ v ∈ c.toList, oneC v = true) : CellsAt ι ρ w b 0 vs := by
  intro j a hj
  obtain ⟨v, v1, v2⟩ := hr.get hj
  refine ⟨v, ?_, ho v (List.mem_of_getElem? v1), v2⟩
  have : c[j]? = some v := by simpa using v1
  simp [World.cell?, hb, this]

theorem loadCell_ok {o : Oper} {t s : Nat} {v : AVal} (e : EnvOk F ι h loc al env tm w) (ev : Operand → Value) (het : ∀ t, ev (.tmp t) = tm.getD t undef)
    (hh : how loc al o = .load_ t s) (hq : loadCell F.c.P env t s o = .ok v) : ∃ u, (execOp ev o).run F.c.P w = .ok (.value u) w ∧ VRel ι F.ρ v u := by
  obtain ⟨T, x, hs, hop⟩ := how_inv hh
  obtain ⟨rfl, hts⟩ := slotOf_ok hs
  unfold loadCell at hq
  simp only [hop] at hq
  obtain ⟨vo, h1, hq⟩ := Res.bind_ok hq
  obtain ⟨vs, off⟩ := vo
  obtain ⟨_, b, c, T', b1, b2, _, _, b5, b6, b7⟩ := e.cell (hts.imp (·.1) id) h1
  obtain ⟨u, u1, u2⟩ := (cells_at b5 b6 b7).loadVar (P := F.c.P) hq
  refine ⟨u, ?_, u2⟩
  have hx : ev (.tmp t) = .pointer (some ⟨b, off, none⟩) := by rw [het, Array.getD_eq_getD_getElem?, b1]; rfl
  rw [Nat.zero_add] at u1
  simp [execOp, hop, hx, Instr.loadAt, Instr.sureAddr, u1]


/-- a cell written -/
theorem EnvOk.setCell (e : EnvOk F ι h loc al env tm w) {s b : Nat} {vs vs' : List AVal} {c c' : Array Value} {T : TypeId} (hn : nth env s = .cell vs) (hb : tm[s]? = some (.pointer (some ⟨b, 0, none⟩)))
    (hw : w.heap[b]? = some (.cells c T (0, 0))) (hrel : VRels ι F.ρ vs' c'.toList) (hone : ∀ v ∈ c'.toList, oneC v = true) :
    EnvOk F ι h loc al (setN env s (.cell vs')) tm (w.setRow b c') ∧ ∀ k, LocB (setN env s (.cell vs')) tm k → LocB env tm k := by
  have hback : ∀ t us, nth (setN env s (.cell vs')) t = .cell us → (t = s ∧ us = vs') ∨ (t ≠ s ∧ nth env t = .cell us) := by
    intro t us ht
    rw [nth_setN] at ht
    split at ht
    · rename_i hh; cases ht; exact .inl ⟨hh.1.symm, rfl⟩
    · rename_i hh
      right
      refine ⟨fun hts => hh ⟨hts.symm, ?_⟩, ht⟩
      have : s < tm.size := (Array.getElem?_eq_some_iff.1 hb).1
      rw [e.size]; exact this
  have hs := e.slot s
  unfold SlotOk at hs
  simp only [hn] at hs
  obtain ⟨s1, b', c0, T0, s2, s3, s4, s5, _⟩ := hs
  rw [hb] at s2; cases s2
  rw [hw] at s5; cases s5
  refine ⟨⟨by rw [length_setN]; exact e.size, fun t => ?_, ?_⟩, ?_⟩
  · by_cases hts : t = s
    · subst hts
      have hlt : t < env.length := by rw [e.size]; exact (Array.getElem?_eq_some_iff.1 hb).1
      unfold SlotOk
      rw [nth_setN, if_pos ⟨rfl, hlt⟩]
      exact ⟨s1, b, c', T, hb, s3, s4, setRow_heap w b c c' T (0, 0) hw, hrel, hone⟩
    · have hn' : nth (setN env s (.cell vs')) t = nth env t := by rw [nth_setN, if_neg (fun hh => hts hh.1.symm)]
      have ht := e.slot t
      unfold SlotOk at ht ⊢
      rw [hn']
      split
      · rename_i us hc
        simp only [hc] at ht
        obtain ⟨h1, b2, c2, T2, h2, h3, h4, h5, h6⟩ := ht
        refine ⟨h1, b2, c2, T2, h2, h3, h4, ?_, h6⟩
        rw [setRow_other w b b2 c' (fun hbb => ?_)]
        · exact h5
        · subst hbb
          exact hts (e.apart t s us vs _ hc hn h2 hb)
      · rename_i off valid hc
        simp only [hc] at ht
        exact ht
      · revert ht
        cases hx : nth env t <;> simp_all
  · intro t t' us us' k h1 h2 h3 h4
    rcases hback t us h1 with ⟨ht, _⟩ | ⟨_, h1'⟩ <;> rcases hback t' us' h2 with ⟨ht', _⟩ | ⟨_, h2'⟩
    · rw [ht, ht']
    · exact e.apart _ _ _ _ k (ht ▸ hn) h2' h3 h4
    · exact e.apart _ _ _ _ k h1' (ht' ▸ hn) h3 h4
    · exact e.apart _ _ _ _ k h1' h2' h3 h4
  · rintro k ⟨t, us, h1, h2⟩
    rcases hback t us h1 with ⟨rfl, _⟩ | ⟨_, h1⟩
    · exact ⟨t, vs, hn, h2⟩
    · exact ⟨t, us, h1, h2⟩

theorem how_dst {o : Oper} {t s : Nat} (hop : opOk loc al o = true) (hh : how loc al o = .alias_ t s) : ∃ d, o.dst = some d ∧ loc.contains d = false ∧ lookN al d = some s := by
  unfold opOk at hop
  rw [hh] at hop
  simp only at hop
  split at hop
  · rename_i d hd
    simp at hop
    refine ⟨d, hd, by simpa using hop.1, hop.2⟩
  · cases hop

theorem opOk_put {o : Oper} (hop : opOk loc al o = true) (h1 : ∀ d, how loc al o ≠ .make d) : ∀ d, o.dst = some d → loc.contains d = false := by
  intro d hd
  unfold opOk at hop
  split at hop
  · rename_i d' hh; exact absurd hh (h1 d')
  · rw [hd] at hop; simp at hop; simpa using hop.1
  · rw [hd] at hop; simpa using hop

set_option maxHeartbeats 1000000 in
theorem step_ok {C : CallR} {bad : List Nat} {ops : Array Oper} {i : Nat} {o : Oper} {s s' : RS} (ok : F.Ok) (hC : CallSound F C)
    (hal : ∀ t s, lookN al t = some s → loc.contains s = true) (hb1 : ∀ t, loc.contains t = true → bad.contains t = true) (hb2 : ∀ t s, lookN al t = some s → bad.contains t = true)
    (ho : ops[i]? = some o) (hop : opOk loc al o = true) (st : St F ι loc al s.env s.h tm w) (hq : step1 C F.c loc al bad ops o s = .ok s') (fr : Fresh ι s.h.next s'.h.next) :
    StepTo F.c.P ops i tm w fun tm' w' => ∃ ι', St F ι' loc al s'.env s'.h tm' w' ∧ TStep ι s.h s.env tm w ι' s'.h s'.env tm' w' := by
  have hev := st.env.opnd_ok ok hb1 hb2 []
  have hds : ∀ ds, (⟨tm, ds⟩ : Act).eval = (⟨tm, []⟩ : Act).eval := fun ds => funext fun x => by cases x <;> rfl
  have het : ∀ t, (⟨tm, []⟩ : Act).eval (.tmp t) = tm.getD t undef := fun _ => rfl
  unfold step1 stepK at hq
  split at hq
  · rename_i x hx
    have hnm : ∀ d, how loc al o ≠ .make d := by
      intro d hh
      obtain ⟨_, _, h1 | h1⟩ := how_inv hh
      · obtain ⟨T, h1⟩ := h1; simp [callOf, h1] at hx
      · obtain ⟨T, y, h1⟩ := h1; simp [callOf, h1] at hx
    have hdst := opOk_put hop hnm
    have hcall : ∀ (fa : Nat × List AVal) (r : AVal × AHeap), calleeR F.c bad s.env x = .ok fa → C fa.1 fa.2 s.h = .ok r → Fresh ι s.h.next r.2.next → Region.wanted o (yielded ops tm) = true →
        StepTo F.c.P ops i tm w fun tm' w' => ∃ ι', St F ι' loc al (putD s.env o r.1) r.2 tm' w' ∧ TStep ι s.h s.env tm w ι' r.2 (putD s.env o r.1) tm' w' := by
      rintro ⟨f, args⟩ ⟨v, h'⟩ h1 h2 hfr hw
      obtain ⟨av, a1, a2⟩ := callee_ok (w := w) hev hx h1
      obtain ⟨_, hc⟩ := hC _ _ _ _ _ h2
      have hto := hc ι w av st.rel a1 hfr
      have hput : ∀ u w', Out F ι s.h w v h' u w' → ∃ ι', St F ι' loc al (putD s.env o v) h' (putT tm o.dst u) w' ∧ TStep ι s.h s.env tm w ι' h' (putD s.env o v) (putT tm o.dst u) w' :=
        fun u w' out => st.put hal hdst out
      refine StepTo.call ho hw (f := f) (args := av) (fun ds => by rw [hds]; exact a2) ?_
      rcases hto with ⟨u, w', c1, c2⟩ | ⟨c1, c2⟩
      · exact .inl ⟨u, w', c1, hput _ _ c2⟩
      · refine .inr ⟨c1, Calls.mono c2 fun e w' he => ?_⟩
        cases e with
        | returned u => exact hput _ _ he
        | panicked _ => exact he.elim
        | outgrown => exact he.elim
    split at hq
    · rename_i hg
      simp only [ansR] at hq
      obtain ⟨fa, h1, hq⟩ := Res.bind_ok hq
      obtain ⟨r, h2, hq⟩ := Res.bind_ok hq
      cases hq
      exact hcall fa r h1 h2 fr (by simp [Region.wanted, hg])
    · rename_i g hg
      simp only [ansR] at hq
      obtain ⟨b, h0, hq⟩ := Res.bind_ok hq
      have hw := st.env.wanted_ok h0
      obtain ⟨fa, h1, hq⟩ := Res.bind_ok hq
      cases b with
      | true =>
        simp only at h1 hq
        obtain ⟨r, h2, hq⟩ := Res.bind_ok hq
        cases hq
        exact hcall fa r h1 h2 fr hw
      | false =>
        simp only at hq
        cases hq
        exact StepTo.skip ho hw (st.put hal hdst (Out.same st.rel ⟨#[], rfl, rfl⟩))
  · split at hq
    · -- plain
      rename_i hh
      have hdst := opOk_put hop (fun d hc => by rw [hh] at hc; cases hc)
      simp only [ansR] at hq
      obtain ⟨r, h1, hq⟩ := Res.bind_ok hq
      obtain ⟨v, h'⟩ := r
      cases hq
      have hdo : opR F.c bad s.env s.h o = .ok (v, h') → Region.wanted o (yielded ops tm) = true → StepTo F.c.P ops i tm w fun tm' w' => ∃ ι', St F ι' loc al (putD s.env o v) h' tm' w' ∧ TStep ι s.h s.env tm w ι' h' (putD s.env o v) tm' w' := by
        intro h2 hw
        refine StepTo.op ho hw fun ds => ?_
        rw [hds]
        obtain ⟨u, w', e1, e2⟩ := opR_ok ok st.rel hev h2 fr
        exact ⟨u, w', e1, st.put hal hdst e2⟩
      unfold ifG at h1
      split at h1
      · rename_i hg
        exact hdo h1 (by simp [Region.wanted, hg])
      · obtain ⟨b, h0, h1⟩ := Res.bind_ok h1
        have hw := st.env.wanted_ok h0
        cases b with
        | true => exact hdo h1 hw
        | false =>
          simp only at h1
          cases h1
          exact StepTo.skip ho hw (st.put hal hdst (Out.same st.rel ⟨#[], rfl, rfl⟩))
    · -- alias
      rename_i t sl hh
      obtain ⟨d, hd, hld, hls⟩ := how_dst hop hh
      simp only [ansR] at hq
      obtain ⟨r, h1, hq⟩ := Res.bind_ok hq
      obtain ⟨off, valid⟩ := r
      cases hq
      have hval : ∀ (b : Bool) (n : Nat), aliasR F.c.P bad s.env t sl o = .ok (n, b) → b = true := by
        intro b n hq
        unfold aliasR at hq
        obtain ⟨bo, _, hq⟩ := Res.bind_ok hq
        split at hq
        · obtain ⟨_, _, hq⟩ := Res.bind_ok hq; cases hq; rfl
        · cases hq
      have hdo : aliasR F.c.P bad s.env t sl o = .ok (off, valid) → Region.wanted o (yielded ops tm) = true → StepTo F.c.P ops i tm w fun tm' w' => ∃ ι', St F ι' loc al (putD s.env o (.loc off valid)) s.h tm' w' ∧ TStep ι s.h s.env tm w ι' s.h (putD s.env o (.loc off valid)) tm' w' := by
        intro h2 hw
        have := hval _ _ h2; subst this
        refine StepTo.op ho hw fun ds => ?_
        rw [hds]
        obtain ⟨b, b1, b2⟩ := alias_ok st.env _ hev het hh h2
        exact ⟨_, w, .inl b1, ι, st.putLoc hal hd hld hls fun _ => ⟨b, rfl, b2⟩⟩
      unfold ifG at h1
      split at h1
      · rename_i hg
        exact hdo h1 (by simp [Region.wanted, hg])
      · obtain ⟨b, h0, h1⟩ := Res.bind_ok h1
        have hw := st.env.wanted_ok h0
        cases b with
        | true => exact hdo h1 hw
        | false =>
          simp only at h1
          cases h1
          exact StepTo.skip ho hw ⟨ι, st.putLoc hal hd hld hls (fun hc => by cases hc)⟩
    · -- make
      rename_i d hh
      split at hq
      · rename_i hg
        simp only [ansR] at hq
        obtain ⟨vs, h1, hq⟩ := Res.bind_ok hq
        cases hq
        obtain ⟨hd, hld, hop'⟩ := how_inv hh
        refine StepTo.op ho (by simp [Region.wanted, hg]) fun ds => ?_
        rw [hds]
        have hrun : ∃ (c : Array Value) (T : TypeId), (execOp (⟨tm, []⟩ : Act).eval o).run F.c.P w = .ok (.value (.pointer (some ⟨w.heap.size, 0, none⟩))) { w with heap := w.heap.push (.cells c T) } ∧ VRels ι F.ρ vs c.toList ∧ ∀ v ∈ c.toList, oneC v = true := by
          unfold makeCells at h1
          rcases hop' with ⟨T, hop'⟩ | ⟨T, x, hop'⟩
          · simp only [hop'] at h1
            unfold zeroCellsR at h1
            obtain ⟨z, hz, h1⟩ := Res.bind_ok h1
            obtain ⟨zv, z1, z2⟩ := zeroV_ok (ι := ι) (ρ := F.ρ) hz
            obtain ⟨c1, c2⟩ := z2.cells h1
            exact ⟨zv.cells, T, by simp [execOp, hop', Instr.alloc, z1, newVar, Go.newRow], c1, c2⟩
          · simp only [hop'] at h1
            obtain ⟨a, ha, h1⟩ := Res.bind_ok h1
            have hr := hev _ _ ha
            obtain ⟨c1, c2⟩ := hr.cells h1
            exact ⟨_, T, by simp [execOp, hop', Instr.box, newVar, Go.newRow], c1, c2⟩
        obtain ⟨c, T, r1, r2, r3⟩ := hrun
        refine ⟨_, _, .inl r1, ι, ?_⟩
        have hk : Keep (fun b => False) w { w with heap := w.heap.push (.cells c T) } :=
          ⟨rfl, rfl, rfl, by simp, fun k hk _ => by simp [Array.getElem?_push, Nat.ne_of_lt hk]⟩
        have hblk : ∀ k, k < w.heap.size → ({ w with heap := w.heap.push (.cells c T) } : World).heap[k]? = w.heap[k]? := fun k hk => by simp [Array.getElem?_push, Nat.ne_of_lt hk]
        obtain ⟨m1, m2⟩ := EnvOk.make st.rel st.env (d := d) (T := T) hld r2 r3 (w' := { w with heap := w.heap.push (.cells c T) }) rfl
        unfold putT
        rw [hd]
        refine ⟨⟨st.rel.keep hk (fun _ hb => hb.elim) (fun b hb => hblk b (st.rel.own_lt b hb)), m1⟩, ⟨Sub.refl _, fun _ => .inr (.inl rfl), Nat.le_refl _, hk.mono (fun _ _ hb => hb.elim), fun b hb => .inl hb, fun b hb => ?_⟩⟩
        rcases m2 b hb with hb | hb
        · exact .inl hb
        · exact .inr (by omega)
      · cases hq
    · -- load
      rename_i t sl hh
      have hdst := opOk_put hop (fun d hc => by rw [hh] at hc; cases hc)
      simp only [ansR] at hq
      obtain ⟨v, h1, hq⟩ := Res.bind_ok hq
      cases hq
      have hdo : loadCell F.c.P s.env t sl o = .ok v → Region.wanted o (yielded ops tm) = true → StepTo F.c.P ops i tm w fun tm' w' => ∃ ι', St F ι' loc al (putD s.env o v) s.h tm' w' ∧ TStep ι s.h s.env tm w ι' s.h (putD s.env o v) tm' w' := by
        intro h2 hw
        refine StepTo.op ho hw fun ds => ?_
        rw [hds]
        obtain ⟨u, b1, b2⟩ := loadCell_ok st.env _ het hh h2
        exact ⟨_, w, .inl b1, st.put hal hdst (Out.same st.rel b2)⟩
      unfold ifG at h1
      split at h1
      · rename_i hg
        exact hdo h1 (by simp [Region.wanted, hg])
      · obtain ⟨b, h0, h1⟩ := Res.bind_ok h1
        have hw := st.env.wanted_ok h0
        cases b with
        | true => exact hdo h1 hw
        | false =>
          simp only at h1
          cases h1
          exact StepTo.skip ho hw (st.put hal hdst (Out.same st.rel ⟨#[], rfl, rfl⟩))
    · -- store
      rename_i t sl hh
      split at hq
      · rename_i hg hdn
        simp only [ansR] at hq
        obtain ⟨vs', h1, hq⟩ := Res.bind_ok hq
        cases hq
        refine StepTo.op ho (by simp [Region.wanted, hg]) fun ds => ?_
        rw [hds]
        obtain ⟨T, x, y, hs, hop'⟩ := how_inv hh
        obtain ⟨rfl, hts⟩ := slotOf_ok hs
        unfold storeCell at h1
        simp only [hop'] at h1
        obtain ⟨vo, h2, h1⟩ := Res.bind_ok h1
        obtain ⟨vs, off⟩ := vo
        obtain ⟨a, h3, h1⟩ := Res.bind_ok h1
        obtain ⟨n, h4, h1⟩ := Res.bind_ok h1
        obtain ⟨cs, h5, h1⟩ := Res.bind_ok h1
        split at h1
        rotate_left; · cases h1
        rename_i hl
        obtain ⟨hov, rfl⟩ := overR_ok h1
        have hov : off + cs.length ≤ vs.length := hov
        obtain ⟨hn, b, c, T', b1, b2, b3, b4, b5, b6, b7⟩ := st.env.cell (hts.imp (·.1) id) h2
        obtain ⟨c1, c2⟩ := (hev _ _ h3).cells h5
        have hlen := c1.length
        have hvl := b6.length
        have hx : (⟨tm, []⟩ : Act).eval (.tmp t) = .pointer (some ⟨b, off, none⟩) := by rw [het, Array.getD_eq_getD_getElem?, b1]; rfl
        have hrun := run_storeCells' (P := F.c.P) b off T' (0, 0) ((⟨tm, []⟩ : Act).eval y).cells.toList 0 c w b5 (.inl (Nat.le_refl _)) (by simp at hlen hvl ⊢; omega) c2
        have hsz : ((⟨tm, []⟩ : Act).eval y).cells.size = n := by simp at hlen; omega
        obtain ⟨R, hR⟩ : ∃ R, R = (c.toList.take (off + 0) ++ ((⟨tm, []⟩ : Act).eval y).cells.toList ++ c.toList.drop (off + 0 + ((⟨tm, []⟩ : Act).eval y).cells.toList.length)).toArray := ⟨_, rfl⟩
        rw [← hR] at hrun
        refine ⟨undef, w.setRow b R, .inr ⟨by simp [execOp, hop', hx, Instr.storeAt, Instr.sureAddr, storeVar, run_size h4, hsz, hrun], rfl⟩, ι, ?_⟩
        unfold putT
        rw [hdn]
        simp only
        have hcs : VRels ι F.ρ (vs.take off ++ cs ++ vs.drop (off + cs.length)) R.toList := by
          rw [hR, ← hlen]
          simpa using ((b6.take off).append c1).append (b6.drop (off + cs.length))
        obtain ⟨m1, m2⟩ := st.env.setCell (c' := R) hn b2 b5 hcs (by
          intro v hv
          rw [hR] at hv
          simp at hv
          rcases hv with hv | hv | hv
          · exact b7 v (List.mem_of_mem_take hv)
          · exact c2 v (by simpa using hv)
          · exact b7 v (List.mem_of_mem_drop hv))
        have hk := Keep.setRow w b R
        refine ⟨⟨st.rel.keep hk (fun k hk => by rw [hk]; exact b3) (fun k hk' => setRow_other w b k _ (fun hh => b4 (hh ▸ hk'))), m1⟩, ⟨Sub.refl _, fun _ => .inr (.inl rfl), Nat.le_refl _, hk.mono (fun k _ hb => by subst hb; exact .inr ⟨_, _, hn, b2⟩), fun k hb => .inl hb, fun k hb => .inl (m2 k hb)⟩⟩
      · cases hq

end
end Go.Proofs.YtofnbldbggddmaaGreatDoor
namespace Go.Proofs.YtofnbldbggddmaaGreatDoor
open Go Go.RowKit

section
variable {c : Cfg} {bad : List Nat} {env E : List AVal}

theorem opnds_congr : ∀ (l : List Operand), (∀ x ∈ l, opnd bad E x = opnd bad env x) → opnds bad E l = opnds bad env l
  | [], _ => rfl
  | x :: l, h => by
    unfold opnds
    rw [h x (by simp), opnds_congr l fun y hy => h y (by simp [hy])]

theorem opndParts_congr : ∀ (l : List (Nat × Operand)), (∀ x ∈ l, opnd bad E x.2 = opnd bad env x.2) → opndParts bad E l = opndParts bad env l
  | [], _ => rfl
  | x :: l, h => by
    unfold opndParts
    rw [h x (by simp), opndParts_congr l fun y hy => h y (by simp [hy])]

theorem optR_congr {x : Option Operand} (h : ∀ y, x = some y → opnd bad E y = opnd bad env y) : optR (opnd bad E) x = optR (opnd bad env) x := by
  cases x with
  | none => rfl
  | some y => simp only [optR]; rw [h y rfl]

theorem opR_congr {hp : AHeap} {o : Oper} (h : ∀ x ∈ o.op.operands, opnd bad E x = opnd bad env x) : opR c bad E hp o = opR c bad env hp o := by
  obtain ⟨dst, op, type, pos, after, guard⟩ := o
  cases op <;> simp only [Op.operands] at h <;> simp only [opR]
  case build t ps => rw [opndParts_congr ps.toList fun x hx => h x.2 (by simp; exact ⟨x.1, by simpa using hx⟩)]
  case buildSlice t n ps => rw [opndParts_congr ps.toList fun x hx => h x.2 (by simp; exact ⟨x.1, by simpa using hx⟩)]
  case makeFunc fn first cap =>
    cases fn <;> simp only
    rw [opnds_congr first.toList fun x hx => h x (by simp; left; simpa using hx), opnds_congr cap.toList fun x hx => h x (by simp; right; simpa using hx)]
  case call x =>
    cases hc : x.callee <;> simp only
    rw [opnds_congr x.args.toList fun y hy => h y (by simp [Call.operands, hc]; simpa using hy)]
  case slice t x lo hi mx =>
    rw [h x (by simp), optR_congr (x := lo) fun y hy => h y (by simp [hy]), optR_congr (x := hi) fun y hy => h y (by simp [hy]), optR_congr (x := mx) fun y hy => h y (by simp [hy])]
  case pick x a b => rw [h x (by simp), h a (by simp), h b (by simp)]
  all_goals first | rfl | (simp at h; simp only [h]; done) | (simp at h; simp only [h.1, h.2]; done) | (simp at h; simp only [h.1, h.2.1, h.2.2]; done)


theorem calleeR_congr {x : Call} (h : ∀ y ∈ x.operands, opnd bad E y = opnd bad env y) : calleeR c bad E x = calleeR c bad env x := by
  unfold calleeR
  have ha : opnds bad E x.args.toList = opnds bad env x.args.toList := opnds_congr _ fun y hy => h y (by
    cases hc : x.callee <;> simp [Call.operands, hc] <;> simp at hy <;> simp [hy])
  rw [ha]
  cases hc : x.callee with
  | value f => simp only; rw [h f (by simp [Call.operands, hc])]
  | invoke r m => simp only; rw [h r (by simp [Call.operands, hc])]
  | builtin b => rfl

theorem nth_clearAll' : ∀ (ns : List Nat) (l : List AVal) (m : Nat), m ∉ ns → nth (clearAll ns l) m = nth l m
  | [], l, m, _ => rfl
  | n :: ns, l, m, h => by
    simp only [clearAll]
    rw [nth_clearAll' ns _ m (by simp at h; exact h.2), nth_setN]
    split
    · rename_i hh; simp at h; exact absurd hh.1.symm h.1
    · rfl

theorem nth_clearAll_in (ns : List Nat) (l : List AVal) (m : Nat) (h : m ∈ ns) : nth (clearAll ns l) m = .dead := by
  rcases nth_clearAll ns l m with hh | ⟨_, hh⟩
  · exact hh
  · exact absurd h hh

/-! ### a step, without its book-keeping -/
def stepP (C : CallR) (c : Cfg) (loc : List Nat) (al : List (Nat × Nat)) (bad : List Nat) (ops : Array Oper) (o : Oper) (env : List AVal) (h : AHeap) : Res (List AVal × AHeap) :=
  (step1 C c loc al bad ops o (rs0 env h)).bind fun s => .ok (s.env, s.h)

theorem step1_P (C : CallR) (c : Cfg) (loc : List Nat) (al : List (Nat × Nat)) (bad : List Nat) (ops : Array Oper) (o : Oper) (s : RS) :
    step1 C c loc al bad ops o s = (stepP C c loc al bad ops o s.env s.h).bind fun p => .ok { s with env := p.1, h := p.2 } := by
  unfold stepP step1 stepK
  simp only [rs0]
  split
  · split
    · simp only [ansR, Res.bind_assoc, Res.ok_bind]
    · simp only [ansR, Res.bind_assoc]
      congr 1; funext b
      congr 1; funext fa
      cases b <;> simp [Res.bind_assoc]
  · split
    · simp only [ansR, Res.bind_assoc, Res.ok_bind]
    · simp only [ansR, Res.bind_assoc, Res.ok_bind]
    · split <;> simp only [ansR, Res.bind_assoc, Res.ok_bind, Res.err_bind]
    · simp only [ansR, Res.bind_assoc, Res.ok_bind]
    · split <;> simp only [ansR, Res.bind_assoc, Res.ok_bind, Res.err_bind]

/-- two lists of slots, alike but for some -/
def Like (W : List Nat) (E E' env' : List AVal) : Prop := E'.length = E.length ∧ ∀ t, nth E' t = if t ∈ W then nth env' t else nth E t

theorem nth_out {l : List AVal} {t : Nat} (h : ¬ t < l.length) : nth l t = .dead := by
  rw [nth_eq]; simp [Nat.not_lt.1 h]

theorem putD_like {o : Oper} {loc : List Nat} {al : List (Nat × Nat)} {v : AVal} (hl : E.length = env.length) (hw : writesOf loc al o = o.dst.toList) : Like (writesOf loc al o) E (putD E o v) (putD env o v) := by
  unfold Like putD
  rw [hw]
  cases o.dst with
  | none => exact ⟨rfl, fun t => by simp⟩
  | some d =>
    refine ⟨length_setN .., fun t => ?_⟩
    simp only [Option.toList_some, List.mem_singleton]
    rw [nth_setN, nth_setN]
    by_cases ht : t = d
    · subst ht
      by_cases hlt : t < env.length
      · simp [hl, hlt]
      · simp [hl, hlt, nth_out hlt]
        exact nth_out (by omega)
    · have : ¬ d = t := fun h => ht h.symm
      simp [ht, this]

theorem writes_plain {o : Oper} {loc : List Nat} {al : List (Nat × Nat)} (h1 : ∀ d, how loc al o ≠ .make d) (h2 : ∀ t s, how loc al o ≠ .store_ t s) : writesOf loc al o = o.dst.toList := by
  unfold writesOf
  split
  · rename_i d hh; exact absurd hh (h1 d)
  · rename_i t s hh; exact absurd hh (h2 t s)
  · simp

theorem wantedR_congr {ops : Array Oper} {o : Oper} {loc : List Nat} {al : List (Nat × Nat)} (hn : ∀ t ∈ namesOf loc al ops o, nth E t = nth env t) : wantedR ops E o = wantedR ops env o := by
  unfold wantedR
  cases hg : o.guard with
  | none => rfl
  | some g =>
    obtain ⟨j, want⟩ := g
    simp only
    cases hd : (ops[j]?).bind (·.dst) with
    | none => rfl
    | some d =>
      simp only
      rw [hn d (by unfold namesOf Oper.looksAt; simp [hg, hd])]

theorem ifG_congr {α : Type} {ops : Array Oper} {o : Oper} {other : α} {r r' : Res α} (hw : wantedR ops E o = wantedR ops env o) (hr : r = r') : ifG ops E o other r = ifG ops env o other r' := by
  unfold ifG; rw [hw, hr]

theorem operand_names {ops : Array Oper} {o : Oper} {loc : List Nat} {al : List (Nat × Nat)} (hn : ∀ t ∈ namesOf loc al ops o, nth E t = nth env t) : ∀ x ∈ o.op.operands, opnd bad E x = opnd bad env x := by
  intro x hx
  cases x with
  | tmp t =>
    simp only [opnd]
    rw [hn t (by
      unfold namesOf Oper.looksAt
      refine List.mem_append_left _ (List.mem_append_left _ (List.mem_filterMap.2 ⟨.tmp t, by simpa using hx, rfl⟩)))]
  | _ => rfl


theorem callOf_op {o : Oper} {x : Call} (h : callOf o = some x) : o.op = .call x := by
  unfold callOf at h
  split at h
  · rename_i y hy
    split at h
    · cases h
    · cases h; exact hy
  · cases h

theorem call_how {o : Oper} {x : Call} {loc : List Nat} {al : List (Nat × Nat)} (h : callOf o = some x) : how loc al o = .plain := by
  have := callOf_op h
  unfold how; rw [this]

set_option maxHeartbeats 1000000 in
theorem stepP_congr {C : CallR} {loc : List Nat} {al : List (Nat × Nat)} {ops : Array Oper} {o : Oper} {h h' : AHeap} {env' : List AVal} (hq : stepP C c loc al bad ops o env h = .ok (env', h'))
    (hn : ∀ t ∈ namesOf loc al ops o, nth E t = nth env t) (hl : E.length = env.length) : ∃ E', stepP C c loc al bad ops o E h = .ok (E', h') ∧ Like (writesOf loc al o) E E' env' := by
  have hnames := operand_names (bad := bad) hn
  have hw := wantedR_congr hn
  unfold stepP step1 stepK at hq ⊢
  simp only [rs0] at hq ⊢
  cases hc : callOf o with
  | some x =>
    have hop := callOf_op hc
    have hcal : calleeR c bad E x = calleeR c bad env x := calleeR_congr fun y hy => hnames y (by rw [hop]; exact hy)
    have hwr : writesOf loc al o = o.dst.toList := writes_plain (fun d => by rw [call_how hc]; simp) (fun t s => by rw [call_how hc]; simp)
    rw [hc] at hq
    simp only at hq ⊢
    cases hg : o.guard with
    | none =>
      rw [hg] at hq
      simp only [ansR] at hq ⊢
      obtain ⟨s, hq1, hs⟩ := Res.bind_ok hq
      clear hq
      have hq := hq1
      clear hq1
      cases hs
      obtain ⟨fa, h1, hq⟩ := Res.bind_ok hq
      obtain ⟨r, h2, hq⟩ := Res.bind_ok hq
      cases hq
      refine ⟨putD E o r.1, ?_, putD_like hl hwr⟩
      rw [hcal, h1]; simp [h2]
    | some g =>
      rw [hg] at hq
      simp only [ansR] at hq ⊢
      obtain ⟨s, hq1, hs⟩ := Res.bind_ok hq
      clear hq
      have hq := hq1
      clear hq1
      cases hs
      obtain ⟨b, h0, hq⟩ := Res.bind_ok hq
      obtain ⟨fa, h1, hq⟩ := Res.bind_ok hq
      rw [hw, h0]
      cases b with
      | true =>
        simp only at h1 hq
        obtain ⟨r, h2, hq⟩ := Res.bind_ok hq
        cases hq
        refine ⟨putD E o r.1, ?_, putD_like hl hwr⟩
        simp [hcal, h1, h2]
      | false =>
        simp only at hq
        cases hq
        exact ⟨putD E o (.tuple []), by simp, putD_like hl hwr⟩
  | none =>
    rw [hc] at hq
    simp only at hq ⊢
    cases hh : how loc al o with
    | plain =>
      have hwr : writesOf loc al o = o.dst.toList := writes_plain (fun d => by rw [hh]; simp) (fun t s => by rw [hh]; simp)
      rw [hh] at hq
      simp only [ansR] at hq ⊢
      obtain ⟨s, hq1, hs⟩ := Res.bind_ok hq
      clear hq
      have hq := hq1
      clear hq1
      cases hs
      obtain ⟨r, h1, hq⟩ := Res.bind_ok hq
      cases hq
      rw [ifG_congr hw (opR_congr hnames), h1]
      exact ⟨putD E o r.1, rfl, putD_like hl hwr⟩
    | alias_ t sl =>
      have hwr : writesOf loc al o = o.dst.toList := writes_plain (fun d => by rw [hh]; simp) (fun t s => by rw [hh]; simp)
      rw [hh] at hq
      simp only [ansR] at hq ⊢
      obtain ⟨s, hq1, hs⟩ := Res.bind_ok hq
      clear hq
      have hq := hq1
      clear hq1
      cases hs
      obtain ⟨r, h1, hq⟩ := Res.bind_ok hq
      cases hq
      have hal : aliasR c.P bad E t sl o = aliasR c.P bad env t sl o := by
        obtain ⟨x, hs, hop⟩ := how_inv hh
        obtain ⟨rfl, hts⟩ := slotOf_ok hs
        have ht : nth E t = nth env t := hn t (by
          unfold namesOf Oper.looksAt
          refine List.mem_append_left _ (List.mem_append_left _ (List.mem_filterMap.2 ⟨.tmp t, ?_, rfl⟩))
          rcases hop with hop | hop | ⟨T, f, hop⟩ | ⟨T, i, hop⟩ <;> rw [hop] <;> simp [Op.operands])
        have hb : baseOff E t sl = baseOff env t sl := by
          unfold baseOff
          by_cases hts : t = sl
          · subst hts; rw [ht]
          · rw [ht]; simp [hts]
        have hst : stepOff c.P bad E o = stepOff c.P bad env o := by
          unfold stepOff
          rcases hop with hop | hop | ⟨T, f, hop⟩ | ⟨T, i, hop⟩ <;> rw [hop] <;> simp only
          rw [hnames i (by rw [hop]; simp [Op.operands])]
        unfold aliasR
        rw [hb, hst]
      rw [ifG_congr hw hal, h1]
      exact ⟨putD E o (.loc r.1 r.2), rfl, putD_like hl hwr⟩
    | make d =>
      rw [hh] at hq
      cases hg : o.guard with
      | some g => rw [hg] at hq; cases hq
      | none =>
        rw [hg] at hq
        simp only [ansR] at hq ⊢
        obtain ⟨s, hq1, hs⟩ := Res.bind_ok hq
        clear hq
        have hq := hq1
        clear hq1
        cases hs
        obtain ⟨vs, h1, hq⟩ := Res.bind_ok hq
        cases hq
        obtain ⟨hd, hld, hop⟩ := how_inv hh
        have hmk : makeCells c.P bad E o = makeCells c.P bad env o := by
          unfold makeCells
          rcases hop with ⟨T, hop⟩ | ⟨T, x, hop⟩ <;> rw [hop] <;> simp only
          rw [hnames x (by rw [hop]; simp [Op.operands])]
        rw [hmk, h1]
        refine ⟨_, rfl, by simp [length_setN, length_clearAll], fun t => ?_⟩
        unfold writesOf
        rw [hh, hd]
        rw [nth_setN, nth_setN]
        simp only [length_clearAll, hl]
        by_cases htd : d = t ∧ d < env.length
        · rw [if_pos htd, if_pos htd]; simp [htd.1]
        · rw [if_neg htd, if_neg htd]
          by_cases hta : t ∈ aliasTo al d
          · rw [nth_clearAll_in _ _ _ hta, nth_clearAll_in _ _ _ hta]; simp [hta]
          · rw [nth_clearAll' _ _ _ hta, nth_clearAll' _ _ _ hta]
            by_cases htd' : t = d
            · subst htd'
              have : ¬ t < env.length := fun hlt => htd ⟨rfl, hlt⟩
              rw [nth_out this, nth_out (by omega)]; simp
            · simp [hta, htd']
    | load_ t sl =>
      have hwr : writesOf loc al o = o.dst.toList := writes_plain (fun d => by rw [hh]; simp) (fun t s => by rw [hh]; simp)
      rw [hh] at hq
      simp only [ansR] at hq ⊢
      obtain ⟨s, hq1, hs⟩ := Res.bind_ok hq
      clear hq
      have hq := hq1
      clear hq1
      cases hs
      obtain ⟨r, h1, hq⟩ := Res.bind_ok hq
      cases hq
      have hld : loadCell c.P E t sl o = loadCell c.P env t sl o := by
        obtain ⟨T, x, hs, hop⟩ := how_inv hh
        obtain ⟨rfl, hts⟩ := slotOf_ok hs
        have ht : nth E t = nth env t := hn t (by
          unfold namesOf Oper.looksAt
          refine List.mem_append_left _ (List.mem_append_left _ (List.mem_filterMap.2 ⟨.tmp t, ?_, rfl⟩))
          rw [hop]; simp [Op.operands])
        have hsl : nth E sl = nth env sl := hn sl (by unfold namesOf; rw [hh]; simp)
        unfold loadCell cellAt baseOff
        rw [ht, hsl]
      rw [ifG_congr hw hld, h1]
      exact ⟨putD E o r, rfl, putD_like hl hwr⟩
    | store_ t sl =>
      rw [hh] at hq
      cases hg : o.guard with
      | some g => rw [hg] at hq; cases hq
      | none =>
        cases hd : o.dst with
        | some d => rw [hg, hd] at hq; cases hq
        | none =>
          rw [hg, hd] at hq
          simp only [ansR] at hq ⊢
          obtain ⟨s, hq1, hs⟩ := Res.bind_ok hq
          clear hq
          have hq := hq1
          clear hq1
          cases hs
          obtain ⟨vs, h1, hq⟩ := Res.bind_ok hq
          cases hq
          obtain ⟨T, x, y, hs, hop⟩ := how_inv hh
          obtain ⟨rfl, hts⟩ := slotOf_ok hs
          have ht : nth E t = nth env t := hn t (by
            unfold namesOf Oper.looksAt
            refine List.mem_append_left _ (List.mem_append_left _ (List.mem_filterMap.2 ⟨.tmp t, ?_, rfl⟩))
            rw [hop]; simp [Op.operands])
          have hsl : nth E sl = nth env sl := hn sl (by unfold namesOf; rw [hh]; simp)
          have hst : storeCell c.P bad E t sl o = storeCell c.P bad env t sl o := by
            unfold storeCell
            rw [hop]
            simp only
            rw [hnames y (by rw [hop]; simp [Op.operands])]
            unfold cellAt baseOff
            rw [ht, hsl]
          rw [hst, h1]
          refine ⟨_, rfl, by simp [length_setN], fun u => ?_⟩
          unfold writesOf
          rw [hh, hd]
          rw [nth_setN, nth_setN, hl]
          by_cases hu : u = sl
          · subst hu
            by_cases hlt : u < env.length
            · simp [hlt]
            · simp [hlt, nth_out hlt]; exact nth_out (by omega)
          · have : ¬ sl = u := fun h => hu h.symm
            simp [hu, this]

/-- other slots stay -/
theorem stepP_frame {C : CallR} {loc : List Nat} {al : List (Nat × Nat)} {ops : Array Oper} {o : Oper} {h h' : AHeap} {env' : List AVal} (hq : stepP C c loc al bad ops o env h = .ok (env', h')) :
    Like (writesOf loc al o) env env' env' := by
  obtain ⟨E', h1, h2⟩ := stepP_congr hq (fun _ _ => rfl) rfl
  rw [hq] at h1; cases h1
  exact h2

end

theorem alias_shape {C : CallR} {c : Cfg} {bad : List Nat} {loc : List Nat} {al : List (Nat × Nat)} {ops : Array Oper} {o : Oper} {env : List AVal} {h : AHeap} {s : Nat} (hb : baseSlot loc al o = some s) :
    stepP C c loc al bad ops o env h = ((aliasR c.P bad env s s o).bind fun n => .ok (putD env o (.loc n.1 n.2), h)) := by
  unfold baseSlot at hb
  split at hb
  · cases hb
  rename_i hg
  split at hb
  rotate_left; · cases hb
  rename_i t s' hh
  split at hb
  rotate_left; · cases hb
  rename_i he
  cases hb
  subst he
  unfold stepP step1 stepK
  simp only [rs0]
  cases hc : callOf o with
  | some x => rw [call_how hc] at hh; cases hh
  | none =>
    simp only [hh, ifG, hg, ansR]
    cases aliasR c.P bad env t t o <;> rfl

theorem stepP_congrX {c : Cfg} {bad : List Nat} {E env : List AVal} {C : CallR} {loc : List Nat} {al : List (Nat × Nat)} {ops : Array Oper} {o : Oper} {h h' : AHeap} {env' : List AVal} (hq : stepP C c loc al bad ops o env h = .ok (env', h'))
    (hn : ∀ t ∈ namesX loc al ops o, nth E t = nth env t) (hl : E.length = env.length) (hb : ∀ s, baseSlot loc al o = some s → bad.contains s = true)
    (hcl : ∀ s, baseSlot loc al o = some s → ops.toList.any (makesB loc al) = false → (∃ vs, nth E s = .cell vs) ∧ ∃ vs, nth env s = .cell vs) : ∃ E', stepP C c loc al bad ops o E h = .ok (E', h') ∧ Like (writesOf loc al o) E E' env' := by
  unfold namesX at hn
  cases hbs : baseSlot loc al o with
  | none => rw [hbs] at hn; exact stepP_congr hq hn hl
  | some s =>
    rw [hbs] at hn
    simp only at hn
    cases hm : ops.toList.any (makesB loc al) with
    | true => rw [hm] at hn; exact stepP_congr hq hn hl
    | false =>
      rw [hm] at hn
      simp only [Bool.false_eq_true, if_false, List.mem_filter, Bool.not_eq_true', beq_eq_false_iff_ne, ne_eq, and_imp] at hn
      obtain ⟨⟨vs, h1⟩, ws, h2⟩ := hcl s hbs hm
      have hbad := hb s hbs
      have hbase : baseOff E s s = baseOff env s s := by unfold baseOff; simp [h1, h2]
      have hoff : stepOff c.P bad E o = stepOff c.P bad env o := by
        unfold stepOff
        split <;> try rfl
        rename_i t x i hop
        have hi : opnd bad E i = opnd bad env i := by
          cases i with
          | tmp k =>
            by_cases hk : k = s
            · subst hk
              simp only [opnd, hbad, if_true]
            · simp only [opnd]
              rw [hn k (by
                unfold namesOf Oper.looksAt
                refine List.mem_append_left _ (List.mem_append_left _ (List.mem_filterMap.2 ⟨.tmp k, by rw [hop]; simp [Op.operands], rfl⟩))) hk]
          | _ => rfl
        rw [hi]
      have hal : aliasR c.P bad E s s o = aliasR c.P bad env s s o := by unfold aliasR; rw [hbase, hoff]
      have hwr : writesOf loc al o = o.dst.toList := by
        refine writes_plain (fun d hh => ?_) (fun t s' hh => ?_)
        · unfold baseSlot at hbs; rw [hh] at hbs; split at hbs <;> cases hbs
        · unfold baseSlot at hbs; rw [hh] at hbs; split at hbs <;> cases hbs
      rw [alias_shape hbs] at hq ⊢
      rw [hal]
      obtain ⟨n, n1, n2⟩ := Res.bind_ok hq
      cases n2
      exact ⟨_, by rw [n1]; rfl, putD_like hl hwr⟩

theorem store_cell {C : CallR} {c : Cfg} {bad : List Nat} {loc : List Nat} {al : List (Nat × Nat)} {ops : Array Oper} {o : Oper} {env : List AVal} {h : AHeap} {p : List AVal × AHeap} {t s : Nat} (hh : how loc al o = .store_ t s) (hq : stepP C c loc al bad ops o env h = .ok p) : (∃ vs, nth env s = .cell vs) ∧ ∃ vs, nth p.1 s = .cell vs := by
  have hc : callOf o = none := by
    cases hc : callOf o with
    | none => rfl
    | some x => rw [call_how hc] at hh; cases hh
  unfold stepP step1 stepK at hq
  simp only [rs0, hc, hh] at hq
  obtain ⟨s', h1, h2⟩ := Res.bind_ok hq
  cases h2
  split at h1
  · simp only [ansR] at h1
    obtain ⟨vs, h3, h4⟩ := Res.bind_ok h1
    cases h4
    have hce : ∃ ws, nth env s = .cell ws := by
      unfold storeCell at h3
      split at h3
      · obtain ⟨vo, h5, _⟩ := Res.bind_ok h3
        unfold cellAt at h5
        split at h5
        · rename_i ws hw; exact ⟨ws, hw⟩
        · cases h5
      · cases h3
    refine ⟨hce, vs, ?_⟩
    obtain ⟨ws, hw⟩ := hce
    have hlt : s < env.length := by
      rcases Nat.lt_or_ge s env.length with h | h
      · exact h
      · rw [nth_out (by omega)] at hw; cases hw
    show nth (setN env s (.cell vs)) s = _
    rw [nth_setN]
    simp [hlt]
  · simp only [ansR] at h1
    cases h1
end Go.Proofs.YtofnbldbggddmaaGreatDoor
namespace Go.Proofs.YtofnbldbggddmaaGreatDoor
open Go Go.RowKit

def Pu (g : AHeap → Res (AVal × AHeap)) : Prop := ∀ h v h', g h = .ok (v, h') → h' = h ∧ ∀ h2, g h2 = .ok (v, h2)
def Rd (g : AHeap → Res (AVal × AHeap)) : Prop := ∀ h v h', g h = .ok (v, h') → h' = h
def Al (g : AHeap → Res (AVal × AHeap)) : Prop := ∀ h v h', g h = .ok (v, h') → ∃ x, h' = h.push x ∧ ∀ h2 : AHeap, h2.next = h.next → g h2 = .ok (v, h2.push x)

theorem Pu.err {n : Nat} : Pu fun _ => .err n := fun _ _ _ hh => by cases hh
theorem Pu.ok {v : AVal} : Pu fun h => .ok (v, h) := fun _ _ _ hh => by cases hh; exact ⟨rfl, fun _ => rfl⟩
theorem Pu.pure {r : Res AVal} : Pu fun h => pureV h r := fun h v h' hh => by
  obtain ⟨a, rfl⟩ := pureV_ok hh
  exact ⟨rfl, fun h2 => by rw [a]; rfl⟩
theorem Pu.bind {α : Type} {m : Res α} {g : α → AHeap → Res (AVal × AHeap)} (hg : ∀ a, Pu (g a)) : Pu fun h => m.bind fun a => g a h := fun h v h' hh => by
  obtain ⟨a, h1, h2⟩ := Res.bind_ok hh
  obtain ⟨h3, h4⟩ := hg a h v h' h2
  exact ⟨h3, fun h2 => by simp only [h1, Res.ok_bind]; exact h4 h2⟩
theorem Pu.ite {p : Prop} [Decidable p] {g g' : AHeap → Res (AVal × AHeap)} (h : Pu g) (h' : Pu g') : Pu fun hp => if p then g hp else g' hp := by
  by_cases hp : p <;> simp [hp] <;> assumption

theorem Rd.err {n : Nat} : Rd fun _ => .err n := fun _ _ _ hh => by cases hh
theorem Rd.ok {v : AHeap → AVal} : Rd fun h => .ok (v h, h) := fun _ _ _ hh => by cases hh; rfl
theorem Rd.pure {r : AHeap → Res AVal} : Rd fun h => pureV h (r h) := fun h v h' hh => (pureV_ok hh).2
theorem Rd.bind {α : Type} {m : AHeap → Res α} {g : α → AHeap → Res (AVal × AHeap)} (hg : ∀ a, Rd (g a)) : Rd fun h => (m h).bind fun a => g a h := fun h v h' hh => by
  obtain ⟨a, h1, h2⟩ := Res.bind_ok hh
  exact hg a h v h' h2

theorem Al.err {n : Nat} : Al fun _ => .err n := fun _ _ _ hh => by cases hh
theorem Al.push {v : Nat → AVal} {x : AObj} : Al fun h => .ok (v h.next, h.push x) := fun _ _ _ hh => by cases hh; exact ⟨x, rfl, fun h2 hn => by simp only [hn]⟩
theorem Al.bind {α : Type} {m : Res α} {g : α → AHeap → Res (AVal × AHeap)} (hg : ∀ a, Al (g a)) : Al fun h => m.bind fun a => g a h := fun h v h' hh => by
  obtain ⟨a, h1, h2⟩ := Res.bind_ok hh
  obtain ⟨x, h3, h4⟩ := hg a h v h' h2
  exact ⟨x, h3, fun h2 hn => by simp only [h1, Res.ok_bind]; exact h4 h2 hn⟩
theorem Al.ite {p : Prop} [Decidable p] {g g' : AHeap → Res (AVal × AHeap)} (h : Al g) (h' : Al g') : Al fun hp => if p then g hp else g' hp := by
  by_cases hp : p <;> simp [hp] <;> assumption

section
variable {c : Cfg} {bad : List Nat} {env : List AVal} {loc : List Nat} {al : List (Nat × Nat)}

theorem binR_pu {op : BinOp} {t : Nat} {a b : AVal} (n1 : op ≠ .eql) (n2 : op ≠ .neq) : Pu fun h => pureV h (binR c h op t a b) := by
  have hb : ∀ g g' : AHeap, binR c g op t a b = binR c g' op t a b := by
    intro g g'
    unfold binR
    split <;> first | exact absurd rfl n1 | exact absurd rfl n2 | with_reducible rfl | (simp_all; done)
  intro h v h' hh
  obtain ⟨hv, rfl⟩ := pureV_ok hh
  exact ⟨rfl, fun g => by show pureV g (binR c g op t a b) = _; rw [hb g h', hv]; rfl⟩

theorem convR_pu {s d : Nat} {x : AVal} (hs : ∀ e, c.P.underlying s ≠ some (.slice e)) (g g' : AHeap) : convR c g s d x = convR c g' s d x := by
  unfold convR
  cases h1 : undR c.P s with
  | err n => rfl
  | ok ds =>
    cases h2 : undR c.P d with
    | err n => rfl
    | ok dd =>
      simp only [Res.ok_bind]
      have : ∀ e, ds ≠ .slice e := fun e he => hs e (by rw [undR_ok h1, he])
      cases ds with
      | slice e => exact absurd rfl (this e)
      | _ => cases dd <;> first | rfl | (cases x <;> rfl)

theorem opR_conv {o : Oper} {s d : Nat} {x : Operand} {a : AVal} {ds dd : TypeDesc} (hop : o.op = .convert s d x) (h1 : opnd bad env x = .ok a) (h2 : undR c.P s = .ok ds) (h3 : undR c.P d = .ok dd) (hdd : ∀ e, dd ≠ .slice e) (g : AHeap) :
    opR c bad env g o = pureV g (convR c g s d a) := by
  unfold opR
  rw [hop]
  simp only [h1, h2, h3, Res.ok_bind]
  cases dd with
  | slice e => exact absurd rfl (hdd e)
  | _ => rfl

theorem builtin_pu {b : Builtin} {ts : Array Nat} {args : List AVal} (hb : b = .max ∨ b = .min ∨ b = .complex ∨ b = .real ∨ b = .imag) : Pu fun h => builtinR c h b ts args := by
  unfold builtinR
  rcases hb with rfl | rfl | rfl | rfl | rfl
  · rcases args with _ | ⟨x, l⟩
    · exact Pu.err
    · exact Pu.bind fun v => Pu.ok
  · rcases args with _ | ⟨x, l⟩
    · exact Pu.err
    · exact Pu.bind fun v => Pu.ok
  · rcases args with _ | ⟨x, _ | ⟨y, _ | ⟨z, l⟩⟩⟩
    · exact Pu.err
    · cases x <;> exact Pu.err
    · cases x <;> first | exact Pu.err | (cases y <;> first | exact Pu.err | exact Pu.ite Pu.ok Pu.err)
    · cases x <;> first | exact Pu.err | (cases y <;> exact Pu.err)
  · rcases args with _ | ⟨x, _ | ⟨y, l⟩⟩
    · exact Pu.err
    · cases x <;> first | exact Pu.err | exact Pu.ok
    · cases x <;> exact Pu.err
  · rcases args with _ | ⟨x, _ | ⟨y, l⟩⟩
    · exact Pu.err
    · cases x <;> first | exact Pu.err | exact Pu.ok
    · cases x <;> exact Pu.err

theorem opR_pure {o : Oper} (hh : how loc al o = .plain) (hk : kindOf c.P loc al o = .pure) : Pu fun h => opR c bad env h o := by
  obtain ⟨dst, op, type, pos, after, guard⟩ := o
  unfold kindOf at hk
  rw [hh] at hk
  simp only at hk
  cases op <;> simp only [reduceCtorEq] at hk <;> simp only [opR]
  case pick x a b =>
    refine Pu.bind fun v => ?_
    split
    · exact Pu.pure
    · exact Pu.pure
    · exact Pu.err
  case binOp op xt x y t =>
    refine Pu.bind fun a => Pu.bind fun b => Pu.ite ?_ Pu.err
    exact binR_pu (fun hc => by subst hc; simp at hk) (fun hc => by subst hc; simp at hk)
  case convert s d x =>
    intro h v h' hq
    have hq0 := hq
    obtain ⟨a, h1, hq⟩ := Res.bind_ok hq
    obtain ⟨ds, h2, hq⟩ := Res.bind_ok hq
    obtain ⟨dd, h3, hq⟩ := Res.bind_ok hq
    rw [undR_ok h2, undR_ok h3] at hk
    have hdd : ∀ e, dd ≠ .slice e := by
      intro e he; subst he
      cases ds <;> simp at hk
    have hds : ∀ e, ds ≠ .slice e := by
      intro e he; subst he
      cases dd <;> simp at hk
    have hin := opR_conv (c := c) (bad := bad) (env := env) (o := ⟨dst, .convert s d x, type, pos, after, guard⟩) rfl h1 h2 h3 hdd
    have hq' := (hin h).symm.trans hq0
    obtain ⟨hv, rfl⟩ := pureV_ok hq'
    refine ⟨rfl, fun g => ?_⟩
    refine (hin g).trans ?_
    rw [convR_pu (fun e he => hds e (by rw [undR_ok h2] at he; cases he; rfl)) g h', hv]; rfl
  case makeInterface t x =>
    refine Pu.bind fun v => Pu.bind fun d => ?_
    split
    · exact Pu.err
    · exact Pu.ok
  case makeFunc fn first cap =>
    cases fn
    · exact Pu.bind fun a => Pu.bind fun b => Pu.ok
    all_goals exact Pu.err
  case call x =>
    cases hc : x.callee with
    | builtin b =>
      rw [hc] at hk
      simp only at hk ⊢
      refine Pu.bind fun args => ?_
      refine builtin_pu ?_
      cases b <;> simp at hk ⊢
    | _ => rw [hc] at hk; cases hk
  all_goals first | exact Pu.pure | exact Pu.bind fun v => Pu.pure | exact Pu.bind fun v => Pu.bind fun u => Pu.pure


theorem opR_read {o : Oper} (hh : how loc al o = .plain) (hk : kindOf c.P loc al o = .read) : Rd fun h => opR c bad env h o := by
  obtain ⟨dst, op, type, pos, after, guard⟩ := o
  unfold kindOf at hk
  rw [hh] at hk
  simp only at hk
  cases op <;> simp only [reduceCtorEq] at hk <;> simp only [opR]
  case load t x => exact Rd.bind fun p => Rd.pure
  case lookup t x k ok => exact Rd.bind fun p => Rd.bind fun q => Rd.pure
  case slice t x lo hi mx => exact Rd.bind fun p => Rd.bind fun q => Rd.bind fun q => Rd.bind fun q => Rd.pure
  case binOp op xt x y t =>
    refine Rd.bind fun a => Rd.bind fun b => ?_
    split
    · exact Rd.pure
    · exact Rd.err
  case convert s d x =>
    intro h v h' hq
    have hq0 := hq
    obtain ⟨a, h1, hq⟩ := Res.bind_ok hq
    obtain ⟨ds, h2, hq⟩ := Res.bind_ok hq
    obtain ⟨dd, h3, hq⟩ := Res.bind_ok hq
    rw [undR_ok h2, undR_ok h3] at hk
    have hdd : ∀ e, dd ≠ .slice e := by
      intro e he; subst he
      cases ds <;> simp at hk
    have hin := opR_conv (c := c) (bad := bad) (env := env) (o := ⟨dst, .convert s d x, type, pos, after, guard⟩) rfl h1 h2 h3 hdd
    exact (pureV_ok ((hin h).symm.trans hq0)).2
  case call x =>
    cases hc : x.callee with
    | builtin b =>
      rw [hc] at hk
      simp only at hk ⊢
      refine Rd.bind fun args => ?_
      cases b <;> simp at hk
      intro h v h' hq
      unfold builtinR at hq
      split at hq
      · obtain ⟨_, _, hq⟩ := Res.bind_ok hq; cases hq; rfl
      all_goals first | (simp_all; done) | (cases hq; done) | (cases hq; rfl)
    | _ => rw [hc] at hk; cases hk

theorem opR_alloc {o : Oper} (hh : how loc al o = .plain) (hk : kindOf c.P loc al o = .alloc) : Al fun h => opR c bad env h o := by
  obtain ⟨dst, op, type, pos, after, guard⟩ := o
  unfold kindOf at hk
  rw [hh] at hk
  simp only at hk
  cases op <;> simp only [reduceCtorEq] at hk <;> simp only [opR]
  case alloc t =>
    refine Al.bind fun z => ?_
    split
    · unfold bldR
      split
      · exact Al.push (v := fun n => .ptr n 0)
      · intro h v h' hq; cases hq
    · exact Al.bind fun cs => Al.push (v := fun n => .ptr n 0)
  case box t x => exact Al.bind fun z => Al.bind fun cs => Al.push (v := fun n => .ptr n 0)
  case buildSlice t n ps =>
    refine Al.bind fun l => ?_
    unfold buildSliceR
    exact Al.bind fun e => Al.bind fun size => Al.ite Al.err (Al.ite Al.err (Al.bind fun z => Al.ite (Al.bind fun cs => Al.push (v := fun m => .sl m 0 n)) Al.err))
  case makeMap t r =>
    cases r with
    | none => exact Al.push (v := fun n => .map n)
    | some _ => exact Al.err
  case makeSlice t l m =>
    refine Al.bind fun a => Al.bind fun b => ?_
    unfold makeSliceR
    cases a <;> first | exact Al.err | skip
    cases b <;> first | exact Al.err | skip
    rename_i k1 n1 k2 n2
    exact Al.bind fun e => Al.bind fun i => Al.ite (Al.bind fun z => Al.ite (Al.push (v := fun m => .sl m 0 n1.toNat)) Al.err) Al.err
  case convert s d x =>
    refine Al.bind fun v => ?_
    cases h2 : undR c.P s with
    | err n => exact Al.err
    | ok ds =>
      cases h3 : undR c.P d with
      | err n => exact Al.err
      | ok dd =>
        rw [undR_ok h2, undR_ok h3] at hk
        have hss : ds = .string ∧ ∃ e, dd = .slice e := by
          cases ds <;> cases dd <;> simp at hk ⊢
        obtain ⟨rfl, e, rfl⟩ := hss
        have hne : s ≠ d := by
          intro hsd
          have a1 := undR_ok h2; have a2 := undR_ok h3
          rw [hsd, a2] at a1; cases a1
        simp only [Res.ok_bind]
        have hcv : ∀ v : AVal, ∀ g : AHeap, ∃ n, pureV g (convR c g s d v) = .err n := by
          intro v g
          unfold convR
          rw [h2, h3]
          simp only [Res.ok_bind]
          cases v <;> exact ⟨_, rfl⟩
        cases v
        case str b =>
          refine Al.bind fun w => ?_
          split
          · exact Al.push (v := fun n => .sl n 0 b.length)
          · exact Al.err
        case sl o off n =>
          refine Al.bind fun w => ?_
          intro h v h' hq
          split at hq
          · simp only [if_neg hne] at hq
            split at hq <;> cases hq
          · cases hq
        all_goals
          intro h v h' hq
          have hq' := (show pureV h (convR c h s d _) = .ok (v, h') from hq)
          obtain ⟨n, hn⟩ := hcv _ h
          rw [hn] at hq'
          cases hq'
  case call x =>
    cases hc : x.callee with
    | builtin b => rw [hc] at hk; cases b <;> simp at hk
    | _ => rw [hc] at hk; cases hk
  all_goals (split at hk <;> cases hk)


/-! ### steps, by their kind -/
theorem kind_call {P : Program} {o : Oper} {k : Kind} (hk : kindOf P loc al o = k) (h : k ≠ .imp) : callOf o = none := by
  cases hc : callOf o with
  | none => rfl
  | some x =>
    have hop := callOf_op hc
    have hh := call_how (loc := loc) (al := al) hc
    unfold kindOf at hk
    rw [hh, hop] at hk
    simp only at hk
    unfold callOf at hc
    rw [hop] at hc
    simp only at hc
    cases hcc : x.callee with
    | builtin b => rw [hcc] at hc; cases hc
    | value f => rw [hcc] at hk; exact absurd hk.symm h
    | invoke r m => rw [hcc] at hk; exact absurd hk.symm h

theorem stepP_plain {C : CallR} {ops : Array Oper} {o : Oper} (hc : callOf o = none) (hh : how loc al o = .plain) (env : List AVal) (h : AHeap) :
    stepP C c loc al bad ops o env h = (ifG ops env o (.tuple [], h) (opR c bad env h o)).bind fun r => .ok (putD env o r.1, r.2) := by
  unfold stepP step1 stepK
  rw [hc, hh]
  simp [ansR, rs0, Res.bind_assoc]

theorem stepP_pure {C : CallR} {ops : Array Oper} {o : Oper} {env env' : List AVal} {h h' : AHeap} (hk : kindOf c.P loc al o = .pure) (hq : stepP C c loc al bad ops o env h = .ok (env', h')) :
    h' = h ∧ ∀ g, stepP C c loc al bad ops o env g = .ok (env', g) := by
  have hc := kind_call hk (by simp)
  by_cases hh : how loc al o = .plain
  · rw [stepP_plain hc hh] at hq
    obtain ⟨r, h1, hq⟩ := Res.bind_ok hq
    cases hq
    have hp := opR_pure (c := c) (bad := bad) (env := env) hh hk
    have key : r.2 = h ∧ ∀ g, ifG ops env o (.tuple [], g) (opR c bad env g o) = .ok (r.1, g) := by
      unfold ifG at h1 ⊢
      cases hg : o.guard with
      | none =>
        rw [hg] at h1
        obtain ⟨h2, h3⟩ := hp h r.1 r.2 h1
        exact ⟨h2, h3⟩
      | some x =>
        rw [hg] at h1
        simp only at h1 ⊢
        obtain ⟨b, h0, h1⟩ := Res.bind_ok h1
        cases b with
        | true =>
          obtain ⟨h2, h3⟩ := hp h r.1 r.2 h1
          exact ⟨h2, fun g => by rw [h0]; exact h3 g⟩
        | false => cases h1; exact ⟨rfl, fun g => by rw [h0]; rfl⟩
    refine ⟨key.1, fun g => ?_⟩
    rw [stepP_plain hc hh, key.2 g]; rfl
  · unfold stepP step1 stepK at hq ⊢
    rw [hc] at hq
    simp only [hc] at hq ⊢
    simp only [rs0, ansR] at hq ⊢
    cases hw : how loc al o with
    | plain => exact absurd hw hh
    | alias_ t sl =>
      rw [hw] at hq
      simp only at hq ⊢
      obtain ⟨s, h1, h2⟩ := Res.bind_ok hq
      cases h2
      obtain ⟨r, h3, h4⟩ := Res.bind_ok h1
      cases h4
      exact ⟨rfl, fun g => by rw [h3]; rfl⟩
    | load_ t sl =>
      rw [hw] at hq
      simp only at hq ⊢
      obtain ⟨s, h1, h2⟩ := Res.bind_ok hq
      cases h2
      obtain ⟨r, h3, h4⟩ := Res.bind_ok h1
      cases h4
      exact ⟨rfl, fun g => by rw [h3]; rfl⟩
    | make d =>
      rw [hw] at hq
      cases hg : o.guard with
      | some g => rw [hg] at hq; cases hq
      | none =>
        rw [hg] at hq
        simp only at hq ⊢
        obtain ⟨s, h1, h2⟩ := Res.bind_ok hq
        cases h2
        obtain ⟨r, h3, h4⟩ := Res.bind_ok h1
        cases h4
        exact ⟨rfl, fun g => by rw [h3]; rfl⟩
    | store_ t sl =>
      rw [hw] at hq
      cases hg : o.guard with
      | some g => rw [hg] at hq; cases hq
      | none =>
        cases hd : o.dst with
        | some d => rw [hg, hd] at hq; cases hq
        | none =>
          rw [hg, hd] at hq
          simp only at hq ⊢
          obtain ⟨s, h1, h2⟩ := Res.bind_ok hq
          cases h2
          obtain ⟨r, h3, h4⟩ := Res.bind_ok h1
          cases h4
          exact ⟨rfl, fun g => by rw [h3]; rfl⟩

theorem kind_plain {P : Program} {o : Oper} {k : Kind} (hk : kindOf P loc al o = k) (h : k ≠ .pure) : how loc al o = .plain := by
  unfold kindOf at hk
  split at hk
  · rename_i hh; exact hh
  · exact absurd hk.symm h

theorem stepP_read {C : CallR} {ops : Array Oper} {o : Oper} {env : List AVal} {h : AHeap} {v : AVal} (hk : kindOf c.P loc al o = .read) (hq : readAt c bad ops env o h = .ok v) :
    stepP C c loc al bad ops o env h = .ok (putD env o v, h) := by
  have hc := kind_call hk (by simp)
  have hh := kind_plain hk (by simp)
  rw [stepP_plain hc hh]
  have hr := opR_read (c := c) (bad := bad) (env := env) hh hk
  unfold readAt at hq
  unfold ifG at hq ⊢
  cases hg : o.guard with
  | none =>
    rw [hg] at hq
    simp only at hq ⊢
    obtain ⟨r, h1, h2⟩ := Res.bind_ok hq
    cases h2
    rw [h1]
    have := hr h r.1 r.2 h1
    simp only [Res.ok_bind]; rw [this]
  | some x =>
    rw [hg] at hq
    simp only at hq ⊢
    obtain ⟨b, h0, hq⟩ := Res.bind_ok hq
    rw [h0]
    cases b with
    | true =>
      simp only at hq
      obtain ⟨r, h1, h2⟩ := Res.bind_ok hq
      cases h2
      have := hr h r.1 r.2 h1
      simp only [Res.ok_bind, h1]; rw [this]
    | false => cases hq; rfl

theorem stepP_alloc {C : CallR} {ops : Array Oper} {o : Oper} {env env' : List AVal} {h h' : AHeap} (hk : kindOf c.P loc al o = .alloc) (hg : o.guard = none) (hq : stepP C c loc al bad ops o env h = .ok (env', h')) :
    ∃ x, h' = h.push x ∧ ∀ g : AHeap, g.next = h.next → stepP C c loc al bad ops o env g = .ok (env', g.push x) := by
  have hc := kind_call hk (by simp)
  have hh := kind_plain hk (by simp)
  rw [stepP_plain hc hh] at hq
  obtain ⟨r, h1, hq⟩ := Res.bind_ok hq
  cases hq
  unfold ifG at h1
  rw [hg] at h1
  obtain ⟨x, h2, h3⟩ := opR_alloc (c := c) (bad := bad) (env := env) hh hk h r.1 r.2 h1
  refine ⟨x, h2, fun g hn => ?_⟩
  rw [stepP_plain hc hh]
  unfold ifG
  rw [hg]
  simp only
  have h4 : opR c bad env g o = .ok (r.1, g.push x) := h3 g hn
  rw [h4]; rfl

end
end Go.Proofs.YtofnbldbggddmaaGreatDoor
namespace Go.Proofs.YtofnbldbggddmaaGreatDoor
open Go Go.RowKit

def Mono (C : CallR) : Prop := ∀ f args h v h', C f args h = .ok (v, h') → h.next ≤ h'.next
theorem CallSound.mono {F : Fix} {C : CallR} (h : CallSound F C) : Mono C := fun f args hh v h' hq => (h f args hh v h' hq).1

theorem step1_next {C : CallR} (hC : Mono C) {c : Cfg} {loc : List Nat} {al : List (Nat × Nat)} {bad : List Nat} {ops : Array Oper} {o : Oper} {s s' : RS}
    (hq : step1 C c loc al bad ops o s = .ok s') : s.h.next ≤ s'.h.next := by
  unfold step1 stepK at hq
  split at hq
  · split at hq
    · simp only [ansR] at hq
      obtain ⟨fa, h1, hq⟩ := Res.bind_ok hq
      obtain ⟨r, h2, hq⟩ := Res.bind_ok hq
      cases hq
      exact hC _ _ _ _ _ h2
    · simp only [ansR] at hq
      obtain ⟨b, h0, hq⟩ := Res.bind_ok hq
      obtain ⟨fa, h1, hq⟩ := Res.bind_ok hq
      cases b with
      | true =>
        simp only at h1 hq
        obtain ⟨r, h2, hq⟩ := Res.bind_ok hq
        cases hq
        exact hC _ _ _ _ _ h2
      | false => cases hq; exact Nat.le_refl _
  · split at hq
    · simp only [ansR] at hq
      obtain ⟨r, h1, hq⟩ := Res.bind_ok hq
      cases hq
      unfold ifG at h1
      split at h1
      · exact opR_next _ _ h1
      · obtain ⟨b, h0, h1⟩ := Res.bind_ok h1
        cases b with
        | true => exact opR_next _ _ h1
        | false => cases h1; exact Nat.le_refl _
    · simp only [ansR] at hq
      obtain ⟨r, h1, hq⟩ := Res.bind_ok hq
      cases hq; exact Nat.le_refl _
    · split at hq
      · simp only [ansR] at hq
        obtain ⟨r, h1, hq⟩ := Res.bind_ok hq
        cases hq; exact Nat.le_refl _
      · cases hq
    · simp only [ansR] at hq
      obtain ⟨r, h1, hq⟩ := Res.bind_ok hq
      cases hq; exact Nat.le_refl _
    · split at hq
      · simp only [ansR] at hq
        obtain ⟨r, h1, hq⟩ := Res.bind_ok hq
        cases hq; exact Nat.le_refl _
      · cases hq

theorem runText1_next {C : CallR} (hC : Mono C) {c : Cfg} {loc : List Nat} {al : List (Nat × Nat)} {bad : List Nat} {ops : Array Oper} : ∀ {l : List Oper} {s s' : RS},
    runText1 C c loc al bad ops l s = .ok s' → s.h.next ≤ s'.h.next
  | [], s, s', hq => by cases hq; exact Nat.le_refl _
  | o :: l, s, s', hq => by
    rw [runText1_cons] at hq
    obtain ⟨s1, h1, hq⟩ := Res.bind_ok hq
    exact Nat.le_trans (step1_next hC h1) (runText1_next hC hq)

section
variable {F : Fix} {loc : List Nat} {al : List (Nat × Nat)}

theorem text_ok {C : CallR} {bad : List Nat} {ops : Array Oper} {Q : Exit → Act → World → Prop} {ds : List Deferred} (ok : F.Ok) (hC : CallSound F C)
    (hal : ∀ t s, lookN al t = some s → loc.contains s = true) (hb1 : ∀ t, loc.contains t = true → bad.contains t = true) (hb2 : ∀ t s, lookN al t = some s → bad.contains t = true)
    (hop : ∀ o ∈ ops.toList, opOk loc al o = true) : ∀ (l : List Oper) (i : Nat), ops.toList.drop i = l → ∀ (ι : Inj) (tm : Array Value) (w : World) (s s' : RS), St F ι loc al s.env s.h tm w →
      runText1 C F.c loc al bad ops l s = .ok s' → Fresh ι s.h.next s'.h.next →
      (∀ ι' tm' w', St F ι' loc al s'.env s'.h tm' w' → TStep ι s.h s.env tm w ι' s'.h s'.env tm' w' → Q .normal ⟨tm', ds⟩ w') →
      wpOps F.c.P ops Q (List.range' i l.length) ⟨tm, ds⟩ w
  | [], i, _, ι, tm, w, s, s', st, hq, fr, hK => by cases hq; exact hK ι tm w st (TStep.refl ..)
  | o :: l, i, hl, ι, tm, w, s, s', st, hq, fr, hK => by
    rw [runText1_cons] at hq
    obtain ⟨s1, h1, hq⟩ := Res.bind_ok hq
    have hoi : ops[i]? = some o := by
      rw [← Array.getElem?_toList]
      have : (ops.toList.drop i)[0]? = some o := by rw [hl]; rfl
      simpa using this
    have hl' : ops.toList.drop (i + 1) = l := by
      rw [← List.drop_drop, hl]; rfl
    have hm := runText1_next hC.mono hq
    rw [List.length_cons, List.range'_succ, wpOps_cons]
    refine step_ok ok hC hal hb1 hb2 hoi (hop o (by
      have : o ∈ ops.toList.drop i := by rw [hl]; simp
      exact List.mem_of_mem_drop this)) st h1 (fr.left hm) _ _ _ fun tm' w' hr => ?_
    obtain ⟨ι', st', ts⟩ := hr
    exact text_ok ok hC hal hb1 hb2 hop l (i + 1) hl' ι' tm' w' s1 s' st' hq (ts.fresh fr) fun ι'' tm'' w'' st'' ts' => hK ι'' tm'' w'' st'' (ts.trans ts')

/-! ### before and behind a region -/
theorem St.with {ι : Inj} {h : AHeap} {env : List AVal} {tm : Array Value} {w : World} (st : St F ι loc [] env h tm w) (al : List (Nat × Nat)) : St F ι loc al env h tm w := by
  refine ⟨st.rel, ⟨st.env.size, fun t => ?_, st.env.apart⟩⟩
  have := st.env.slot t
  unfold SlotOk at this ⊢
  split
  · rename_i vs hv; simp only [hv] at this; exact this
  · rename_i off valid hv
    simp only [hv] at this
    obtain ⟨s, hs, _⟩ := this
    cases hs
  · revert this
    cases hx : nth env t <;> simp_all

theorem lookN_none {al : List (Nat × Nat)} {t : Nat} (h : t ∉ al.map (·.1)) : lookN al t = none := by
  cases hc : lookN al t with
  | none => rfl
  | some s => exact absurd (List.mem_map.2 ⟨(t, s), lookN_mem hc, rfl⟩) h

theorem nth_clearAll_mem : ∀ (ns : List Nat) (env : List AVal) (t : Nat), t ∈ ns → nth (clearAll ns env) t = .dead := by
  intro ns env t h
  rcases nth_clearAll ns env t with hh | ⟨_, hh⟩
  · exact hh
  · exact absurd h hh

theorem St.without {ι : Inj} {h : AHeap} {env : List AVal} {tm : Array Value} {w : World} (st : St F ι loc al env h tm w) :
    St F ι loc [] (clearAll (al.map (·.1)) env) h tm w := by
  obtain ⟨e, _⟩ := st.env.clear (al.map (·.1))
  refine ⟨st.rel, ⟨e.size, fun t => ?_, e.apart⟩⟩
  have := e.slot t
  unfold SlotOk at this ⊢
  split
  · rename_i vs hv; simp only [hv] at this; exact this
  · rename_i off valid hv
    simp only [hv] at this
    obtain ⟨s, hs, _⟩ := this
    have hm : t ∈ al.map (·.1) := by
      refine Classical.byContradiction fun hn => ?_
      rw [lookN_none hn] at hs; cases hs
    rw [nth_clearAll_mem _ _ _ hm] at hv; cases hv
  · revert this
    cases hx : nth (clearAll (al.map (·.1)) env) t <;> simp_all

theorem St.clear {ι : Inj} {h : AHeap} {env : List AVal} {tm : Array Value} {w : World} (st : St F ι loc al env h tm w) (ns : List Nat) : St F ι loc al (clearAll ns env) h tm w :=
  ⟨st.rel, (st.env.clear ns).1⟩

theorem TStep.clear {ι ι' : Inj} {h h' : AHeap} {env env' : List AVal} {tm tm' : Array Value} {w w' : World} {loc : List Nat} {al : List (Nat × Nat)} (st : St F ι' loc al env' h' tm' w') (ts : TStep ι h env tm w ι' h' env' tm' w') (ns : List Nat) :
    TStep ι h env tm w ι' h' (clearAll ns env') tm' w' :=
  ⟨ts.sub, ts.dom, ts.next, ts.keep, ts.own, fun b hb => ts.loc b ((st.env.clear ns).2 b hb)⟩


/-! ### what a piece of code leads to -/
def AExit.to : AExit → Exit
  | .normal => .normal
  | .ret => .ret
  | .exit id => .exit id
  | .goto l => .goto l

def After (F : Fix) (ι : Inj) (loc : List Nat) (h : AHeap) (env : List AVal) (tm : Array Value) (w : World) (r : AExit × List AVal × AHeap) : Exit → Act → World → Prop := fun e a w' =>
  e = r.1.to ∧ a.defers = [] ∧ ∃ ι', St F ι' loc [] r.2.1 r.2.2 a.tmps w' ∧ TStep ι h env tm w ι' r.2.2 r.2.1 a.tmps w'

theorem St.drawn {ι : Inj} {h : AHeap} {env : List AVal} {tm : Array Value} {w : World} (st : St F ι loc al env h tm w) (n : Nat) : St F ι loc al env h tm { w with drawn := n } :=
  ⟨st.rel.drawn n, st.env.keep fun _ _ => rfl⟩

theorem regOk_ok {P : Program} {ops : Array Oper} {d : Bool} (h : regOk P loc ops d = true) :
    (∀ o ∈ ops.toList, opOk loc (aliasPairs loc ops.toList []) o = true) ∧ (∀ t s, lookN (aliasPairs loc ops.toList []) t = some s → loc.contains s = true) ∧ (d = true → regionOk P loc ops = true) := by
  unfold regOk at h
  simp only [Bool.and_eq_true, List.all_eq_true] at h
  refine ⟨h.1.1, fun t s hl => h.1.2 (t, s) (lookN_mem hl), fun hd => ?_⟩
  have := h.2
  rw [hd] at this
  simpa using this

theorem region_text {C : CallR} {an : FnAnn} {id : Nat} {ops : Array Oper} {env : List AVal} {h : AHeap} {r : AExit × List AVal × AHeap} (ok : F.Ok) (hC : CallSound F C) (hr : regOk F.c.P an.locals ops false = true)
    (hq : regionK (ansR C (AExit × List AVal × AHeap)) F.c an id ops false env h (fun env h => .ok (.normal, env, h)) = .ok r) :
    h.next ≤ r.2.2.next ∧ ∀ (ι : Inj) (tm : Array Value) (w : World), St F ι an.locals [] env h tm w → Fresh ι h.next r.2.2.next → (Code.region id ops false).wp F.c.P (After F ι an.locals h env tm w r) ⟨tm, []⟩ w := by
  obtain ⟨r1, r2, _⟩ := regOk_ok hr
  unfold regionK at hq
  simp only [runText_eq] at hq
  obtain ⟨s', h1, hq⟩ := Res.bind_ok hq
  cases hq
  refine ⟨runText1_next hC.mono h1, fun ι tm w st fr => ?_⟩
  refine wp_region ?_
  rw [List.range_eq_range', ← Array.length_toList]
  refine text_ok (al := aliasPairs an.locals ops.toList []) ok hC r2 ?_ ?_ r1 ops.toList 0 rfl ι tm w _ s' (st.with _) h1 fr fun ι' tm' w' st' ts => ?_
  · intro t ht; simp at ht ⊢; exact .inr ht
  · intro t s hl
    have : t ∈ (aliasPairs an.locals ops.toList []).map (·.1) := List.mem_map.2 ⟨(t, s), lookN_mem hl, rfl⟩
    simp only [List.contains_iff_mem, List.mem_append]; exact .inl this
  · refine ⟨rfl, rfl, ι', (st'.without).clear _, ?_⟩
    exact TStep.clear st'.without (TStep.clear st' ts _) _

/-- the same of a region whose order is drawn -/
def DrawSound (F : Fix) : Prop := ∀ (C : CallR), CallSound F C → ∀ (an : FnAnn) (id : Nat) (ops : Array Oper) (env : List AVal) (h : AHeap) (r : AExit × List AVal × AHeap), regOk F.c.P an.locals ops true = true →
    regionK (ansR C (AExit × List AVal × AHeap)) F.c an id ops true env h (fun env h => .ok (.normal, env, h)) = .ok r →
    h.next ≤ r.2.2.next ∧ ∀ (ι : Inj) (tm : Array Value) (w : World), St F ι an.locals [] env h tm w → Fresh ι h.next r.2.2.next → (Code.region id ops true).wp F.c.P (After F ι an.locals h env tm w r) ⟨tm, []⟩ w

/-- a loop that is under way -/
def wpX (P : Program) (c : Code) (Q : Exit → Act → World → Prop) (a : Act) (w : World) : Prop :=
  match c with
  | .loop x => ∀ (b : Frame) (k : List Item) (cs : List Frame), ∃ e a' w', Q e a' w' ∧ Arrives P (lone (b.at a (.code x :: .inLoop x :: k)) cs w) b k cs e a' w'
  | c => c.wp P Q a w

theorem wp_of_X {P : Program} {c : Code} {Q : Exit → Act → World → Prop} {a : Act} {w : World} (h : wpX P c Q a w) : c.wp P Q a w := by
  cases c with
  | loop x =>
    intro b k cs
    obtain ⟨e, a', w', h1, h2⟩ := h b k cs
    exact ⟨e, a', w', h1, .of_steps (.one step_loop) h2⟩
  | _ => exact h

/-- a scope that is under way -/
def wpS (P : Program) (body cur : Code) (Q : Exit → Act → World → Prop) (a : Act) (w : World) : Prop :=
  ∀ (b : Frame) (k : List Item) (cs : List Frame), ∃ e a' w', Q e a' w' ∧ Arrives P (lone (b.at a (.code cur :: .inScope body :: k)) cs w) b k cs e a' w'

end
end Go.Proofs.YtofnbldbggddmaaGreatDoor
namespace Go.Proofs.YtofnbldbggddmaaGreatDoor
open Go Go.RowKit

section
variable {C : CallR} {c : Cfg} {loc : List Nat} {al : List (Nat × Nat)} {bad : List Nat} {ops : Array Oper} {bef : Array Nat}

def histOk (bef : Array Nat) (i : Nat) (rd : AHeap → Res AVal) (v : AVal) (l : List (Nat × AHeap)) : Bool := l.all fun p => befB bef p.1 i || sameRes (rd p.2) v
def readsOk (bef : Array Nat) (i : Nat) (h : AHeap) (l : List (Nat × (AHeap → Res AVal) × AVal)) : Bool := l.all fun p => befB bef p.1 i || sameRes (p.2.1 h) p.2.2

theorem chkHist_ok {α : Type} {i : Nat} {rd : AHeap → Res AVal} {v : AVal} {K : Res α} {r : α} : ∀ {l : List (Nat × AHeap)}, chkHist (ansR C α) bef i rd v l K = .ok r → histOk bef i rd v l = true ∧ K = .ok r
  | [], h => ⟨rfl, h⟩
  | (j, g) :: l, h => by
    unfold chkHist at h
    cases hb : befB bef j i with
    | true =>
      rw [hb] at h
      obtain ⟨h1, h2⟩ := chkHist_ok h
      exact ⟨by unfold histOk at h1 ⊢; simp [hb, h1], h2⟩
    | false =>
      rw [hb] at h
      simp only [ansR] at h
      cases hs : sameRes (rd g) v with
      | true =>
        rw [hs] at h
        obtain ⟨h1, h2⟩ := chkHist_ok h
        exact ⟨by unfold histOk at h1 ⊢; simp [hb, hs, h1], h2⟩
      | false => rw [hs] at h; cases h

theorem chkReads_ok {α : Type} {i : Nat} {g : AHeap} {K : Res α} {r : α} : ∀ {l : List (Nat × (AHeap → Res AVal) × AVal)}, chkReads (ansR C α) bef i g l K = .ok r → readsOk bef i g l = true ∧ K = .ok r
  | [], h => ⟨rfl, h⟩
  | (j, rd, v) :: l, h => by
    unfold chkReads at h
    cases hb : befB bef j i with
    | true =>
      rw [hb] at h
      obtain ⟨h1, h2⟩ := chkReads_ok h
      exact ⟨by unfold readsOk at h1 ⊢; simp [hb, h1], h2⟩
    | false =>
      rw [hb] at h
      simp only [ansR] at h
      cases hs : sameRes (rd g) v with
      | true =>
        rw [hs] at h
        obtain ⟨h1, h2⟩ := chkReads_ok h
        exact ⟨by unfold readsOk at h1 ⊢; simp [hb, hs, h1], h2⟩
      | false => rw [hs] at h; cases h

theorem sameRes_ok {r : Res AVal} {v : AVal} (h : sameRes r v = true) : r = .ok v := by
  unfold sameRes at h
  split at h
  · rw [AVal.beq_eq _ _ h]
  · cases h

/-- what one step of the run in the text's order does -/
def SD (C : CallR) (c : Cfg) (loc : List Nat) (al : List (Nat × Nat)) (bad : List Nat) (ops : Array Oper) (bef : Array Nat) (i : Nat) (o : Oper) (s s' : RS) : Prop :=
  match kindOf c.P loc al o with
  | .read => ∃ v, readAt c bad ops s.env o s.base = .ok v ∧ histOk bef i (readAt c bad ops s.env o) v s.hist = true ∧ s' = { s with env := putD s.env o v, reads := (i, readAt c bad ops s.env o, v) :: s.reads }
  | .imp => ∃ p, stepP C c loc al bad ops o s.env s.h = .ok p ∧ readsOk bef i p.2 s.reads = true ∧ s' = { s with env := p.1, h := p.2, hist := (i, s.base) :: s.hist, base := p.2 }
  | .pure => ∃ p, stepP C c loc al bad ops o s.env s.h = .ok p ∧ s' = { s with env := p.1, h := p.2 }
  | .alloc => o.guard = none ∧ ∃ p, stepP C c loc al bad ops o s.env s.h = .ok p ∧ s' = { s with env := p.1, h := p.2 }

theorem stepD_ok {α : Type} {i : Nat} {o : Oper} {s : RS} {K : RS → Res α} {r : α} (h : stepD (ansR C α) c loc al bad ops bef i o s K = .ok r) : ∃ s', SD C c loc al bad ops bef i o s s' ∧ K s' = .ok r := by
  unfold stepD at h
  unfold SD
  cases hk : kindOf c.P loc al o with
  | read =>
    rw [hk] at h
    simp only at h ⊢
    obtain ⟨v, h1, h2⟩ := Res.bind_ok h
    obtain ⟨h3, h4⟩ := chkHist_ok h2
    exact ⟨_, ⟨v, h1, h3, rfl⟩, h4⟩
  | imp =>
    rw [hk] at h
    simp only at h ⊢
    rw [stepK_eq, step1_P, Res.bind_assoc] at h
    obtain ⟨p, h1, h2⟩ := Res.bind_ok h
    simp only [Res.ok_bind] at h2
    obtain ⟨h3, h4⟩ := chkReads_ok h2
    exact ⟨_, ⟨p, h1, h3, rfl⟩, h4⟩
  | pure =>
    rw [hk] at h
    simp only at h ⊢
    rw [stepK_eq, step1_P, Res.bind_assoc] at h
    obtain ⟨p, h1, h2⟩ := Res.bind_ok h
    exact ⟨_, ⟨p, h1, rfl⟩, h2⟩
  | alloc =>
    rw [hk] at h
    simp only at h ⊢
    cases hg : o.guard with
    | some g => rw [hg] at h; cases h
    | none =>
      rw [hg] at h
      simp only at h
      rw [stepK_eq, step1_P, Res.bind_assoc] at h
      obtain ⟨p, h1, h2⟩ := Res.bind_ok h
      exact ⟨_, ⟨rfl, p, h1, rfl⟩, h2⟩

theorem runDraw_trace {α : Type} {K : RS → Res α} {r : α} : ∀ (l : List Oper) (i : Nat) (s : RS), ops.toList.drop i = l → i ≤ ops.size → runDraw (ansR C α) c loc al bad ops bef i l s K = .ok r →
    ∃ T : Nat → RS, T i = s ∧ (∀ j, i ≤ j → j < ops.size → ∃ o, ops[j]? = some o ∧ SD C c loc al bad ops bef j o (T j) (T (j + 1))) ∧ K (T ops.size) = .ok r
  | [], i, s, hl, hi, hq => by
    have : i = ops.size := by
      have h1 : (ops.toList.drop i).length = 0 := by rw [hl]; rfl
      simp at h1; omega
    subst this
    exact ⟨fun _ => s, rfl, fun j h1 h2 => by omega, hq⟩
  | o :: l, i, s, hl, hi, hq => by
    unfold runDraw at hq
    obtain ⟨s', h1, h2⟩ := stepD_ok hq
    have hlt : i < ops.size := by
      have h1 : (ops.toList.drop i).length = l.length + 1 := by rw [hl]; rfl
      simp at h1; omega
    have hoi : ops[i]? = some o := by
      rw [← Array.getElem?_toList]
      have : (ops.toList.drop i)[0]? = some o := by rw [hl]; rfl
      simpa using this
    have hl' : ops.toList.drop (i + 1) = l := by
      rw [← List.drop_drop, hl]; rfl
    obtain ⟨T, t1, t2, t3⟩ := runDraw_trace l (i + 1) s' hl' hlt h2
    refine ⟨fun j => if j ≤ i then s else T j, by simp, fun j h3 h4 => ?_, ?_⟩
    · by_cases hj : j = i
      · subst hj
        refine ⟨o, hoi, ?_⟩
        have e1 : ¬ j + 1 ≤ j := by omega
        simp only [Nat.le_refl, if_true, e1, if_false, t1]; exact h1
      · obtain ⟨o', h5, h6⟩ := t2 j (by omega) h4
        refine ⟨o', h5, ?_⟩
        have e1 : ¬ j ≤ i := by omega
        have e2 : ¬ j + 1 ≤ i := by omega
        simp only [e1, e2, if_false]; exact h6
    · have e1 : ¬ ops.size ≤ i := by omega
      simp only [e1, if_false]; exact t3

/-! ### what is known of the run -/
structure Trace (C : CallR) (c : Cfg) (loc : List Nat) (al : List (Nat × Nat)) (bad : List Nat) (ops : Array Oper) (bef : Array Nat) (en : Nat → List AVal) (hs ba : Nat → AHeap) : Prop where
  ba0 : ba 0 = hs 0
  next : ∀ j, j < ops.size → (hs j).next ≤ (hs (j + 1)).next
  frame : ∀ j o, ops[j]? = some o → Like (writesOf loc al o) (en j) (en (j + 1)) (en (j + 1))
  ba_eq : ∀ j o, ops[j]? = some o → kindOf c.P loc al o ≠ .imp → ba (j + 1) = ba j
  pu : ∀ j o, ops[j]? = some o → kindOf c.P loc al o = .pure → hs (j + 1) = hs j ∧ ∀ g, stepP C c loc al bad ops o (en j) g = .ok (en (j + 1), g)
  al_ : ∀ j o, ops[j]? = some o → kindOf c.P loc al o = .alloc → ∃ x, hs (j + 1) = (hs j).push x ∧ ∀ g : AHeap, g.next = (hs j).next → stepP C c loc al bad ops o (en j) g = .ok (en (j + 1), g.push x)
  imp : ∀ j o, ops[j]? = some o → kindOf c.P loc al o = .imp → stepP C c loc al bad ops o (en j) (hs j) = .ok (en (j + 1), hs (j + 1)) ∧ ba (j + 1) = hs (j + 1)
  rd : ∀ j o, ops[j]? = some o → kindOf c.P loc al o = .read → hs (j + 1) = hs j ∧ ∀ p, p ≤ ops.size →
    (∀ k o', k < p → ops[k]? = some o' → kindOf c.P loc al o' = .imp → befB bef j k = false) →
    (∀ k o', p ≤ k → k < j → ops[k]? = some o' → kindOf c.P loc al o' = .imp → befB bef k j = false) →
    stepP C c loc al bad ops o (en j) (ba p) = .ok (en (j + 1), ba p)


theorem stepP_next (hC : Mono C) {o : Oper} {env : List AVal} {h : AHeap} {p : List AVal × AHeap} (hq : stepP C c loc al bad ops o env h = .ok p) : h.next ≤ p.2.next := by
  unfold stepP at hq
  obtain ⟨s, h1, h2⟩ := Res.bind_ok hq
  cases h2
  exact step1_next hC h1

theorem trace_of (hC : Mono C) (T : Nat → RS) (hT : ∀ j, j < ops.size → ∃ o, ops[j]? = some o ∧ SD C c loc al bad ops bef j o (T j) (T (j + 1))) (h0 : (T 0).base = (T 0).h) :
    Trace C c loc al bad ops bef (fun j => (T j).env) (fun j => (T j).h) (fun j => (T j).base) := by
  have hS : ∀ j o, ops[j]? = some o → SD C c loc al bad ops bef j o (T j) (T (j + 1)) := by
    intro j o ho
    obtain ⟨o', h1, h2⟩ := hT j (Array.getElem?_eq_some_iff.1 ho).1
    rw [ho] at h1; cases h1; exact h2
  have hlt : ∀ {j o}, ops[j]? = some o → j < ops.size := fun ho => (Array.getElem?_eq_some_iff.1 ho).1
  have hbase : ∀ j o, ops[j]? = some o → kindOf c.P loc al o ≠ .imp → (T (j + 1)).base = (T j).base := by
    intro j o ho hk
    have := hS j o ho
    unfold SD at this
    cases hkk : kindOf c.P loc al o <;> rw [hkk] at this <;> simp only at this
    · obtain ⟨p, _, h2⟩ := this; rw [h2]
    · obtain ⟨v, _, _, h2⟩ := this; rw [h2]
    · obtain ⟨_, p, _, h2⟩ := this; rw [h2]
    · exact absurd hkk hk
  have hhist : ∀ b, b ≤ ops.size → ∀ k o, k < b → ops[k]? = some o → kindOf c.P loc al o = .imp → (k, (T k).base) ∈ (T b).hist := by
    intro b
    induction b with
    | zero => intro _ k o hk; omega
    | succ b ih =>
      intro hb k o hk ho hkk
      obtain ⟨ob, hob, hsd⟩ := hT b (by omega)
      unfold SD at hsd
      by_cases hkb : k = b
      · subst hkb
        rw [ho] at hob; cases hob
        rw [hkk] at hsd
        obtain ⟨p, _, _, h2⟩ := hsd
        rw [h2]; simp
      · have := ih (by omega) k o (by omega) ho hkk
        cases hkk' : kindOf c.P loc al ob <;> rw [hkk'] at hsd <;> simp only at hsd
        · obtain ⟨p, _, h2⟩ := hsd; rw [h2]; exact this
        · obtain ⟨v, _, _, h2⟩ := hsd; rw [h2]; exact this
        · obtain ⟨_, p, _, h2⟩ := hsd; rw [h2]; exact this
        · obtain ⟨p, _, _, h2⟩ := hsd; rw [h2]; exact List.mem_cons_of_mem _ this
  have hread : ∀ j o v, ops[j]? = some o → kindOf c.P loc al o = .read → readAt c bad ops (T j).env o (T j).base = .ok v → ∀ b, j < b → b ≤ ops.size → (j, readAt c bad ops (T j).env o, v) ∈ (T b).reads := by
    intro j o v ho hk hv b
    induction b with
    | zero => intro h; omega
    | succ b ih =>
      intro hjb hb
      obtain ⟨ob, hob, hsd⟩ := hT b (by omega)
      unfold SD at hsd
      by_cases hjb' : j = b
      · subst hjb'
        rw [ho] at hob; cases hob
        rw [hk] at hsd
        obtain ⟨v', h1, _, h2⟩ := hsd
        rw [hv] at h1; cases h1
        rw [h2]; simp
      · have := ih (by omega) (by omega)
        cases hkk' : kindOf c.P loc al ob <;> rw [hkk'] at hsd <;> simp only at hsd
        · obtain ⟨p, _, h2⟩ := hsd; rw [h2]; exact this
        · obtain ⟨v, _, _, h2⟩ := hsd; rw [h2]; exact List.mem_cons_of_mem _ this
        · obtain ⟨_, p, _, h2⟩ := hsd; rw [h2]; exact this
        · obtain ⟨p, _, _, h2⟩ := hsd; rw [h2]; exact this
  refine ⟨h0, ?_, ?_, hbase, ?_, ?_, ?_, ?_⟩
  · intro j hj
    obtain ⟨o, ho, hsd⟩ := hT j hj
    unfold SD at hsd
    cases hkk : kindOf c.P loc al o <;> rw [hkk] at hsd <;> simp only at hsd
    · obtain ⟨p, h1, h2⟩ := hsd; rw [h2]; exact stepP_next hC h1
    · obtain ⟨v, _, _, h2⟩ := hsd; rw [h2]; exact Nat.le_refl _
    · obtain ⟨_, p, h1, h2⟩ := hsd; rw [h2]; exact stepP_next hC h1
    · obtain ⟨p, h1, _, h2⟩ := hsd; rw [h2]; exact stepP_next hC h1
  · intro j o ho
    have hsd := hS j o ho
    unfold SD at hsd
    cases hkk : kindOf c.P loc al o <;> rw [hkk] at hsd <;> simp only at hsd
    · obtain ⟨p, h1, h2⟩ := hsd; rw [h2]; exact stepP_frame h1
    · obtain ⟨v, h1, _, h2⟩ := hsd; rw [h2]; exact stepP_frame (stepP_read (C := C) hkk h1)
    · obtain ⟨_, p, h1, h2⟩ := hsd; rw [h2]; exact stepP_frame h1
    · obtain ⟨p, h1, _, h2⟩ := hsd; rw [h2]; exact stepP_frame h1
  · intro j o ho hk
    have hsd := hS j o ho
    unfold SD at hsd
    rw [hk] at hsd
    obtain ⟨p, h1, h2⟩ := hsd
    obtain ⟨h3, h4⟩ := stepP_pure hk h1
    rw [h2]
    exact ⟨h3, h4⟩
  · intro j o ho hk
    have hsd := hS j o ho
    unfold SD at hsd
    rw [hk] at hsd
    obtain ⟨hg, p, h1, h2⟩ := hsd
    obtain ⟨x, h3, h4⟩ := stepP_alloc hk hg h1
    rw [h2]
    exact ⟨x, h3, h4⟩
  · intro j o ho hk
    have hsd := hS j o ho
    unfold SD at hsd
    rw [hk] at hsd
    obtain ⟨p, h1, _, h2⟩ := hsd
    rw [h2]
    exact ⟨h1, rfl⟩
  · intro j o ho hk
    have hsd := hS j o ho
    unfold SD at hsd
    rw [hk] at hsd
    obtain ⟨v, h1, hh, h2⟩ := hsd
    refine ⟨by rw [h2], fun p hp ha hb => ?_⟩
    have key : readAt c bad ops (T j).env o (T p).base = .ok v := by
      rcases Nat.le_total p j with hpj | hpj
      · -- an earlier base
        have go : ∀ m p, p + m = j → (∀ k o', p ≤ k → k < j → ops[k]? = some o' → kindOf c.P loc al o' = .imp → befB bef k j = false) → readAt c bad ops (T j).env o (T p).base = .ok v := by
          intro m
          induction m with
          | zero => intro p hpm _; have : p = j := by omega
                    subst this; exact h1
          | succ m ih =>
            intro p hpm hb
            have hpl : p < ops.size := by have := hlt ho; omega
            obtain ⟨op, hop, _⟩ := hT p hpl
            by_cases hki : kindOf c.P loc al op = .imp
            · have hm := hhist j (by have := hlt ho; omega) p op (by omega) hop hki
              have hf := hb p op (Nat.le_refl _) (by omega) hop hki
              unfold histOk at hh
              have := List.all_eq_true.1 hh _ hm
              simp only [hf, Bool.false_or] at this
              exact sameRes_ok this
            · rw [← hbase p op hop hki]
              exact ih (p + 1) (by omega) fun k o' hk1 => hb k o' (by omega)
        exact go (j - p) p (by omega) hb
      · have go : ∀ m, j + m ≤ ops.size → (∀ k o', k < j + m → ops[k]? = some o' → kindOf c.P loc al o' = .imp → befB bef j k = false) → readAt c bad ops (T j).env o (T (j + m)).base = .ok v := by
          intro m
          induction m with
          | zero => intro _ _; exact h1
          | succ m ih =>
            intro hm ha
            obtain ⟨op, hop, hsd⟩ := hT (j + m) (by omega)
            by_cases hki : kindOf c.P loc al op = .imp
            · have hne : j < j + m := by
                rcases Nat.eq_or_lt_of_le (Nat.le_add_right j m) with he | he
                · rw [← he, ho] at hop; cases hop; rw [hk] at hki; cases hki
                · exact he
              have hmem := hread j o v ho hk h1 (j + m) hne (by omega)
              unfold SD at hsd
              rw [hki] at hsd
              obtain ⟨q, q1, q2, q3⟩ := hsd
              have hf := ha (j + m) op (by omega) hop hki
              unfold readsOk at q2
              have := List.all_eq_true.1 q2 _ hmem
              simp only [hf, Bool.false_or] at this
              have hb' : (T (j + (m + 1))).base = q.2 := by rw [← Nat.add_assoc, q3]
              rw [hb']
              exact sameRes_ok this
            · have : (T (j + (m + 1))).base = (T (j + m)).base := hbase (j + m) op hop hki
              rw [this]
              exact ih (by omega) fun k o' hk1 => ha k o' (by omega)
        have := go (p - j) (by omega) (fun k o' hk1 => ha k o' (by omega))
        rwa [show j + (p - j) = p by omega] at this
    have := stepP_read (C := C) hk key
    rw [h2]
    exact this

end
end Go.Proofs.YtofnbldbggddmaaGreatDoor
namespace Go.Proofs.YtofnbldbggddmaaGreatDoor
open Go Go.RowKit

/-! ### what comes before -/
def bv (B : Array Nat) (o : Oper) : Nat := o.after.foldl (fun s e => if Region.binds .any e then s ||| 2 ^ e.on ||| B.getD e.on 0 else s) 0

theorem bv_bits (B : Array Nat) (k : Nat) : ∀ (l : List Edge) (s : Nat), (l.foldl (fun s e => if Region.binds .any e then s ||| 2 ^ e.on ||| B.getD e.on 0 else s) s).testBit k = true →
    s.testBit k = true ∨ ∃ e ∈ l, Region.binds .any e = true ∧ (e.on = k ∨ (B.getD e.on 0).testBit k = true)
  | [], s, h => .inl h
  | e :: l, s, h => by
    simp only [List.foldl_cons] at h
    rcases bv_bits B k l _ h with h1 | ⟨e', h2, h3⟩
    · split at h1
      · rename_i hb
        simp only [Nat.testBit_or, Bool.or_eq_true, Nat.testBit_two_pow] at h1
        rcases h1 with (h1 | h1) | h1
        · exact .inl h1
        · exact .inr ⟨e, by simp, hb, .inl (by simpa using h1)⟩
        · exact .inr ⟨e, by simp, hb, .inr h1⟩
      · exact .inl h1
    · exact .inr ⟨e', by simp [h2], h3⟩

theorem before_fold : ∀ (l : List Oper) (acc : Array Nat),
    (∀ j, j < acc.size → (l.foldl (fun acc o => acc.push (bv acc o)) acc)[j]? = acc[j]?) ∧
    ∀ m o, l[m]? = some o → ∃ B : Array Nat, B.size = acc.size + m ∧ (∀ j, j < B.size → (l.foldl (fun acc o => acc.push (bv acc o)) acc)[j]? = B[j]?) ∧ (l.foldl (fun acc o => acc.push (bv acc o)) acc)[acc.size + m]? = some (bv B o)
  | [], acc => ⟨fun _ _ => rfl, fun m o h => by simp at h⟩
  | o :: l, acc => by
    obtain ⟨h1, h2⟩ := before_fold l (acc.push (bv acc o))
    have hpre : ∀ j, j < acc.size → ((o :: l).foldl (fun acc o => acc.push (bv acc o)) acc)[j]? = acc[j]? := by
      intro j hj
      rw [List.foldl_cons, h1 j (by simp; omega)]
      simp [Array.getElem?_push, Nat.ne_of_lt hj]
    refine ⟨hpre, fun m o' hm => ?_⟩
    cases m with
    | zero =>
      simp at hm; subst hm
      refine ⟨acc, rfl, hpre, ?_⟩
      rw [List.foldl_cons, Nat.add_zero, h1 acc.size (by simp)]
      simp
    | succ m =>
      simp at hm
      obtain ⟨B, b1, b2, b3⟩ := h2 m o' hm
      simp only [Array.size_push] at b1 b3
      refine ⟨B, by omega, b2, ?_⟩
      rw [List.foldl_cons, show acc.size + (m + 1) = acc.size + 1 + m by omega]
      exact b3

theorem before_spec {ops : Array Oper} {i k : Nat} {o : Oper} (ho : ops[i]? = some o) (hR : ∀ e ∈ o.after.toList, Region.binds .any e = true → e.on < i) (hb : befB (Region.before ops) k i = true) :
    ∃ e ∈ o.after.toList, Region.binds .any e = true ∧ (e.on = k ∨ befB (Region.before ops) k e.on = true) := by
  have heq : Region.before ops = ops.toList.foldl (fun acc o => acc.push (bv acc o)) #[] := by
    unfold Region.before; rw [← Array.foldl_toList]; rfl
  obtain ⟨_, h2⟩ := before_fold ops.toList #[]
  obtain ⟨B, b1, b2, b3⟩ := h2 i o (by simpa using ho)
  simp only [List.size_toArray, List.length_nil, Nat.zero_add] at b1 b3
  rw [← heq] at b2 b3
  unfold befB at hb
  rw [Array.getD_eq_getD_getElem?, b3] at hb
  simp only [Option.getD_some] at hb
  unfold bv at hb
  rw [← Array.foldl_toList] at hb
  rcases bv_bits B k _ _ hb with h | ⟨e, e1, e2, e3⟩
  · simp at h
  · refine ⟨e, e1, e2, e3.imp id fun h => ?_⟩
    have hlt := hR e e1 e2
    unfold befB
    rw [Array.getD_eq_getD_getElem?, b2 e.on (by omega), ← Array.getD_eq_getD_getElem?]
    exact h

theorem before_closed {ops : Array Oper} {D : Nat → Prop} (hR : ∀ i o, ops[i]? = some o → ∀ e ∈ o.after.toList, Region.binds .any e = true → e.on < i)
    (hD : ∀ i o, D i → ops[i]? = some o → ∀ e ∈ o.after.toList, Region.binds .any e = true → D e.on) :
    ∀ (i : Nat) (o : Oper), ops[i]? = some o → (∀ e ∈ o.after.toList, Region.binds .any e = true → D e.on) → ∀ k, befB (Region.before ops) k i = true → D k := by
  intro i
  induction i using Nat.strongRecOn with
  | _ i ih =>
    intro o ho he k hk
    obtain ⟨e, e1, e2, e3⟩ := before_spec ho (hR i o ho) hk
    rcases e3 with e3 | e3
    · rw [← e3]; exact he e e1 e2
    · have hlt := hR i o ho e e1 e2
      have hsz : e.on < ops.size := by have := (Array.getElem?_eq_some_iff.1 ho).1; omega
      have ho' : ops[e.on]? = some ops[e.on] := by simp [hsz]
      exact ih e.on hlt _ ho' (hD e.on _ (he e e1 e2) ho') k e3

/-! ### what is so on the way -/
section
variable {F : Fix} {C : CallR} {loc : List Nat} {al : List (Nat × Nat)} {bad : List Nat} {ops : Array Oper} {bef : Array Nat} {en : Nat → List AVal} {hs ba : Nat → AHeap}

/-- the slots, where some operations are done -/
def EAt (loc : List Nat) (al : List (Nat × Nat)) (ops : Array Oper) (en : Nat → List AVal) (D : Nat → Prop) (E : List AVal) : Prop :=
  ∀ t, (∃ k o, D k ∧ ops[k]? = some o ∧ t ∈ writesOf loc al o ∧ (∀ j o', D j → ops[j]? = some o' → t ∈ writesOf loc al o' → j ≤ k) ∧ nth E t = nth (en (k + 1)) t) ∨
    ((∀ j o', D j → ops[j]? = some o' → t ∉ writesOf loc al o') ∧ nth E t = nth (en 0) t)

theorem EAt.step {D : Nat → Prop} {E E' : List AVal} {i : Nat} {o : Oper} (h : EAt loc al ops en D E) (hl : Like (writesOf loc al o) E E' (en (i + 1))) (ho : ops[i]? = some o)
    (hww : ∀ j o' t, D j → ops[j]? = some o' → t ∈ writesOf loc al o → t ∈ writesOf loc al o' → j < i) : EAt loc al ops en (fun k => D k ∨ k = i) E' := by
  intro t
  have ht := hl.2 t
  by_cases hm : t ∈ writesOf loc al o
  · rw [if_pos hm] at ht
    refine .inl ⟨i, o, .inr rfl, ho, hm, fun j o' hj ho' ht' => ?_, ht⟩
    rcases hj with hj | hj
    · exact Nat.le_of_lt (hww j o' t hj ho' hm ht')
    · exact Nat.le_of_eq hj
  · rw [if_neg hm] at ht
    have hi : ∀ j o', j = i → ops[j]? = some o' → t ∉ writesOf loc al o' := by
      rintro j o' rfl ho'
      rw [ho] at ho'; cases ho'; exact hm
    rcases h t with ⟨k, ok, h1, h2, h3, h4, h5⟩ | ⟨h1, h2⟩
    · refine .inl ⟨k, ok, .inl h1, h2, h3, fun j o' hj ho' ht' => ?_, by rw [ht, h5]⟩
      rcases hj with hj | hj
      · exact h4 j o' hj ho' ht'
      · exact absurd ht' (hi j o' hj ho')
    · refine .inr ⟨fun j o' hj ho' => ?_, by rw [ht, h2]⟩
      rcases hj with hj | hj
      · exact h1 j o' hj ho'
      · exact hi j o' hj ho'

theorem frame_run (tr : Trace C F.c loc al bad ops bef en hs ba) {t : Nat} : ∀ (m a : Nat), a + m ≤ ops.size → (∀ j o', a ≤ j → j < a + m → ops[j]? = some o' → t ∉ writesOf loc al o') → nth (en (a + m)) t = nth (en a) t
  | 0, a, _, _ => rfl
  | m + 1, a, ha, h => by
    have hlt : a + m < ops.size := by omega
    have ho : ops[a + m]? = some ops[a + m] := by simp [hlt]
    have hf := (tr.frame (a + m) _ ho).2 t
    rw [if_neg (h (a + m) _ (by omega) (by omega) ho)] at hf
    rw [← Nat.add_assoc, hf]
    exact frame_run tr m a (by omega) fun j o' h1 h2 => h j o' h1 (by omega)

theorem EAt.names (tr : Trace C F.c loc al bad ops bef en hs ba) {D : Nat → Prop} {E : List AVal} {i t : Nat} (h : EAt loc al ops en D E) (hi : i ≤ ops.size)
    (h1 : ∀ k o', k < i → ops[k]? = some o' → t ∈ writesOf loc al o' → D k) (h2 : ∀ j o', D j → ops[j]? = some o' → t ∈ writesOf loc al o' → j < i) : nth E t = nth (en i) t := by
  rcases h t with ⟨k, ok, a1, a2, a3, a4, a5⟩ | ⟨a1, a2⟩
  · have hk := h2 k ok a1 a2 a3
    have := frame_run tr (t := t) (i - (k + 1)) (k + 1) (by omega) fun j o' b1 b2 b3 b4 => by
      have := a4 j o' (h1 j o' (by omega) b3 b4) b3 b4
      omega
    rw [show k + 1 + (i - (k + 1)) = i by omega] at this
    rw [a5, this]
  · have := frame_run tr (t := t) i 0 (by omega) fun j o' b1 b2 b3 b4 => a1 j o' (h1 j o' (by omega) b3 b4) b3 b4
    rw [Nat.zero_add] at this
    rw [a2, this]

theorem next_run (tr : Trace C F.c loc al bad ops bef en hs ba) : ∀ (m a : Nat), a + m ≤ ops.size → (hs a).next ≤ (hs (a + m)).next
  | 0, a, _ => Nat.le_refl _
  | m + 1, a, ha => Nat.le_trans (next_run tr m a (by omega)) (tr.next (a + m) (by omega))

theorem next_le (tr : Trace C F.c loc al bad ops bef en hs ba) {a b : Nat} (hab : a ≤ b) (hb : b ≤ ops.size) : (hs a).next ≤ (hs b).next := by
  have := next_run tr (b - a) a (by omega)
  rwa [show a + (b - a) = b by omega] at this

theorem len_run (tr : Trace C F.c loc al bad ops bef en hs ba) : ∀ (m : Nat), m ≤ ops.size → (en m).length = (en 0).length
  | 0, _ => rfl
  | m + 1, hm => by
    have hlt : m < ops.size := by omega
    have ho : ops[m]? = some ops[m] := by simp [hlt]
    rw [(tr.frame m _ ho).1, len_run tr m (by omega)]

/-- what stands in the heap of the text's run -/
theorem hs_get (tr : Trace C F.c loc al bad ops bef en hs ba) {p o : Nat} {x : AObj} : ∀ (m : Nat), p + m ≤ ops.size → (∀ k op, p ≤ k → k < p + m → ops[k]? = some op → kindOf F.c.P loc al op ≠ .imp) → (hs (p + m)).get o = some x →
    (hs p).get o = some x ∨ ∃ k op, p ≤ k ∧ k < p + m ∧ ops[k]? = some op ∧ kindOf F.c.P loc al op = .alloc ∧ o = (hs k).next ∧ hs (k + 1) = (hs k).push x
  | 0, _, _, h => .inl h
  | m + 1, hm, hi, h => by
    have hlt : p + m < ops.size := by omega
    have ho : ops[p + m]? = some ops[p + m] := by simp [hlt]
    have ih := fun h => hs_get tr m (by omega) (fun k op h1 h2 => hi k op h1 (by omega)) (o := o) (x := x) h
    have up : ((hs p).get o = some x ∨ ∃ k op, p ≤ k ∧ k < p + m ∧ ops[k]? = some op ∧ kindOf F.c.P loc al op = .alloc ∧ o = (hs k).next ∧ hs (k + 1) = (hs k).push x) →
        ((hs p).get o = some x ∨ ∃ k op, p ≤ k ∧ k < p + (m + 1) ∧ ops[k]? = some op ∧ kindOf F.c.P loc al op = .alloc ∧ o = (hs k).next ∧ hs (k + 1) = (hs k).push x) := by
      rintro (h | ⟨k, op, h1, h2, h3⟩)
      · exact .inl h
      · exact .inr ⟨k, op, h1, by omega, h3⟩
    rw [← Nat.add_assoc] at h
    cases hk : kindOf F.c.P loc al ops[p + m] with
    | pure => rw [(tr.pu _ _ ho hk).1] at h; exact up (ih h)
    | read => rw [(tr.rd _ _ ho hk).1] at h; exact up (ih h)
    | imp => exact absurd hk (hi _ _ (by omega) (by omega) ho)
    | alloc =>
      obtain ⟨y, y1, _⟩ := tr.al_ _ _ ho hk
      rw [y1, AHeap.get_push] at h
      split at h
      · rename_i he
        cases h
        exact .inr ⟨p + m, _, by omega, by omega, ho, hk, he, y1⟩
      · exact up (ih h)

end
end Go.Proofs.YtofnbldbggddmaaGreatDoor
namespace Go.Proofs.YtofnbldbggddmaaGreatDoor
open Go Go.RowKit

section
variable {F : Fix} {C : CallR} {loc : List Nat} {al : List (Nat × Nat)} {bad : List Nat} {ops : Array Oper} {bef : Array Nat} {en : Nat → List AVal} {hs ba : Nat → AHeap}

structure DI (F : Fix) (loc : List Nat) (al : List (Nat × Nat)) (ops : Array Oper) (en : Nat → List AVal) (hs ba : Nat → AHeap) (ι0 : Inj) (tm0 : Array Value) (w0 : World)
    (D : Nat → Prop) (ι : Inj) (tm : Array Value) (w : World) (E : List AVal) (p : Nat) : Prop where
  ple : p ≤ ops.size
  pimp : ∀ k op, ops[k]? = some op → kindOf F.c.P loc al op = .imp → (k < p ↔ D k)
  pal : ∀ k op, k < p → ops[k]? = some op → kindOf F.c.P loc al op = .alloc → D k
  php : hs p = ba p
  elen : E.length = (en 0).length
  eat : EAt loc al ops en D E
  st : St F ι loc al E (ba p) tm w
  sub : Sub ι0 ι
  dom : ∀ o : Nat, ι o = none ∨ ι0 o = ι o ∨ ((hs 0).next ≤ o ∧ o < (hs ops.size).next)
  fresh : ∀ o, (ba p).next ≤ o → o < (hs ops.size).next → ι o = none ∨ ∃ k op, D k ∧ p ≤ k ∧ ops[k]? = some op ∧ kindOf F.c.P loc al op = .alloc ∧ o = (hs k).next
  keep : Keep (fun b => Own ι0 (hs 0) b ∨ LocB (en 0) tm0 b) w0 w
  own : ∀ b, Own ι (ba p) b → Own ι0 (hs 0) b ∨ w0.heap.size ≤ b
  lc : ∀ b, LocB E tm b → LocB (en 0) tm0 b ∨ w0.heap.size ≤ b
  pend : ∀ k op x, D k → p ≤ k → ops[k]? = some op → kindOf F.c.P loc al op = .alloc → hs (k + 1) = (hs k).push x →
    ∃ e, ι (hs k).next = some e ∧ F.N ≤ e.blk ∧ ObjRel ι F.ρ w e x ∧ ¬ Own ι (ba p) e.blk ∧ ¬ LocB E tm e.blk ∧ w0.heap.size ≤ e.blk
  pinj : ∀ k k' op op' e e', D k → p ≤ k → ops[k]? = some op → kindOf F.c.P loc al op = .alloc → D k' → p ≤ k' → ops[k']? = some op' → kindOf F.c.P loc al op' = .alloc →
    ι (hs k).next = some e → ι (hs k').next = some e' → e.blk = e'.blk → k = k'

theorem EnvOk.heap {ι : Inj} {h h' : AHeap} {env : List AVal} {tm : Array Value} {w : World} (e : EnvOk F ι h loc al env tm w) (hb : ∀ b, LocB env tm b → ¬ Own ι h' b) : EnvOk F ι h' loc al env tm w := by
  refine ⟨e.size, fun t => ?_, e.apart⟩
  have := e.slot t
  unfold SlotOk at this ⊢
  split
  · rename_i vs hv
    simp only [hv] at this
    obtain ⟨h1, b, c, T, h2, h3, h4, h5⟩ := this
    exact ⟨h1, b, c, T, h2, h3, hb b ⟨t, vs, hv, h2⟩, h5⟩
  · rename_i off valid hv
    simp only [hv] at this
    exact this
  · revert this
    cases hx : nth env t <;> simp_all

theorem EnvOk.notOwn {ι : Inj} {h : AHeap} {env : List AVal} {tm : Array Value} {w : World} (e : EnvOk F ι h loc al env tm w) : ∀ b, LocB env tm b → ¬ Own ι h b := by
  rintro b ⟨t, vs, h1, h2⟩
  have := e.slot t
  unfold SlotOk at this
  simp only [h1] at this
  obtain ⟨_, b', c, T, h3, _, h4, _⟩ := this
  rw [h2] at h3; cases h3
  exact h4

/-- a smaller heap -/
theorem Rel.less {ι : Inj} {h h' : AHeap} {w : World} (r : Rel F ι h w) (hg : ∀ o x, h'.get o = some x → h.get o = some x) (hl : ∀ o x, h'.get o = some x → o < h'.next) : Rel F ι h' w :=
  ⟨r.below, fun o x hx => r.obj o x (hg o x hx), fun o o' x x' e e' h1 h2 => r.inj o o' x x' e e' (hg _ _ h1) (hg _ _ h2), hl⟩

theorem Own.less {ι : Inj} {h h' : AHeap} (hg : ∀ o x, h'.get o = some x → h.get o = some x) {b : Nat} (ho : Own ι h' b) : Own ι h b := by
  obtain ⟨o, x, e, h1, h2, h3⟩ := ho
  exact ⟨o, x, e, hg o x h1, h2, h3⟩

theorem St.less {ι : Inj} {h h' : AHeap} {env : List AVal} {tm : Array Value} {w : World} (st : St F ι loc al env h tm w) (hg : ∀ o x, h'.get o = some x → h.get o = some x) (hl : ∀ o x, h'.get o = some x → o < h'.next) : St F ι loc al env h' tm w :=
  ⟨st.rel.less hg hl, st.env.heap fun b hb ho => st.env.notOwn b hb (Own.less hg ho)⟩

variable {ι0 ι : Inj} {tm0 tm : Array Value} {w0 w : World} {D : Nat → Prop} {E : List AVal} {p : Nat}

/-- the heap of the text's run, at a place ahead of which all is done that matters -/
theorem DI.at (tr : Trace C F.c loc al bad ops bef en hs ba) (d : DI F loc al ops en hs ba ι0 tm0 w0 D ι tm w E p) {i : Nat} (hpi : p ≤ i) (hi : i ≤ ops.size)
    (hni : ∀ k op, p ≤ k → k < i → ops[k]? = some op → kindOf F.c.P loc al op ≠ .imp) (hal : ∀ k op, p ≤ k → k < i → ops[k]? = some op → kindOf F.c.P loc al op = .alloc → D k) :
    St F ι loc al E (hs i) tm w ∧ (∀ b, Own ι (hs i) b → Own ι (ba p) b ∨ ∃ k op e, D k ∧ p ≤ k ∧ k < i ∧ ops[k]? = some op ∧ kindOf F.c.P loc al op = .alloc ∧ ι (hs k).next = some e ∧ e.blk = b) := by
  have hget : ∀ o x, (hs i).get o = some x → (ba p).get o = some x ∨ ∃ k op e, D k ∧ p ≤ k ∧ k < i ∧ ops[k]? = some op ∧ kindOf F.c.P loc al op = .alloc ∧ o = (hs k).next ∧ ι o = some e ∧ F.N ≤ e.blk ∧ ObjRel ι F.ρ w e x ∧ ¬ Own ι (ba p) e.blk ∧ ¬ LocB E tm e.blk := by
    intro o x hx
    have := hs_get tr (p := p) (o := o) (x := x) (i - p) (by omega) (fun k op h1 h2 => hni k op h1 (by omega)) (by rw [show p + (i - p) = i by omega]; exact hx)
    rcases this with h | ⟨k, op, h1, h2, h3, h4, h5, h6⟩
    · rw [d.php] at h; exact .inl h
    · have hD := hal k op h1 (by omega) h3 h4
      obtain ⟨e, e1, e2, e3, e4, e5, _⟩ := d.pend k op x hD h1 h3 h4 h6
      exact .inr ⟨k, op, e, hD, h1, by omega, h3, h4, h5, by rw [h5]; exact e1, e2, e3, e4, e5⟩
  have hown : ∀ b, Own ι (hs i) b → Own ι (ba p) b ∨ ∃ k op e, D k ∧ p ≤ k ∧ k < i ∧ ops[k]? = some op ∧ kindOf F.c.P loc al op = .alloc ∧ ι (hs k).next = some e ∧ e.blk = b := by
    rintro b ⟨o, x, e, h1, h2, h3⟩
    rcases hget o x h1 with h | ⟨k, op, e', a1, a2, a3, a4, a5, a6, a7, _⟩
    · exact .inl ⟨o, x, e, h, h2, h3⟩
    · rw [h2] at a7; cases a7
      exact .inr ⟨k, op, e, a1, a2, a3, a4, a5, by rw [← a6]; exact h2, h3⟩
  refine ⟨⟨⟨d.st.rel.below, fun o x hx => ?_, ?_, fun o x hx => ?_⟩, d.st.env.heap fun b hb ho => ?_⟩, hown⟩
  · rcases hget o x hx with h | ⟨k, op, e, a1, a2, a3, a4, a5, a6, a7, a8, a9, _⟩
    · exact d.st.rel.obj o x h
    · exact ⟨e, a7, a8, a9⟩
  · intro o o' x x' e e' h1 h2 h3 h4 h5
    rcases hget o x h1 with h | ⟨k, op, e1, a1, a2, a3, a4, a5, a6, a7, a8, a9, a10, a11⟩ <;> rcases hget o' x' h2 with h' | ⟨k', op', e1', b1, b2, b3, b4, b5, b6, b7, b8, b9, b10, b11⟩
    · exact d.st.rel.inj o o' x x' e e' h h' h3 h4 h5
    · rw [h4] at b7; cases b7
      exact absurd ⟨o, x, e, h, h3, h5⟩ b10
    · rw [h3] at a7; cases a7
      exact absurd ⟨o', x', e', h', h4, h5.symm⟩ a10
    · have := d.pinj k k' op op' e e' a1 a2 a4 a5 b1 b2 b4 b5 (by rw [← a6]; exact h3) (by rw [← b6]; exact h4) h5
      rw [a6, b6, this]
  · rcases hget o x hx with h | ⟨k, op, e, a1, a2, a3, a4, a5, a6, _⟩
    · have := d.st.rel.lt o x h
      rw [← d.php] at this
      exact Nat.lt_of_lt_of_le this (next_le tr hpi hi)
    · obtain ⟨y, y1, _⟩ := tr.al_ k op a4 a5
      have h1 : (hs (k + 1)).next = (hs k).next + 1 := by rw [y1]; rfl
      have := next_le tr (a := k + 1) (b := i) (by omega) hi
      omega
  · rcases hown b ho with h | ⟨k, op, e, a1, a2, a3, a4, a5, a6, a7⟩
    · exact d.st.env.notOwn b hb h
    · obtain ⟨y, y1, _⟩ := tr.al_ k op a4 a5
      obtain ⟨e', e1, _, _, _, e5, _⟩ := d.pend k op y a1 a2 a4 a5 y1
      rw [a6] at e1; cases e1
      rw [a7] at e5; exact e5 hb

/-- one more operation is done -/
theorem DI.step (tr : Trace C F.c loc al bad ops bef en hs ba) (d : DI F loc al ops en hs ba ι0 tm0 w0 D ι tm w E p) {i : Nat} {o : Oper} (ho : ops[i]? = some o) (hni : ¬ D i)
    {K K' : AHeap} {ι' : Inj} {tm' : Array Value} {w' : World} {E' : List AVal} {p' : Nat}
    (st' : St F ι' loc al E' K' tm' w') (ts : TStep ι K E tm w ι' K' E' tm' w') (hlike : Like (writesOf loc al o) E E' (en (i + 1)))
    (hww : ∀ j o' t, D j → ops[j]? = some o' → t ∈ writesOf loc al o → t ∈ writesOf loc al o' → j < i)
    (hpp : p ≤ p') (hple : p' ≤ ops.size) (hpimp : ∀ k op, ops[k]? = some op → kindOf F.c.P loc al op = .imp → (k < p' ↔ (D k ∨ k = i)))
    (hpal : ∀ k op, k < p' → ops[k]? = some op → kindOf F.c.P loc al op = .alloc → D k ∨ k = i) (hphp : hs p' = ba p')
    (hsub : ∀ o x, (ba p').get o = some x → K'.get o = some x) (hblt : ∀ o x, (ba p').get o = some x → o < (ba p').next)
    (hKown : ∀ b, Own ι K b → Own ι (ba p) b ∨ w0.heap.size ≤ b)
    (hKpend : ∀ k op e, D k → p' ≤ k → ops[k]? = some op → kindOf F.c.P loc al op = .alloc → ι (hs k).next = some e → ¬ Own ι K e.blk)
    (hKn : (hs 0).next ≤ K.next) (hKn' : K'.next ≤ (hs ops.size).next)
    (hnew : kindOf F.c.P loc al o = .alloc → ∃ x, K' = K.push x ∧ hs (i + 1) = (hs i).push x ∧ K.next = (hs i).next ∧ (ba p').next ≤ K.next ∧ ∀ b, Own ι K b → Own ι (ba p') b)
    (hfresh : ∀ o, (ba p').next ≤ o → o < (hs ops.size).next → ι' o = none ∨ ∃ k op, (D k ∨ k = i) ∧ p' ≤ k ∧ ops[k]? = some op ∧ kindOf F.c.P loc al op = .alloc ∧ o = (hs k).next) :
    DI F loc al ops en hs ba ι0 tm0 w0 (fun k => D k ∨ k = i) ι' tm' w' E' p' := by
  have hpo : ∀ k op x, D k → p ≤ k → ops[k]? = some op → kindOf F.c.P loc al op = .alloc → hs (k + 1) = (hs k).push x → p' ≤ k →
      ∃ e, ι (hs k).next = some e ∧ ι' (hs k).next = some e ∧ F.N ≤ e.blk ∧ ObjRel ι' F.ρ w' e x ∧ ¬ Own ι' K' e.blk ∧ ¬ LocB E' tm' e.blk ∧ w0.heap.size ≤ e.blk := by
    intro k op x hD hp hop hk hx hp'
    obtain ⟨e, e1, e2, e3, e4, e5, e6⟩ := d.pend k op x hD hp hop hk hx
    have hnK := hKpend k op e hD hp' hop hk e1
    have hlt := e3.lt
    refine ⟨e, e1, ts.sub _ _ e1, e2, e3.mono ts.sub (ts.keep.block _ hlt (fun hb => hb.elim hnK e5)), fun hb => ?_, fun hb => ?_, e6⟩
    · rcases ts.own _ hb with hb | hb
      · exact hnK hb
      · omega
    · rcases ts.loc _ hb with hb | hb
      · exact e5 hb
      · omega
  have hwsz : w0.heap.size ≤ w.heap.size := d.keep.size
  have hnw : kindOf F.c.P loc al o = .alloc → ∀ x, hs (i + 1) = (hs i).push x → ∃ e, ι' (hs i).next = some e ∧ F.N ≤ e.blk ∧ ObjRel ι' F.ρ w' e x ∧ Own ι' K' e.blk ∧ ¬ Own ι' (ba p') e.blk ∧ ¬ LocB E' tm' e.blk ∧ w0.heap.size ≤ e.blk := by
    intro hk x hx
    obtain ⟨y, y1, y2, y3, y4, y5⟩ := hnew hk
    have hxy : x = y := by
      have h1 : ((hs i).push x).get (hs i).next = some x := by rw [AHeap.get_push, if_pos rfl]
      rw [← hx, y2, AHeap.get_push, if_pos rfl] at h1
      cases h1; rfl
    subst hxy
    have hg : K'.get (hs i).next = some x := by rw [y1, AHeap.get_push, if_pos y3.symm]
    obtain ⟨e, e1, e2, e3⟩ := st'.rel.obj _ _ hg
    have hown : Own ι' K' e.blk := ⟨_, _, e, hg, e1, rfl⟩
    have hnb : ¬ Own ι' (ba p') e.blk := by
      rintro ⟨o2, x2, e4, h1, h2, h3⟩
      have := st'.rel.inj _ _ _ _ _ _ (hsub _ _ h1) hg h2 e1 h3
      have := hblt _ _ h1
      omega
    refine ⟨e, e1, e2, e3, hown, hnb, fun hb => st'.env.notOwn _ hb hown, ?_⟩
    rcases ts.own _ hown with hb | hb
    · exfalso
      obtain ⟨o2, x2, e4, h1, h2, h3⟩ := y5 _ hb
      exact hnb ⟨o2, x2, e4, h1, ts.sub _ _ h2, h3⟩
    · omega
  refine ⟨hple, hpimp, hpal, hphp, by rw [hlike.1, d.elen], d.eat.step hlike ho hww, st'.less hsub hblt, d.sub.trans ts.sub, fun o => ?_, hfresh, ?_, fun b hb => ?_, fun b hb => ?_, ?_, ?_⟩
  · rcases ts.dom o with h | h | h
    · exact .inl h
    · rcases d.dom o with h' | h' | h'
      · left; rw [← h]; exact h'
      · right; left; rw [h', h]
      · exact .inr (.inr h')
    · exact .inr (.inr ⟨Nat.le_trans hKn h.1, Nat.lt_of_lt_of_le h.2 hKn'⟩)
  · refine d.keep.trans ts.keep fun b hb => ?_
    rcases hb with hb | hb
    · rcases hKown b hb with hb | hb
      · exact (d.own b hb).imp .inl id
      · exact .inr hb
    · exact (d.lc b hb).imp .inr id
  · rcases ts.own b (Own.less hsub hb) with hb | hb
    · rcases hKown b hb with hb | hb
      · exact d.own b hb
      · exact .inr hb
    · exact .inr (Nat.le_trans hwsz hb)
  · rcases ts.loc b hb with hb | hb
    · exact d.lc b hb
    · exact .inr (Nat.le_trans hwsz hb)
  · intro k op x hD hp hop hk hx
    rcases hD with hD | rfl
    · obtain ⟨e, e0, e1, e2, e3, e4, e5, e6⟩ := hpo k op x hD (Nat.le_trans hpp hp) hop hk hx hp
      exact ⟨e, e1, e2, e3, fun hb => e4 (Own.less hsub hb), e5, e6⟩
    · rw [ho] at hop; cases hop
      obtain ⟨e, e1, e2, e3, e4, e5, e6, e7⟩ := hnw hk x hx
      exact ⟨e, e1, e2, e3, e5, e6, e7⟩
  · intro k k' op op' e e' hD hp hop hk hD' hp' hop' hk' he he' hee
    rcases hD with hD | rfl <;> rcases hD' with hD' | rfl
    · obtain ⟨x, hx, _⟩ := tr.al_ _ _ hop hk
      obtain ⟨x', hx', _⟩ := tr.al_ _ _ hop' hk'
      obtain ⟨f, f0, f1, _⟩ := hpo k op x hD (Nat.le_trans hpp hp) hop hk hx hp
      obtain ⟨f', f0', f1', _⟩ := hpo k' op' x' hD' (Nat.le_trans hpp hp') hop' hk' hx' hp'
      rw [he] at f1; cases f1
      rw [he'] at f1'; cases f1'
      exact d.pinj k k' op op' e e' hD (Nat.le_trans hpp hp) hop hk hD' (Nat.le_trans hpp hp') hop' hk' f0 f0' hee
    · exfalso
      obtain ⟨x, hx, _⟩ := tr.al_ _ _ hop hk
      obtain ⟨f, f0, f1, _, _, f4, _⟩ := hpo k op x hD (Nat.le_trans hpp hp) hop hk hx hp
      rw [he] at f1; cases f1
      obtain ⟨x', hx', _⟩ := tr.al_ _ _ hop' hk'
      rw [ho] at hop'; cases hop'
      obtain ⟨g, g1, _, _, g4, _⟩ := hnw hk' x' hx'
      rw [he'] at g1; cases g1
      rw [hee] at f4; exact f4 g4
    · exfalso
      obtain ⟨x, hx, _⟩ := tr.al_ _ _ hop' hk'
      obtain ⟨f, f0, f1, _, _, f4, _⟩ := hpo k' op' x hD' (Nat.le_trans hpp hp') hop' hk' hx hp'
      rw [he'] at f1; cases f1
      obtain ⟨x', hx', _⟩ := tr.al_ _ _ hop hk
      rw [ho] at hop; cases hop
      obtain ⟨g, g1, _, _, g4, _⟩ := hnw hk x' hx'
      rw [he] at g1; cases g1
      rw [← hee] at f4; exact f4 g4
    · rfl

end
end Go.Proofs.YtofnbldbggddmaaGreatDoor
namespace Go.Proofs.YtofnbldbggddmaaGreatDoor
open Go Go.RowKit

section
variable {F : Fix} {C : CallR} {loc : List Nat} {al : List (Nat × Nat)} {bad : List Nat} {ops : Array Oper} {en : Nat → List AVal} {hs ba : Nat → AHeap}
variable {ι0 ι : Inj} {tm0 tm : Array Value} {w0 w : World} {D : Nat → Prop} {E : List AVal} {p : Nat}

/-- what the region is like -/
structure Reg (P : Program) (loc : List Nat) (al : List (Nat × Nat)) (ops : Array Oper) : Prop where
  on : ∀ i o, ops[i]? = some o → ∀ e ∈ o.after.toList, Region.binds .any e = true → e.on < i
  two : ∀ i j x y, i < j → ops[i]? = some x → ops[j]? = some y → befB (Region.before ops) i j = true ∨
    ((∀ t ∈ writesOf loc al x, t ∉ namesX loc al ops y) ∧ (∀ t ∈ writesOf loc al x, t ∉ writesOf loc al y) ∧ (∀ t ∈ writesOf loc al y, t ∉ namesX loc al ops x) ∧
      ¬ (kindOf P loc al x = .imp ∧ kindOf P loc al y = .imp) ∧ ¬ (kindOf P loc al x = .alloc ∧ kindOf P loc al y = .imp))

theorem reg_of {P : Program} (h : regionOk P loc ops = true) : Reg P loc (aliasPairs loc ops.toList []) ops := by
  unfold regionOk at h
  simp only [Bool.and_eq_true, List.all_eq_true] at h
  obtain ⟨h1, h2⟩ := h
  have hmem : ∀ {i o}, ops[i]? = some o → (o, i) ∈ ops.toList.zipIdx := by
    intro i o ho
    rw [List.mem_zipIdx_iff_getElem?]
    simpa using ho
  refine ⟨fun i o ho e he hb => ?_, fun i j x y hij hx hy => ?_⟩
  · have := h1 _ (hmem ho)
    simp only [Array.all_eq_true'] at this
    have := this e (by simpa using he)
    simpa [hb] using this
  · have := h2 _ (hmem hx) _ (hmem hy)
    simp only [hij, decide_true, Bool.not_true, Bool.false_or, Bool.or_eq_true, Bool.and_eq_true, Bool.not_eq_true', Bool.and_eq_false_iff, decide_eq_false_iff_not] at this
    rcases this with h | ⟨⟨⟨⟨a1, a2⟩, a3⟩, a4⟩, a5⟩
    · exact .inl h
    · refine .inr ⟨fun t ht hn => ?_, fun t ht hn => ?_, fun t ht hn => ?_, fun hh => ?_, fun hh => ?_⟩
      · have := List.all_eq_true.1 a1 t ht; simp at this; exact this hn
      · have := List.all_eq_true.1 a2 t ht; simp at this; exact this hn
      · have := List.all_eq_true.1 a3 t ht; simp at this; exact this hn
      · rcases a4 with a | a
        · exact a hh.1
        · exact a hh.2
      · rcases a5 with a | a
        · exact a hh.1
        · exact a hh.2

theorem base_bad {bad : List Nat} {loc : List Nat} {al : List (Nat × Nat)} {o : Oper} {s : Nat} (hb1 : ∀ t, loc.contains t = true → bad.contains t = true) (hb2 : ∀ t s, lookN al t = some s → bad.contains t = true) (h : baseSlot loc al o = some s) : bad.contains s = true := by
  unfold baseSlot at h
  split at h
  · cases h
  split at h
  rotate_left; · cases h
  rename_i t s' hh
  split at h
  rotate_left; · cases h
  rename_i he
  cases h
  subst he
  have key : ∀ x, slotOf loc al x = some (t, t) → bad.contains t = true := fun x hx => by
    unfold slotOf at hx
    split at hx
    · rename_i u
      split at hx
      · rename_i hl; cases hx; exact hb1 _ hl
      · split at hx
        · rename_i v hv; cases hx; exact hb2 _ _ hv
        · cases hx
    · cases hx
  unfold how at hh
  split at hh <;> (try split at hh) <;> (try split at hh) <;> first | (cases hh; done) | skip
  all_goals (rename_i p hp; injection hh with e1 e2; exact key _ (by rw [hp]; exact congrArg some (Prod.ext e1 e2)))

theorem base_loc {loc : List Nat} {al : List (Nat × Nat)} {o : Oper} {s : Nat} (hal : ∀ t s, lookN al t = some s → loc.contains s = true) (h : baseSlot loc al o = some s) : loc.contains s = true := by
  unfold baseSlot at h
  split at h
  · cases h
  split at h
  rotate_left; · cases h
  rename_i t s' hh
  split at h
  rotate_left; · cases h
  rename_i he
  cases h
  subst he
  have key : ∀ x, slotOf loc al x = some (t, t) → loc.contains t = true := fun x hx => by
    unfold slotOf at hx
    split at hx
    · rename_i u
      split at hx
      · rename_i hl; cases hx; exact hl
      · split at hx
        · rename_i v hv; cases hx; exact hal _ _ hv
        · cases hx
    · cases hx
  unfold how at hh
  split at hh <;> (try split at hh) <;> (try split at hh) <;> first | (cases hh; done) | skip
  all_goals (rename_i p hp; injection hh with e1 e2; exact key _ (by rw [hp]; exact congrArg some (Prod.ext e1 e2)))

theorem cell_back (hops : ∀ o ∈ ops.toList, opOk loc al o = true) (hm : ops.toList.any (makesB loc al) = false) (tr : Trace C F.c loc al bad ops (Region.before ops) en hs ba) {s : Nat} (hs : loc.contains s = true) : ∀ k o, ops[k]? = some o → s ∈ writesOf loc al o → (∃ vs, nth (en k) s = .cell vs) ∧ ∃ vs, nth (en (k + 1)) s = .cell vs := by
  intro k o ho hw
  have hmem : o ∈ ops.toList := by rw [Array.mem_toList_iff]; exact Array.mem_of_getElem? ho
  have hop := hops o hmem
  have hmk : makesB loc al o = false := by
    rw [List.any_eq_false] at hm
    simpa using hm o hmem
  have hds : ∀ t s', how loc al o = .store_ t s' → s' = s → (∃ vs, nth (en k) s = .cell vs) ∧ ∃ vs, nth (en (k + 1)) s = .cell vs := by
    rintro t s' hh rfl
    have hk : kindOf F.c.P loc al o = .pure := by unfold kindOf; rw [hh]
    exact store_cell hh ((tr.pu k o ho hk).2 (ba 0))
  unfold writesOf at hw
  unfold opOk at hop
  rcases List.mem_append.1 hw with hw | hw
  · exfalso
    cases hd : o.dst with
    | none => rw [hd] at hw; simp at hw
    | some d =>
      rw [hd] at hw hop
      simp at hw
      subst hw
      cases hh : how loc al o with
      | make d' => unfold makesB at hmk; rw [hh] at hmk; cases hmk
      | alias_ t s' => rw [hh] at hop; simp only [Bool.and_eq_true, Bool.not_eq_true'] at hop; rw [hs] at hop; cases hop.1
      | plain => rw [hh] at hop; simp only [Bool.not_eq_true'] at hop; rw [hs] at hop; cases hop
      | load_ t s' => rw [hh] at hop; simp only [Bool.not_eq_true'] at hop; rw [hs] at hop; cases hop
      | store_ t s' => rw [hh] at hop; simp only [Bool.not_eq_true'] at hop; rw [hs] at hop; cases hop
  · cases hh : how loc al o with
    | make d' => unfold makesB at hmk; rw [hh] at hmk; cases hmk
    | store_ t s' => rw [hh] at hw; simp at hw; exact hds t s' hh hw.symm
    | alias_ t s' => rw [hh] at hw; simp at hw
    | plain => rw [hh] at hw; simp at hw
    | load_ t s' => rw [hh] at hw; simp at hw

theorem cell_down (hops : ∀ o ∈ ops.toList, opOk loc al o = true) (hm : ops.toList.any (makesB loc al) = false) (tr : Trace C F.c loc al bad ops (Region.before ops) en hs ba) {s : Nat} (hs : loc.contains s = true) : ∀ k, k ≤ ops.size → (∃ vs, nth (en k) s = .cell vs) → ∃ vs, nth (en 0) s = .cell vs
  | 0, _, h => h
  | k + 1, hk, h => by
    refine cell_down hops hm tr hs k (by omega) ?_
    have ho : ops[k]? = some ops[k] := by simp [show k < ops.size by omega]
    by_cases hw : s ∈ writesOf loc al ops[k]
    · exact (cell_back hops hm tr hs k _ ho hw).1
    · have := (tr.frame k _ ho).2 s
      rw [if_neg hw] at this
      rw [← this]; exact h

theorem draw_common {i : Nat} {o : Oper} {K K' : AHeap} {envi : List AVal} {env' : List AVal} (ok : F.Ok) (hC : CallSound F C)
    (hal : ∀ t s, lookN al t = some s → loc.contains s = true) (hb1 : ∀ t, loc.contains t = true → bad.contains t = true) (hb2 : ∀ t s, lookN al t = some s → bad.contains t = true)
    (ho : ops[i]? = some o) (hop : opOk loc al o = true) (stK : St F ι loc al E K tm w) (hq : stepP C F.c loc al bad ops o envi K = .ok (env', K'))
    (hn : ∀ t ∈ namesX loc al ops o, nth E t = nth envi t) (hcl : ∀ s, baseSlot loc al o = some s → ops.toList.any (makesB loc al) = false → (∃ vs, nth E s = .cell vs) ∧ ∃ vs, nth envi s = .cell vs) (hl : E.length = envi.length) (fr : Fresh ι K.next K'.next) :
    ∃ E', Like (writesOf loc al o) E E' env' ∧ StepTo F.c.P ops i tm w fun tm' w' => ∃ ι', St F ι' loc al E' K' tm' w' ∧ TStep ι K E tm w ι' K' E' tm' w' := by
  obtain ⟨E', h1, h2⟩ := stepP_congrX hq hn hl (fun s hs => base_bad hb1 hb2 hs) hcl
  refine ⟨E', h2, ?_⟩
  have h3 := step1_P C F.c loc al bad ops o (rs0 E K)
  have h4 : stepP C F.c loc al bad ops o (rs0 E K).env (rs0 E K).h = .ok (E', K') := h1
  rw [h4] at h3
  exact step_ok (s := rs0 E K) ok hC hal hb1 hb2 ho hop stK h3 fr

set_option maxHeartbeats 1000000 in
theorem draw_step (ok : F.Ok) (hC : CallSound F C) (hal : ∀ t s, lookN al t = some s → loc.contains s = true) (hb1 : ∀ t, loc.contains t = true → bad.contains t = true) (hb2 : ∀ t s, lookN al t = some s → bad.contains t = true)
    (hops : ∀ o ∈ ops.toList, opOk loc al o = true) (rg : Reg F.c.P loc al ops) (tr : Trace C F.c loc al bad ops (Region.before ops) en hs ba) (d : DI F loc al ops en hs ba ι0 tm0 w0 D ι tm w E p)
    (hV : ∀ i o, D i → ops[i]? = some o → ∀ e ∈ o.after.toList, Region.binds .any e = true → D e.on)
    {i : Nat} {o : Oper} (ho : ops[i]? = some o) (hni : ¬ D i) (hrd : ∀ e ∈ o.after.toList, Region.binds .any e = true → D e.on) :
    StepTo F.c.P ops i tm w fun tm' w' => ∃ ι' E' p', DI F loc al ops en hs ba ι0 tm0 w0 (fun k => D k ∨ k = i) ι' tm' w' E' p' := by
  have hilt : i < ops.size := (Array.getElem?_eq_some_iff.1 ho).1
  have hop : opOk loc al o = true := hops o (by rw [Array.mem_toList_iff]; exact Array.mem_of_getElem? ho)
  have hbk := before_closed rg.on hV i o ho hrd
  have hbd : ∀ j oj, D j → ops[j]? = some oj → befB (Region.before ops) i j = false := by
    intro j oj hj hoj
    cases hb : befB (Region.before ops) i j with
    | false => rfl
    | true => exact absurd (before_closed rg.on hV j oj hoj (hV j oj hj hoj) i hb) hni
  have hne : ∀ j, D j → j ≠ i := fun j hj he => hni (he ▸ hj)
  have hww : ∀ j o' t, D j → ops[j]? = some o' → t ∈ writesOf loc al o → t ∈ writesOf loc al o' → j < i := by
    intro j o' t hj ho' h1 h2
    rcases Nat.lt_or_gt_of_ne (hne j hj) with h | h
    · exact h
    · rcases rg.two i j o o' h ho ho' with h3 | h3
      · rw [hbd j o' hj ho'] at h3; cases h3
      · exact absurd h2 (h3.2.1 t h1)
  have hn : ∀ t ∈ namesX loc al ops o, nth E t = nth (en i) t := by
    intro t ht
    refine d.eat.names tr (Nat.le_of_lt hilt) (fun k o' hk ho' hw => ?_) (fun j o' hj ho' hw => ?_)
    · rcases rg.two k i o' o hk ho' ho with h3 | h3
      · exact hbk k h3
      · exact absurd ht (h3.1 t hw)
    · rcases Nat.lt_or_gt_of_ne (hne j hj) with h | h
      · exact h
      · rcases rg.two i j o o' h ho ho' with h3 | h3
        · rw [hbd j o' hj ho'] at h3; cases h3
        · exact absurd ht (h3.2.2.1 t hw)
  have hl : E.length = (en i).length := by rw [d.elen, len_run tr i (Nat.le_of_lt hilt)]
  have hcl : ∀ s, baseSlot loc al o = some s → ops.toList.any (makesB loc al) = false → (∃ vs, nth E s = .cell vs) ∧ ∃ vs, nth (en i) s = .cell vs := by
    intro s hbs hm
    have hk : kindOf F.c.P loc al o = .pure := by
      unfold baseSlot at hbs
      unfold kindOf
      split at hbs
      · cases hbs
      split at hbs
      · rename_i hh; rw [hh]
      · cases hbs
    have hci : ∃ vs, nth (en i) s = .cell vs := by
      have := (tr.pu i o ho hk).2 (ba 0)
      rw [alias_shape hbs] at this
      obtain ⟨n, n1, _⟩ := Res.bind_ok this
      unfold aliasR at n1
      obtain ⟨b, b1, _⟩ := Res.bind_ok n1
      unfold baseOff at b1
      simp only [decide_true] at b1
      split at b1
      · rename_i vs hv; exact ⟨vs, hv⟩
      · cases b1
    by_cases hls : loc.contains s = true
    · refine ⟨?_, hci⟩
      rcases d.eat s with ⟨k, ok', h1, h2, h3, h4, h5⟩ | ⟨_, h5⟩
      · rw [h5]; exact (cell_back hops hm tr hls k ok' h2 h3).2
      · rw [h5]; exact cell_down hops hm tr hls i (Nat.le_of_lt hilt) hci
    · exact absurd (base_loc hal hbs) hls
  have hpn : (hs 0).next ≤ (ba p).next := by rw [← d.php]; exact next_le tr (Nat.zero_le _) d.ple
  have hpn' : (ba p).next ≤ (hs ops.size).next := by rw [← d.php]; exact next_le tr d.ple (Nat.le_refl _)
  have hid : ∀ k op, ops[k]? = some op → kindOf F.c.P loc al op = .alloc → (hs (k + 1)).next = (hs k).next + 1 := by
    intro k op hk hkk
    obtain ⟨x, hx, _⟩ := tr.al_ k op hk hkk
    rw [hx]; rfl
  -- nothing but the frame changes
  have quiet : kindOf F.c.P loc al o ≠ .imp → kindOf F.c.P loc al o ≠ .alloc → stepP C F.c loc al bad ops o (en i) (ba p) = .ok (en (i + 1), ba p) →
      StepTo F.c.P ops i tm w fun tm' w' => ∃ ι' E' p', DI F loc al ops en hs ba ι0 tm0 w0 (fun k => D k ∨ k = i) ι' tm' w' E' p' := by
    intro hk1 hk2 hq
    obtain ⟨E', h1, h2⟩ := draw_common ok hC hal hb1 hb2 ho hop d.st hq hn hcl hl (fun o h1 h2 => by omega)
    refine h2.mono fun tm' w' ⟨ι', st', ts⟩ => ⟨ι', E', p, ?_⟩
    refine d.step tr ho hni st' ts h1 hww (Nat.le_refl _) d.ple (fun k op hop' hk => ?_) (fun k op h3 h4 h5 => .inl (d.pal k op h3 h4 h5)) d.php (fun _ _ h => h) d.st.rel.lt (fun _ h => .inl h) ?_ hpn hpn' (fun h => absurd h hk2) ?_
    · rw [d.pimp k op hop' hk]
      constructor
      · exact .inl
      · rintro (h | rfl)
        · exact h
        · rw [ho] at hop'; cases hop'; exact absurd hk hk1
    · intro k op e h3 h4 h5 h6 h7
      obtain ⟨x, hx, _⟩ := tr.al_ k op h5 h6
      obtain ⟨e', e1, _, _, e4, _⟩ := d.pend k op x h3 h4 h5 h6 hx
      rw [h7] at e1; cases e1; exact e4
    · intro q h3 h4
      rcases ts.dom q with h | h | h
      · exact .inl h
      · rcases d.fresh q h3 h4 with h' | ⟨k, op, a1, a2⟩
        · left; rw [← h]; exact h'
        · exact .inr ⟨k, op, .inl a1, a2⟩
      · omega
  cases hk : kindOf F.c.P loc al o with
  | pure => exact quiet (by rw [hk]; simp) (by rw [hk]; simp) ((tr.pu i o ho hk).2 (ba p))
  | read =>
    refine quiet (by rw [hk]; simp) (by rw [hk]; simp) ((tr.rd i o ho hk).2 p d.ple (fun k o' h1 h2 h3 => ?_) (fun k o' h1 h2 h3 h4 => ?_))
    · exact hbd k o' ((d.pimp k o' h2 h3).1 h1) h2
    · cases hb : befB (Region.before ops) k i with
      | false => rfl
      | true =>
        have := (d.pimp k o' h3 h4).2 (hbk k hb)
        omega
  | alloc =>
    have hpi : p ≤ i := by
      refine Nat.le_of_not_lt fun h => hni (d.pal i o h ho hk)
    obtain ⟨x, hx, hq⟩ := tr.al_ i o ho hk
    have hle : (ba p).next ≤ (hs i).next := by rw [← d.php]; exact next_le tr hpi (Nat.le_of_lt hilt)
    have hstep := hid i o ho hk
    have hle' : (hs (i + 1)).next ≤ (hs ops.size).next := next_le tr hilt (Nat.le_refl _)
    have stK : St F ι loc al E { ba p with next := (hs i).next } tm w := d.st.less (fun _ _ h => h) (fun q y h => Nat.lt_of_lt_of_le (d.st.rel.lt q y h) hle)
    have fr : Fresh ι (hs i).next ((hs i).next + 1) := by
      intro q h1 h2
      rcases d.fresh q (by omega) (by omega) with h | ⟨k, op, a1, a2, a3, a4, a5⟩
      · exact h
      · exfalso
        have := hid k op a3 a4
        rcases Nat.lt_or_gt_of_ne (hne k a1) with h | h
        · have := next_le tr (a := k + 1) (b := i) (by omega) (Nat.le_of_lt hilt)
          omega
        · have hkl : k < ops.size := (Array.getElem?_eq_some_iff.1 a3).1
          have := next_le tr (a := i + 1) (b := k) (by omega) (Nat.le_of_lt hkl)
          omega
    obtain ⟨E', h1, h2⟩ := draw_common ok hC hal hb1 hb2 ho hop stK (hq { ba p with next := (hs i).next } rfl) hn hcl hl fr
    refine h2.mono fun tm' w' ⟨ι', st', ts⟩ => ⟨ι', E', p, ?_⟩
    refine d.step tr ho hni st' ts h1 hww (Nat.le_refl _) d.ple (fun k op hop' hkk => ?_) (fun k op h3 h4 h5 => .inl (d.pal k op h3 h4 h5)) d.php (fun q y h => ?_) d.st.rel.lt
      (fun b h => .inl (Own.less (fun _ _ h => h) h)) ?_ (next_le tr (Nat.zero_le _) (Nat.le_of_lt hilt)) ?_ (fun _ => ⟨x, rfl, hx, rfl, hle, fun b h => Own.less (fun _ _ h => h) h⟩) ?_
    · rw [d.pimp k op hop' hkk]
      constructor
      · exact .inl
      · rintro (h | rfl)
        · exact h
        · rw [ho] at hop'; cases hop'; rw [hk] at hkk; cases hkk
    · rw [AHeap.get_push, if_neg]
      · exact h
      · have := d.st.rel.lt q y h
        show q ≠ (hs i).next
        omega
    · intro k op e h3 h4 h5 h6 h7
      obtain ⟨x, hx, _⟩ := tr.al_ k op h5 h6
      obtain ⟨e', e1, _, _, e4, _⟩ := d.pend k op x h3 h4 h5 h6 hx
      rw [h7] at e1; cases e1
      exact fun h => e4 (Own.less (fun _ _ h => h) h)
    · show (hs i).next + 1 ≤ _
      omega
    · intro q h3 h4
      rcases ts.dom q with h | h | h
      · exact .inl h
      · rcases d.fresh q h3 h4 with h' | ⟨k, op, a1, a2⟩
        · left; rw [← h]; exact h'
        · exact .inr ⟨k, op, .inl a1, a2⟩
      · have h5 : (hs i).next ≤ q := h.1
        have h6 : q < (hs i).next + 1 := h.2
        exact .inr ⟨i, o, .inr rfl, hpi, ho, hk, by omega⟩
  | imp =>
    have hkD : ∀ k op, k < i → ops[k]? = some op → kindOf F.c.P loc al op = .imp → D k := by
      intro k op h1 h2 h3
      rcases rg.two k i op o h1 h2 ho with h | h
      · exact hbk k h
      · exact absurd ⟨h3, hk⟩ h.2.2.2.1
    have hDk : ∀ k op, D k → ops[k]? = some op → kindOf F.c.P loc al op = .imp → k < i := by
      intro k op h1 h2 h3
      rcases Nat.lt_or_gt_of_ne (hne k h1) with h | h
      · exact h
      · rcases rg.two i k o op h ho h2 with h4 | h4
        · rw [hbd k op h1 h2] at h4; cases h4
        · exact absurd ⟨hk, h3⟩ h4.2.2.2.1
    have haD : ∀ k op, k < i → ops[k]? = some op → kindOf F.c.P loc al op = .alloc → D k := by
      intro k op h1 h2 h3
      rcases rg.two k i op o h1 h2 ho with h | h
      · exact hbk k h
      · exact absurd ⟨h3, hk⟩ h.2.2.2.2
    have hpi : p ≤ i := Nat.le_of_not_lt fun h => hni ((d.pimp i o ho hk).1 h)
    obtain ⟨stK, hown⟩ := d.at tr hpi (Nat.le_of_lt hilt) (fun k op h1 h2 h3 h4 => by have := (d.pimp k op h3 h4).2 (hkD k op h2 h3 h4); omega) (fun k op h1 h2 h3 h4 => haD k op h2 h3 h4)
    obtain ⟨hq, hba⟩ := tr.imp i o ho hk
    have hle : (ba p).next ≤ (hs i).next := by rw [← d.php]; exact next_le tr hpi (Nat.le_of_lt hilt)
    have hle1 : (hs i).next ≤ (hs (i + 1)).next := tr.next i hilt
    have hle' : (hs (i + 1)).next ≤ (hs ops.size).next := next_le tr hilt (Nat.le_refl _)
    have hside : ∀ k op, D k → ops[k]? = some op → kindOf F.c.P loc al op = .alloc → ((hs k).next < (hs i).next ∧ k < i) ∨ ((hs (i + 1)).next ≤ (hs k).next ∧ i + 1 ≤ k) := by
      intro k op h1 h2 h3
      have := hid k op h2 h3
      rcases Nat.lt_or_gt_of_ne (hne k h1) with h | h
      · have := next_le tr (a := k + 1) (b := i) (by omega) (Nat.le_of_lt hilt)
        exact .inl ⟨by omega, h⟩
      · have hkl : k < ops.size := (Array.getElem?_eq_some_iff.1 h2).1
        have := next_le tr (a := i + 1) (b := k) (by omega) (Nat.le_of_lt hkl)
        exact .inr ⟨this, h⟩
    have fr : Fresh ι (hs i).next (hs (i + 1)).next := by
      intro q h1 h2
      rcases d.fresh q (by omega) (by omega) with h | ⟨k, op, a1, a2, a3, a4, a5⟩
      · exact h
      · exfalso
        have := hside k op a1 a3 a4
        omega
    obtain ⟨E', h1, h2⟩ := draw_common ok hC hal hb1 hb2 ho hop stK hq hn hcl hl fr
    refine h2.mono fun tm' w' ⟨ι', st', ts⟩ => ⟨ι', E', i + 1, ?_⟩
    refine d.step tr ho hni st' ts h1 hww (by omega) hilt (fun k op hop' hkk => ?_) (fun k op h3 h4 h5 => ?_) hba.symm (fun q y h => by rw [hba] at h; exact h) (fun q y h => ?_)
      (fun b h => ?_) ?_ (next_le tr (Nat.zero_le _) (Nat.le_of_lt hilt)) hle' (fun h => by rw [hk] at h; cases h) ?_
    · constructor
      · intro h
        by_cases hki : k = i
        · exact .inr hki
        · exact .inl (hkD k op (by omega) hop' hkk)
      · rintro (h | rfl)
        · have := hDk k op h hop' hkk; omega
        · omega
    · by_cases hki : k = i
      · exact .inr hki
      · exact .inl (haD k op (by omega) h4 h5)
    · rw [hba] at h ⊢; exact st'.rel.lt q y h
    · rcases hown b h with h | ⟨k, op, e, a1, a2, a3, a4, a5, a6, a7⟩
      · exact .inl h
      · obtain ⟨x, hx, _⟩ := tr.al_ k op a4 a5
        obtain ⟨e', e1, _, _, _, _, e6⟩ := d.pend k op x a1 a2 a4 a5 hx
        rw [a6] at e1; cases e1
        rw [← a7]; exact .inr e6
    · intro k op e h3 h4 h5 h6 h7 h8
      obtain ⟨x, hx, _⟩ := tr.al_ k op h5 h6
      obtain ⟨e', e1, _, _, e4, _⟩ := d.pend k op x h3 (by omega) h5 h6 hx
      rw [h7] at e1; cases e1
      rcases hown _ h8 with h | ⟨k', op', e'', a1, a2, a3, a4, a5, a6, a7⟩
      · exact e4 h
      · have := d.pinj k k' op op' e e'' h3 (by omega) h5 h6 a1 a2 a4 a5 h7 a6 a7.symm
        omega
    · intro q h3 h4
      rw [hba] at h3
      rcases ts.dom q with h | h | h
      · exact .inl h
      · rcases d.fresh q (by omega) h4 with h' | ⟨k, op, a1, a2, a3, a4, a5⟩
        · left; rw [← h]; exact h'
        · have := hside k op a1 a3 a4
          exact .inr ⟨k, op, .inl a1, by omega, a3, a4, a5⟩
      · omega

end
end Go.Proofs.YtofnbldbggddmaaGreatDoor
namespace Go.Proofs.YtofnbldbggddmaaGreatDoor
open Go Go.RowKit

/-- what must be so of a program's reading -/
structure Sure (F : Fix) : Prop where
  ok : F.Ok
  code : ∀ f fn code, (F.c.ann f).ok = true → F.c.P.funcs[f]? = some fn → fn.body = some code → codeOk F.c.P (F.c.ann f).locals code = true ∧ (fn.name == "runtime.NumGoroutine") = false
  prim : ∀ f g, F.c.prim f = some g → ∀ args h v h', g args h = .ok (v, h') → h.next ≤ h'.next ∧
    ∀ ι w (av : Array Value), Rel F ι h w → VRels ι F.ρ args av.toList → Fresh ι h.next h'.next → CallTo F.c.P f av w (Out F ι h w v h')
  draw : DrawSound F

def ExecS (F : Fix) (k : Nat) : Prop := ∀ f code env h r, codeOk F.c.P (F.c.ann f).locals code = true → exec F.c k f code env h = .ok r →
  h.next ≤ r.2.2.next ∧ ∀ (ι : Inj) (tm : Array Value) (w : World), St F ι (F.c.ann f).locals [] env h tm w → Fresh ι h.next r.2.2.next → wpX F.c.P code (After F ι (F.c.ann f).locals h env tm w r) ⟨tm, []⟩ w

def ScopeS (F : Fix) (k : Nat) : Prop := ∀ f body cur env h r, codeOk F.c.P (F.c.ann f).locals body = true → codeOk F.c.P (F.c.ann f).locals cur = true → scopeE F.c k f body cur env h = .ok r →
  h.next ≤ r.2.2.next ∧ ∀ (ι : Inj) (tm : Array Value) (w : World), St F ι (F.c.ann f).locals [] env h tm w → Fresh ι h.next r.2.2.next → wpS F.c.P body cur (After F ι (F.c.ann f).locals h env tm w r) ⟨tm, []⟩ w

theorem findLabel_ok {P : Program} {loc : List Nat} : ∀ {body : Code} {l : Nat} {rest : Code}, findLabel body l = some rest → codeOk P loc body = true → codeOk P loc rest = true := by
  intro body
  induction body with
  | seq a b iha ihb =>
    intro l rest hf hc
    simp only [codeOk, Bool.and_eq_true] at hc
    unfold findLabel at hf
    split at hf
    · rename_i r hr; cases hf
      simp only [codeOk, Bool.and_eq_true]; exact ⟨iha hr hc.1, hc.2⟩
    · exact ihb hf hc.2
  | label l' =>
    intro l rest hf hc
    unfold findLabel at hf
    split at hf
    · cases hf; rfl
    · cases hf
  | _ => intro l rest hf hc; cases hf

section
variable {F : Fix} {ι : Inj} {h : AHeap} {w : World} {loc : List Nat}

/-- a frame, entered -/
theorem enter_st (r : Rel F ι h w) {args : List AVal} {av : Array Value} (ha : VRels ι F.ρ args av.toList) (n : Nat) :
    St F ι loc [] (args ++ List.replicate (n - args.length) .dead) h (av ++ Array.replicate (n - av.size) undef) w ∧ ∀ t us, nth (args ++ List.replicate (n - args.length) .dead) t ≠ .cell us := by
  have hl : args.length = av.size := by simpa using ha.length
  have hval : ∀ t, VRel ι F.ρ (nth (args ++ List.replicate (n - args.length) .dead) t) ((av ++ Array.replicate (n - av.size) undef).getD t undef) := by
    intro t
    rw [nth_eq, List.getElem?_append]
    split
    · rename_i ht
      obtain ⟨v, v1, v2⟩ := ha.get (j := t) (List.getElem?_eq_getElem ht)
      have hv : av[t]? = some v := by simpa using v1
      have ht' : t < av.size := by omega
      have : (av ++ Array.replicate (n - av.size) undef)[t]? = some v := by rw [Array.getElem?_append_left ht']; exact hv
      rw [Array.getD_eq_getD_getElem?, this, List.getElem?_eq_getElem ht]
      exact v2
    · have : ((List.replicate (n - args.length) AVal.dead)[t - args.length]?).getD .dead = .dead := by
        simp only [List.getElem?_replicate]; split <;> rfl
      rw [this]; trivial
  refine ⟨⟨r, ⟨by simp [hl], fun t => SlotOk.of_val (hval t), fun t t' vs vs' b h1 => ?_⟩⟩, fun t us hn => ?_⟩
  · have := hval t; rw [h1] at this; exact this.elim
  · have := hval t; rw [hn] at this; exact this.elim

def resF (tm : Array Value) : ResultVar → Sem Value
  | .tmp t => pure (tm.getD t undef)
  | .cell a t => do loadVar t (← asAddr (tm.getD a undef))

theorem loadR_ptr {c : Cfg} {t : Nat} {x v : AVal} {xv : Value} (hq : loadR c h t x = .ok v) (hx : VRel ι F.ρ x xv) : ∃ a, xv = .pointer (some a) := by
  unfold loadR at hq
  obtain ⟨_, h1, _⟩ := Res.bind_ok hq
  unfold rowR at h1
  split at h1
  · obtain ⟨e, _, rfl⟩ := hx; exact ⟨_, rfl⟩
  · obtain ⟨e, _, rfl⟩ := hx; exact ⟨_, rfl⟩
  · cases h1

theorem results_list (ok : F.Ok) {env : List AVal} {tm : Array Value} (st : St F ι loc [] env h tm w) : ∀ (l : List ResultVar) (vs : List AVal), resultsR F.c loc env h l = .ok vs →
    ∃ us, (l.mapM (resF tm)).run F.c.P w = .ok us w ∧ VRels ι F.ρ vs us
  | [], vs, hq => by cases hq; exact ⟨[], rfl, rfl⟩
  | .tmp t :: l, vs, hq => by
    unfold resultsR at hq
    obtain ⟨v, h1, hq⟩ := Res.bind_ok hq
    obtain ⟨r, h2, hq⟩ := Res.bind_ok hq
    cases hq
    obtain ⟨us, u1, u2⟩ := results_list ok st l r h2
    have hv := st.env.opnd_ok (bad := loc) ok (fun _ h => h) (fun _ _ h => by cases h) [] _ _ h1
    refine ⟨tm.getD t undef :: us, ?_, ⟨_, _, rfl, hv, u2⟩⟩
    simp [List.mapM_cons, u1, resF]
  | .cell a t :: l, vs, hq => by
    unfold resultsR at hq
    obtain ⟨v, h1, hq⟩ := Res.bind_ok hq
    obtain ⟨r, h2, hq⟩ := Res.bind_ok hq
    cases hq
    obtain ⟨us, u1, u2⟩ := results_list ok st l r h2
    have hld : ∃ u, (resF tm (.cell a t)).run F.c.P w = .ok u w ∧ VRel ι F.ρ v u := by
      split at h1
      · obtain ⟨vo, h3, h1⟩ := Res.bind_ok h1
        obtain ⟨vs', off⟩ := vo
        obtain ⟨_, b, c, T', b1, b2, _, _, b5, b6, b7⟩ := st.env.cell (.inl rfl) h3
        rw [b1] at b2; cases b2
        obtain ⟨u, u1, u2⟩ := (cells_at b5 b6 b7).loadVar (P := F.c.P) h1
        have hx : tm.getD a undef = .pointer (some ⟨b, 0, none⟩) := by rw [Array.getD_eq_getD_getElem?, b1]; rfl
        exact ⟨u, by simpa [resF, hx, asAddr] using u1, u2⟩
      · rename_i hnc
        have hv : VRel ι F.ρ (nth env a) (tm.getD a undef) := (st.env.slot a).val (by simpa using hnc) rfl
        obtain ⟨u, u1, u2⟩ := load_ok ok st.rel h1 hv
        refine ⟨u, ?_, u2⟩
        obtain ⟨ad, had⟩ := loadR_ptr h1 hv
        rw [← u1]
        simp [resF, had, asAddr, Instr.loadAt, Instr.sureAddr]
    obtain ⟨u, u3, u4⟩ := hld
    refine ⟨u :: us, ?_, ⟨_, _, rfl, u4, u2⟩⟩
    simp [List.mapM_cons, u3, u1]

theorem results_ok (ok : F.Ok) {env : List AVal} {tm : Array Value} (st : St F ι loc [] env h tm w) {fn : Func} {vs : List AVal} (hq : resultsR F.c loc env h fn.results.toList = .ok vs) :
    ∃ u, (results fn tm).run F.c.P w = .ok u w ∧ VRel ι F.ρ (packR vs) u := by
  obtain ⟨us, u1, u2⟩ := results_list ok st _ _ hq
  have hl := u2.length
  have h1 := run_mapM_arr fn.results _ w u1
  have h2 : results fn tm = (do let vs ← fn.results.mapM (resF tm); pure (if h : vs.size = 1 then vs[0] else .tuple vs)) := by
    unfold results
    congr 1
  rw [h2]
  simp only [Sem.run_bind, h1, Result.andThen_ok, Sem.run_pure]
  refine ⟨_, rfl, ?_⟩
  match vs, us, u2 with
  | [], _, u2 => simp only [VRels] at u2; subst u2; exact ⟨#[], rfl, rfl⟩
  | [a], _, ⟨v, _, rfl, v1, v2⟩ => simp only [VRels] at v2; subst v2; exact v1
  | a :: b :: l, us, u2 =>
    obtain ⟨v0, _, rfl, v1, v, us, rfl, v2, v3⟩ := u2
    refine ⟨(v0 :: v :: us).toArray, by simp, ?_⟩
    exact ⟨_, _, rfl, v1, _, _, rfl, v2, v3⟩

end
section
variable {F : Fix}

theorem After.trans {ι ι' : Inj} {loc : List Nat} {h h' : AHeap} {env env' : List AVal} {tm tm' : Array Value} {w w' : World} {r : AExit × List AVal × AHeap} {e : Exit} {a : Act} {w'' : World}
    (ts : TStep ι h env tm w ι' h' env' tm' w') (hh : After F ι' loc h' env' tm' w' r e a w'') : After F ι loc h env tm w r e a w'' := by
  obtain ⟨h1, h2, ι'', st, ts'⟩ := hh
  exact ⟨h1, h2, ι'', st, ts.trans ts'⟩

theorem loop_items {x : Item} {P : Program} {m : Machine} {b : Frame} {k : List Item} {cs : List Frame} {e : Exit} {a : Act} {w : World} (hx : x.plain = true) (he : e ≠ .normal) (h : Arrives P m b (x :: k) cs e a w) : Arrives P m b k cs e a w :=
  Arrives.pass hx (fun _ _ => .inl he) h

set_option maxHeartbeats 1000000 in
theorem sound (S : Sure F) : ∀ k, ExecS F k ∧ ScopeS F k ∧ CallSound F (callF F.c k) := by
  intro k
  induction k with
  | zero =>
    refine ⟨fun f code env h r _ hq => ?_, fun f body cur env h r _ _ hq => ?_, fun f args h v h' hq => ?_⟩
    · unfold exec at hq; cases hq
    · unfold scopeE at hq; cases hq
    · unfold callF at hq; cases hq
  | succ k ih =>
    obtain ⟨ihE, ihS, ihC⟩ := ih
    refine ⟨?_, ?_, ?_⟩
    · intro f code env h r hco hq
      unfold exec at hq
      have hsame : ∀ e, r = (e, env, h) → h.next ≤ r.2.2.next ∧ ∀ (ι : Inj) (tm : Array Value) (w : World), St F ι (F.c.ann f).locals [] env h tm w → After F ι (F.c.ann f).locals h env tm w r e.to ⟨tm, []⟩ w := by
        rintro e rfl
        exact ⟨Nat.le_refl _, fun ι tm w st => ⟨rfl, rfl, ι, st, TStep.refl ..⟩⟩
      cases code with
      | skip =>
        simp only at hq; cases hq
        exact ⟨(hsame _ rfl).1, fun ι tm w st _ => wp_skip ((hsame _ rfl).2 ι tm w st)⟩
      | label l =>
        simp only at hq; cases hq
        exact ⟨(hsame _ rfl).1, fun ι tm w st _ => wp_label ((hsame _ rfl).2 ι tm w st)⟩
      | exit id =>
        simp only at hq; cases hq
        exact ⟨(hsame _ rfl).1, fun ι tm w st _ => wp_exit ((hsame _ rfl).2 ι tm w st)⟩
      | goto l =>
        simp only at hq; cases hq
        exact ⟨(hsame _ rfl).1, fun ι tm w st _ => wp_goto ((hsame _ rfl).2 ι tm w st)⟩
      | ret =>
        simp only at hq; cases hq
        exact ⟨(hsame _ rfl).1, fun ι tm w st _ => wp_ret ((hsame _ rfl).2 ι tm w st)⟩
      | seq a b =>
        simp only [codeOk, Bool.and_eq_true] at hco
        simp only at hq
        obtain ⟨r1, h1, hq⟩ := Res.bind_ok hq
        obtain ⟨n1, s1⟩ := ihE _ _ _ _ _ hco.1 h1
        obtain ⟨e1, env1, hp1⟩ := r1
        have hout : e1 ≠ .normal → r = (e1, env1, hp1) → h.next ≤ r.2.2.next ∧ ∀ (ι : Inj) (tm : Array Value) (w : World), St F ι (F.c.ann f).locals [] env h tm w → Fresh ι h.next r.2.2.next →
            (Code.seq a b).wp F.c.P (After F ι (F.c.ann f).locals h env tm w r) ⟨tm, []⟩ w := by
          rintro hne rfl
          refine ⟨n1, fun ι tm w st fr => wp_seq (wp_mono (wp_of_X (s1 ι tm w st fr)) fun e a w' ha => ?_)⟩
          have := ha.1
          cases e1 with
          | normal => exact absurd rfl hne
          | _ => simp only [AExit.to] at this; subst this; exact ha
        cases e1 with
        | normal =>
          simp only at hq
          obtain ⟨n2, s2⟩ := ihE _ _ _ _ _ hco.2 hq
          refine ⟨Nat.le_trans n1 n2, fun ι tm w st fr => ?_⟩
          refine wp_seq (wp_mono (wp_of_X (s1 ι tm w st (fr.left n2))) fun e a w' ha => ?_)
          obtain ⟨he, hd, ι', st', ts⟩ := ha
          simp only [AExit.to] at he
          subst he
          obtain ⟨tm', ds'⟩ := a
          simp only at hd; subst hd
          exact wp_mono (wp_of_X (s2 ι' tm' w' st' (ts.fresh fr))) fun e a w'' hh => After.trans ts hh
        | ret => simp only at hq; cases hq; exact hout (by simp) rfl
        | exit id => simp only at hq; cases hq; exact hout (by simp) rfl
        | goto l => simp only at hq; cases hq; exact hout (by simp) rfl
      | cond x a b =>
        simp only [codeOk, Bool.and_eq_true] at hco
        simp only at hq
        obtain ⟨v, h1, hq⟩ := Res.bind_ok hq
        split at hq
        rotate_left; · cases hq
        rename_i t
        have hev : ∀ (ι : Inj) (tm : Array Value) (w : World), St F ι (F.c.ann f).locals [] env h tm w → (⟨tm, []⟩ : Act).eval x = .bool t := by
          intro ι tm w st
          exact st.env.opnd_ok (bad := (F.c.ann f).locals) S.ok (fun _ h => h) (fun _ _ h => by cases h) [] x _ h1
        split at hq
        · obtain ⟨n2, s2⟩ := ihE _ _ _ _ _ hco.1 hq
          exact ⟨n2, fun ι tm w st fr => wp_cond_true (hev ι tm w st) (wp_of_X (s2 ι tm w st fr))⟩
        · obtain ⟨n2, s2⟩ := ihE _ _ _ _ _ hco.2 hq
          exact ⟨n2, fun ι tm w st fr => wp_cond_false (hev ι tm w st) (wp_of_X (s2 ι tm w st fr))⟩
      | block id a =>
        simp only [codeOk] at hco
        simp only at hq
        obtain ⟨r1, h1, hq⟩ := Res.bind_ok hq
        obtain ⟨n1, s1⟩ := ihE _ _ _ _ _ hco h1
        obtain ⟨e1, env1, hp1⟩ := r1
        have hr : r.2 = (env1, hp1) := by
          simp only at hq
          split at hq
          · split at hq <;> cases hq <;> rfl
          · cases hq; rfl
        refine ⟨by rw [hr]; exact n1, fun ι tm w st fr => wp_block (wp_mono (wp_of_X (s1 ι tm w st (by rw [hr] at fr; exact fr))) fun e a w' ha => ?_)⟩
        obtain ⟨he, hd, ι', st', ts⟩ := ha
        simp only at he hq
        subst he
        have hfin : ∀ e', e' = r.1.to → After F ι (F.c.ann f).locals h env tm w r e' a w' := by
          intro e' he'
          exact ⟨he', hd, ι', by rw [hr]; exact st', by rw [hr]; exact ts⟩
        cases e1 with
        | normal => simp only at hq; cases hq; exact hfin _ rfl
        | ret => simp only at hq; cases hq; exact hfin _ rfl
        | goto l => simp only at hq; cases hq; exact hfin _ rfl
        | exit id' =>
          simp only at hq
          simp only [AExit.to, Exit.inBlock]
          split at hq
          · rename_i hid; cases hq; rw [if_pos hid]; exact hfin _ rfl
          · rename_i hid; cases hq; rw [if_neg hid]; exact hfin _ rfl
      | loop a =>
        have hco' := hco
        simp only [codeOk] at hco
        simp only at hq
        obtain ⟨r1, h1, hq⟩ := Res.bind_ok hq
        obtain ⟨n1, s1⟩ := ihE _ _ _ _ _ hco h1
        obtain ⟨e1, env1, hp1⟩ := r1
        have hout : e1 ≠ .normal → r = (e1, env1, hp1) → h.next ≤ r.2.2.next ∧ ∀ (ι : Inj) (tm : Array Value) (w : World), St F ι (F.c.ann f).locals [] env h tm w → Fresh ι h.next r.2.2.next →
            wpX F.c.P (Code.loop a) (After F ι (F.c.ann f).locals h env tm w r) ⟨tm, []⟩ w := by
          rintro hne rfl
          refine ⟨n1, fun ι tm w st fr b kk cs => ?_⟩
          obtain ⟨e, a', w', ha, harr⟩ := wp_of_X (s1 ι tm w st fr) b (.inLoop a :: kk) cs
          refine ⟨e, a', w', ha, loop_items rfl ?_ harr⟩
          have := ha.1
          cases e1 with
          | normal => exact absurd rfl hne
          | _ => simp only [AExit.to] at this; subst this; simp
        cases e1 with
        | normal =>
          simp only at hq
          obtain ⟨n2, s2⟩ := ihE _ _ _ _ _ hco' hq
          refine ⟨Nat.le_trans n1 n2, fun ι tm w st fr b kk cs => ?_⟩
          obtain ⟨e, a', w', ha, harr⟩ := wp_of_X (s1 ι tm w st (fr.left n2)) b (.inLoop a :: kk) cs
          obtain ⟨he, hd, ι', st', ts⟩ := ha
          simp only [AExit.to] at he
          subst he
          obtain ⟨tm', ds'⟩ := a'
          simp only at hd; subst hd
          obtain ⟨e2, a2, w2, hq2, harr2⟩ := s2 ι' tm' w' st' (ts.fresh fr) b kk cs
          exact ⟨e2, a2, w2, After.trans ts hq2, .of_steps (Steps.trans harr (.one step_inLoop)) harr2⟩
        | ret => simp only at hq; cases hq; exact hout (by simp) rfl
        | exit id => simp only at hq; cases hq; exact hout (by simp) rfl
        | goto l => simp only at hq; cases hq; exact hout (by simp) rfl
      | scope a =>
        simp only [codeOk] at hco
        simp only at hq
        obtain ⟨n1, s1⟩ := ihS _ _ _ _ _ _ hco hco hq
        refine ⟨n1, fun ι tm w st fr b kk cs => ?_⟩
        obtain ⟨e, a', w', ha, harr⟩ := s1 ι tm w st fr b kk cs
        exact ⟨e, a', w', ha, .of_steps (.one step_scope) harr⟩
      | region id ops draw =>
        simp only [codeOk] at hco
        simp only at hq
        cases draw with
        | false => exact region_text S.ok ihC hco hq
        | true => exact S.draw _ ihC _ id _ _ _ _ hco hq
      | _ => cases hq
    · intro f body cur env h r hb hco hq
      unfold scopeE at hq
      obtain ⟨r1, h1, hq⟩ := Res.bind_ok hq
      obtain ⟨n1, s1⟩ := ihE _ _ _ _ _ hco h1
      obtain ⟨e1, env1, hp1⟩ := r1
      have hout : (∀ l, e1 = .goto l → findLabel body l = none) → r = (e1, env1, hp1) → h.next ≤ r.2.2.next ∧ ∀ (ι : Inj) (tm : Array Value) (w : World), St F ι (F.c.ann f).locals [] env h tm w → Fresh ι h.next r.2.2.next →
          wpS F.c.P body cur (After F ι (F.c.ann f).locals h env tm w r) ⟨tm, []⟩ w := by
        rintro hne rfl
        refine ⟨n1, fun ι tm w st fr b kk cs => ?_⟩
        obtain ⟨e, a', w', ha, harr⟩ := wp_of_X (s1 ι tm w st fr) b (.inScope body :: kk) cs
        refine ⟨e, a', w', ha, ?_⟩
        have he := ha.1
        cases e1 with
        | normal => simp only [AExit.to] at he; subst he; exact Steps.trans harr (.one step_inScope)
        | ret => simp only [AExit.to] at he; subst he; exact harr
        | exit id => simp only [AExit.to] at he; subst he; exact fun k' hk => harr k' (by simp [exitTo, hk])
        | goto l => simp only [AExit.to] at he; subst he; exact fun k' hk => harr k' (by simp [gotoIn, hne l rfl, hk])
      cases e1 with
      | normal => simp only at hq; cases hq; exact hout (by simp) rfl
      | ret => simp only at hq; cases hq; exact hout (by simp) rfl
      | exit id => simp only at hq; cases hq; exact hout (by simp) rfl
      | goto l =>
        simp only at hq
        split at hq
        · rename_i rest hf
          obtain ⟨n2, s2⟩ := ihS _ _ _ _ _ _ hb (findLabel_ok hf hb) hq
          refine ⟨Nat.le_trans n1 n2, fun ι tm w st fr b kk cs => ?_⟩
          obtain ⟨e, a', w', ha, harr⟩ := wp_of_X (s1 ι tm w st (fr.left n2)) b (.inScope body :: kk) cs
          obtain ⟨he, hd, ι', st', ts⟩ := ha
          simp only [AExit.to] at he
          subst he
          obtain ⟨tm', ds'⟩ := a'
          simp only at hd; subst hd
          obtain ⟨e2, a2, w2, hq2, harr2⟩ := s2 ι' tm' w' st' (ts.fresh fr) b kk cs
          exact ⟨e2, a2, w2, After.trans ts hq2, .of_steps (harr _ (by simp [gotoIn, hf])) harr2⟩
        · rename_i hf
          cases hq
          exact hout (fun l' hl => by cases hl; exact hf) rfl
    · intro f args h v h' hq
      unfold callF at hq
      split at hq
      · rename_i g hg
        exact S.prim f g hg _ _ _ _ hq
      · split at hq
        rotate_left; · cases hq
        rename_i fn hok hf
        split at hq
        rotate_left; · cases hq
        rename_i code hb
        obtain ⟨r, h1, hq⟩ := Res.bind_ok hq
        obtain ⟨hco, hname⟩ := S.code f fn code hok hf hb
        obtain ⟨n1, s1⟩ := ihE _ _ _ _ _ hco h1
        obtain ⟨e, env', hp⟩ := r
        have hq' : (e = .normal ∨ e = .ret) ∧ ∃ vs, resultsR F.c (F.c.ann f).locals env' hp fn.results.toList = .ok vs ∧ v = packR vs ∧ h' = hp := by
          cases e with
          | normal => simp only at hq; obtain ⟨vs, h2, hq⟩ := Res.bind_ok hq; cases hq; exact ⟨.inl rfl, vs, h2, rfl, rfl⟩
          | ret => simp only at hq; obtain ⟨vs, h2, hq⟩ := Res.bind_ok hq; cases hq; exact ⟨.inr rfl, vs, h2, rfl, rfl⟩
          | exit id => cases hq
          | goto l => cases hq
        obtain ⟨he, vs, h2, rfl, rfl⟩ := hq'
        refine ⟨n1, fun ι w av rel hav fr => .inr ⟨?_, ?_⟩⟩
        · have hname' : ¬ fn.name = "runtime.NumGoroutine" := by simpa using hname
          simp [callFunc, hf, hname', hb]
        · have st : St F ι (F.c.ann f).locals [] (args ++ List.replicate (fn.ntmps - args.length) .dead) h (av ++ Array.replicate (fn.ntmps - av.size) undef) w ∧ ∀ t us, nth (args ++ List.replicate (fn.ntmps - args.length) .dead) t ≠ .cell us := by
            exact enter_st rel hav fn.ntmps
          obtain ⟨st, hnc⟩ := st
          refine calls_of_wp hf hb (wp_mono (wp_of_X (s1 ι _ w st fr)) fun e' a w' ha => ?_)
          obtain ⟨he', hd, ι', st', ts⟩ := ha
          have hres : ∃ u, (results fn a.tmps).run F.c.P w' = .ok u w' ∧ VRel ι' F.ρ (packR vs) u := results_ok S.ok st' h2
          obtain ⟨u, u1, u2⟩ := hres
          have hnl : ∀ b, ¬ LocB (args ++ List.replicate (fn.ntmps - args.length) .dead) (av ++ Array.replicate (fn.ntmps - av.size) undef) b := by
            rintro b ⟨t, us, h3, _⟩; exact hnc t us h3
          have hout : Out F ι h w (packR vs) h' u w' := by
            refine ⟨ι', u2, st'.rel, ⟨ts.sub, ts.dom, ts.next, ts.keep.mono fun b _ hb => hb.resolve_right (hnl b), ts.own⟩⟩
          rcases he with rfl | rfl
          · simp only [AExit.to] at he'; subst he'; exact ⟨hd, u, u1, hout⟩
          · simp only [AExit.to] at he'; subst he'; exact ⟨hd, u, u1, hout⟩

end
end Go.Proofs.YtofnbldbggddmaaGreatDoor
namespace Go.Proofs.YtofnbldbggddmaaGreatDoor
open Go Go.RowKit

def cnt (f : Nat → Bool) : Nat → Nat
  | 0 => 0
  | n + 1 => cnt f n + (if f n then 0 else 1)

theorem cnt_zero {f : Nat → Bool} : ∀ n, cnt f n = 0 → ∀ k, k < n → f k = true
  | 0, _, k, hk => by omega
  | n + 1, h, k, hk => by
    unfold cnt at h
    by_cases hf : f n = true
    · rw [if_pos hf] at h
      by_cases hkn : k = n
      · rw [hkn]; exact hf
      · exact cnt_zero n h k (by omega)
    · rw [if_neg hf] at h; omega

theorem cnt_upd {f g : Nat → Bool} {i : Nat} (hf : f i = false) (hg : g i = true) (ho : ∀ k, k ≠ i → g k = f k) : ∀ n, (n ≤ i → cnt g n = cnt f n) ∧ (i < n → cnt g n + 1 = cnt f n)
  | 0 => ⟨fun _ => rfl, fun h => by omega⟩
  | n + 1 => by
    obtain ⟨h1, h2⟩ := cnt_upd hf hg ho n
    refine ⟨fun h => ?_, fun h => ?_⟩
    · unfold cnt; rw [h1 (by omega), ho n (by omega)]
    · unfold cnt
      by_cases hn : n = i
      · subst hn; rw [h1 (Nat.le_refl _), hf, hg]; simp
      · rw [ho n hn]
        have := h2 (by omega)
        omega

theorem cnt_le (f : Nat → Bool) : ∀ n, cnt f n ≤ n
  | 0 => Nat.le_refl _
  | n + 1 => by unfold cnt; have := cnt_le f n; split <;> omega

theorem nth_ext {a b : List AVal} (hl : a.length = b.length) (h : ∀ t, nth a t = nth b t) : a = b := by
  refine List.ext_getElem? fun t => ?_
  by_cases ht : t < a.length
  · have := h t
    rw [nth_eq, nth_eq, List.getElem?_eq_getElem ht, List.getElem?_eq_getElem (by omega)] at this
    rw [List.getElem?_eq_getElem ht, List.getElem?_eq_getElem (by omega)]
    simpa using this
  · rw [List.getElem?_eq_none (by omega), List.getElem?_eq_none (by omega)]

section
variable {F : Fix} {C : CallR} {loc : List Nat} {al : List (Nat × Nat)} {bad : List Nat} {ops : Array Oper} {en : Nat → List AVal} {hs ba : Nat → AHeap}
variable {ι0 : Inj} {tm0 : Array Value} {w0 : World}

theorem draw_end {ι : Inj} {tm : Array Value} {w : World} {D : Nat → Prop} {E : List AVal} {p : Nat} (tr : Trace C F.c loc al bad ops (Region.before ops) en hs ba) (d : DI F loc al ops en hs ba ι0 tm0 w0 D ι tm w E p) (hall : ∀ k, k < ops.size → D k) :
    St F ι loc al (en ops.size) (hs ops.size) tm w ∧ TStep ι0 (hs 0) (en 0) tm0 w0 ι (hs ops.size) (en ops.size) tm w := by
  have hlt : ∀ {k : Nat} {op : Oper}, ops[k]? = some op → k < ops.size := fun h => (Array.getElem?_eq_some_iff.1 h).1
  have hE : E = en ops.size := by
    refine nth_ext (by rw [d.elen, len_run tr _ (Nat.le_refl _)]) fun t => ?_
    exact d.eat.names tr (Nat.le_refl _) (fun k o' hk _ _ => hall k hk) (fun j o' _ ho' _ => hlt ho')
  subst hE
  obtain ⟨st, hown⟩ := d.at tr d.ple (Nat.le_refl _) (fun k op h1 h2 h3 h4 => by have := (d.pimp k op h3 h4).2 (hall k h2); omega) (fun k op _ h2 _ _ => hall k h2)
  refine ⟨st, d.sub, d.dom, next_le tr (Nat.zero_le _) (Nat.le_refl _), d.keep, fun b hb => ?_, d.lc⟩
  rcases hown b hb with h | ⟨k, op, e, a1, a2, a3, a4, a5, a6, a7⟩
  · exact d.own b h
  · obtain ⟨x, hx, _⟩ := tr.al_ k op a4 a5
    obtain ⟨e', e1, _, _, _, _, e6⟩ := d.pend k op x a1 a2 a4 a5 hx
    rw [a6] at e1; cases e1
    rw [← a7]; exact .inr e6

theorem mem_ready {listed : Array Bool} {i : Nat} (hs : listed.size = ops.size) : i ∈ Region.ready .any ops listed ↔ ∃ o, ops[i]? = some o ∧ listed.getD i false = false ∧ ∀ e ∈ o.after.toList, Region.binds .any e = true → listed.getD e.on false = true := by
  unfold Region.ready
  simp only [List.mem_filter, List.mem_range, Bool.and_eq_true, Bool.not_eq_true']
  constructor
  · rintro ⟨h1, h2, h3⟩
    have ho : ops[i]? = some ops[i] := by simp [h1]
    refine ⟨ops[i], ho, ?_, fun e he hb => ?_⟩
    · have : i < listed.size := by omega
      simpa [Array.getD_eq_getD_getElem?, this] using h2
    · rw [ho] at h3
      simp only [Option.map_some, Option.getD_some, Array.all_eq_true'] at h3
      have := h3 e (by simpa using he)
      simpa [hb] using this
  · rintro ⟨o, h1, h2, h3⟩
    have hi : i < ops.size := (Array.getElem?_eq_some_iff.1 h1).1
    refine ⟨hi, ?_, ?_⟩
    · have : i < listed.size := by omega
      simpa [Array.getD_eq_getD_getElem?, this] using h2
    · rw [h1]
      simp only [Option.map_some, Option.getD_some, Array.all_eq_true']
      intro e he
      by_cases hb : Region.binds .any e = true
      · simp [h3 e (by simpa using he) hb]
      · simp [hb]

theorem draw_any (ok : F.Ok) (hC : CallSound F C) (hal : ∀ t s, lookN al t = some s → loc.contains s = true) (hb1 : ∀ t, loc.contains t = true → bad.contains t = true) (hb2 : ∀ t s, lookN al t = some s → bad.contains t = true)
    (hops : ∀ o ∈ ops.toList, opOk loc al o = true) (rg : Reg F.c.P loc al ops) (tr : Trace C F.c loc al bad ops (Region.before ops) en hs ba) {Q : Exit → Act → World → Prop}
    (hQ : ∀ ι tm w, St F ι loc al (en ops.size) (hs ops.size) tm w → TStep ι0 (hs 0) (en 0) tm0 w0 ι (hs ops.size) (en ops.size) tm w → Q .normal ⟨tm, []⟩ w) :
    ∀ (fuel : Nat) (listed : Array Bool) (ι : Inj) (tm : Array Value) (w : World) (E : List AVal) (p : Nat), listed.size = ops.size → cnt (fun k => listed.getD k false) ops.size ≤ fuel →
      DI F loc al ops en hs ba ι0 tm0 w0 (fun k => listed.getD k false = true) ι tm w E p →
      (∀ i o, listed.getD i false = true → ops[i]? = some o → ∀ e ∈ o.after.toList, Region.binds .any e = true → listed.getD e.on false = true) →
      wpAny F.c.P .any ops Q fuel listed ⟨tm, []⟩ w := by
  have hend : ∀ (listed : Array Bool) (ι : Inj) (tm : Array Value) (w : World) (E : List AVal) (p : Nat), listed.size = ops.size → Region.ready .any ops listed = [] →
      DI F loc al ops en hs ba ι0 tm0 w0 (fun k => listed.getD k false = true) ι tm w E p → Q .normal ⟨tm, []⟩ w := by
    intro listed ι tm w E p hsz hr d
    have hall : ∀ k, k < ops.size → listed.getD k false = true := by
      intro k
      induction k using Nat.strongRecOn with
      | _ k ih =>
        intro hk
        cases hl : listed.getD k false with
        | true => rfl
        | false =>
          exfalso
          have ho : ops[k]? = some ops[k] := by simp [hk]
          have : k ∈ Region.ready .any ops listed := (mem_ready hsz).2 ⟨_, ho, hl, fun e he hb => by
            have := rg.on k _ ho e he hb
            exact ih e.on this (by omega)⟩
          rw [hr] at this; cases this
    obtain ⟨h1, h2⟩ := draw_end tr d hall
    exact hQ ι tm w h1 h2
  intro fuel
  induction fuel with
  | zero =>
    intro listed ι tm w E p hsz hc d hV
    have hall := cnt_zero _ (Nat.le_zero.1 hc)
    have hr : Region.ready .any ops listed = [] := by
      refine List.eq_nil_iff_forall_not_mem.2 fun i hi => ?_
      obtain ⟨o, h1, h2, _⟩ := (mem_ready hsz).1 hi
      have := hall i (Array.getElem?_eq_some_iff.1 h1).1
      rw [this] at h2; cases h2
    exact ⟨hr, hend listed ι tm w E p hsz hr d⟩
  | succ fuel ih =>
    intro listed ι tm w E p hsz hc d hV
    refine ⟨fun hr => hend listed ι tm w E p hsz hr d, fun i hi => ?_⟩
    obtain ⟨o, h1, h2, h3⟩ := (mem_ready hsz).1 hi
    have hilt : i < ops.size := (Array.getElem?_eq_some_iff.1 h1).1
    have hD : ∀ k, (listed.setIfInBounds i true).getD k false = true ↔ (listed.getD k false = true ∨ k = i) := by
      intro k
      rw [Array.getD_eq_getD_getElem?, Array.getD_eq_getD_getElem?, Array.getElem?_setIfInBounds]
      by_cases hk : i = k
      · subst hk; simp [hsz, hilt]
      · simp [hk, Ne.symm hk]
    have hcnt : cnt (fun k => (listed.setIfInBounds i true).getD k false) ops.size ≤ fuel := by
      have := (cnt_upd (f := fun k => listed.getD k false) (g := fun k => (listed.setIfInBounds i true).getD k false) (i := i) h2 ((hD i).2 (.inr rfl)) (fun k hk => by
        have := hD k
        cases hg : (listed.setIfInBounds i true).getD k false with
        | true => rcases this.1 hg with h | h
                  · exact h.symm
                  · exact absurd h hk
        | false => cases hf : listed.getD k false with
          | true => rw [this.2 (.inl hf)] at hg; cases hg
          | false => rfl) ops.size).2 hilt
      omega
    refine draw_step ok hC hal hb1 hb2 hops rg tr d hV h1 (by rw [h2]; simp) h3 Q _ [] fun tm' w' ⟨ι', E', p', d'⟩ => ?_
    have hDeq : (fun k => listed.getD k false = true ∨ k = i) = fun k => (listed.setIfInBounds i true).getD k false = true := funext fun k => propext (hD k).symm
    rw [hDeq] at d'
    refine ih _ ι' tm' w' E' p' (by simp [hsz]) hcnt d' fun j oj hj hoj e he hb => ?_
    rw [hD] at hj ⊢
    rcases hj with hj | rfl
    · exact .inl (hV j oj hj hoj e he hb)
    · rw [h1] at hoj; cases hoj
      exact .inl (h3 e he hb)

/-- a region whose order is drawn -/
theorem draw_sound (ok : F.Ok) (hm : F.c.P.follows .mixedOrders = true) : DrawSound F := by
  intro C hC an id ops env h r hr hq
  obtain ⟨r1, r2, r3⟩ := regOk_ok hr
  unfold regionK at hq
  simp only at hq
  obtain ⟨T, t1, t2, t3⟩ := runDraw_trace ops.toList 0 _ rfl (Nat.zero_le _) hq
  have tr := trace_of (al := aliasPairs an.locals ops.toList []) hC.mono T (fun j hj => t2 j (Nat.zero_le _) hj) (by rw [t1]; rfl)
  cases t3
  have h0 : (T 0).h = h := by rw [t1]; rfl
  have e0 : (T 0).env = env := by rw [t1]; rfl
  have b0 : (T 0).base = h := by rw [t1]; rfl
  refine ⟨by have := next_le tr (Nat.zero_le ops.size) (Nat.le_refl _); simp only [h0] at this; exact this, fun ι tm w st fr => ?_⟩
  refine wp_region_any hm ?_
  have hg : ∀ k, (Array.replicate ops.size false).getD k false = false := by
    intro k; rw [Array.getD_eq_getD_getElem?, Array.getElem?_replicate]; split <;> rfl
  have st0 := (st.with (aliasPairs an.locals ops.toList [])).drawn (w.drawn + 1)
  refine draw_any (al := aliasPairs an.locals ops.toList []) (bad := (aliasPairs an.locals ops.toList []).map (·.1) ++ an.locals) (ι0 := ι) (tm0 := tm) (w0 := { w with drawn := w.drawn + 1 }) ok hC r2 ?_ ?_ r1 (reg_of (r3 rfl)) tr ?_ ops.size _ ι tm _ env 0 (by simp) (cnt_le _ _) ?_ ?_
  · intro t ht; simp at ht ⊢; exact .inr ht
  · intro t s hl
    have : t ∈ (aliasPairs an.locals ops.toList []).map (·.1) := List.mem_map.2 ⟨(t, s), lookN_mem hl, rfl⟩
    simp only [List.contains_iff_mem, List.mem_append]; exact .inl this
  · intro ι' tm' w' st' ts
    refine ⟨rfl, rfl, ι', (st'.without).clear _, ?_⟩
    have ts' := TStep.clear st'.without (TStep.clear st' ts _) (clearOf an id)
    simp only [h0, e0] at ts'
    exact ⟨ts'.sub, ts'.dom, ts'.next, ⟨ts'.keep.os, ts'.keep.tape, ts'.keep.output, ts'.keep.size, ts'.keep.block⟩, ts'.own, ts'.loc⟩
  · have hno : ∀ k, ¬ (Array.replicate ops.size false).getD k false = true := fun k => by rw [hg k]; simp
    refine ⟨Nat.zero_le _, fun k op _ _ => ⟨fun h => by omega, fun h => absurd h (hno k)⟩, fun k op h => by omega, tr.ba0.symm, by rw [e0], fun t => .inr ⟨fun j o' hj => absurd hj (hno j), by rw [e0]⟩, by simp only [b0]; exact st0, Sub.refl _, fun o => .inr (.inl rfl), fun o h1 h2 => .inl ?_, Keep.refl _ _,
      fun b hb => .inl (by simp only [b0] at hb; simp only [h0]; exact hb), fun b hb => .inl (by rw [e0]; exact hb), fun k op x hD => absurd hD (hno k), fun k k' op op' e e' hD => absurd hD (hno k)⟩
    simp only [b0] at h1
    exact fr o h1 h2
  · intro i o hi
    rw [hg i] at hi; cases hi

end
end Go.Proofs.YtofnbldbggddmaaGreatDoor
namespace Go.Proofs.YtofnbldbggddmaaGreatDoor
open Go Go.RowKit

@[irreducible] def roBase : Nat := 1000000

/-- a place by one number -/
def encP (b o : Nat) : Nat := (b + o) * (b + o) + b
theorem encP_inj {b o b' o' : Nat} (h : encP b o = encP b' o') : b = b' ∧ o = o' := by
  unfold encP at h
  have h1 : ∀ {s b t b' : Nat}, b ≤ s → b' ≤ t → s * s + b = t * t + b' → ¬ s < t := by
    intro s b t b' hb hb' he hlt
    have h2 : (s + 1) * (s + 1) ≤ t * t := Nat.mul_le_mul hlt hlt
    have h3 : (s + 1) * (s + 1) = s * s + 2 * s + 1 := by rw [Nat.add_mul, Nat.mul_add]; omega
    omega
  have h2 := h1 (Nat.le_add_right b o) (Nat.le_add_right b' o') h
  have h3 := h1 (Nat.le_add_right b' o') (Nat.le_add_right b o) h.symm
  have h4 : b + o = b' + o' := by omega
  rw [h4] at h
  omega
noncomputable def decP (r : Nat) : Nat × Nat := @dite _ (∃ p : Nat × Nat, encP p.1 p.2 = r) (Classical.propDecidable _) (fun h => Classical.choose h) (fun _ => (0, 0))
theorem decP_enc (b o : Nat) : decP (encP b o) = (b, o) := by
  unfold decP
  have h : ∃ p : Nat × Nat, encP p.1 p.2 = encP b o := ⟨(b, o), rfl⟩
  rw [dif_pos h]
  have h1 := Classical.choose_spec h
  obtain ⟨h2, h3⟩ := encP_inj h1
  exact Prod.ext h2 h3

/-- a cell of memory, as it is read -/
def absC : Value → AVal
  | .bool b => .bool b
  | .int k n => .int k n
  | .float k b => .float k b
  | .complex k a b => .cplx k a b
  | .string s => .str s.data.toList
  | .pointer none => .nilp
  | .pointer (some ⟨b, o, none⟩) => .rptr (roBase + encP b o) 0
  | .slice none 0 0 => .nils
  | .slice (some ⟨b, o, none⟩) len cap => if len ≤ cap then .rsl (roBase + encP b o) 0 len else .dead
  | .map none => .nilm
  | .nilFunc => .nilf
  | .nilIface => .nili
  | _ => .dead

def absV : Value → AVal
  | .agg cs => if cs.toList.all oneC then .agg (cs.toList.map absC) else .dead
  | v => absC v

noncomputable def placeW (r : Nat) : Nat × Nat := if r < roBase then (r, 0) else decP (r - roBase)
theorem placeW_enc (b o : Nat) : placeW (roBase + encP b o) = (b, o) := by
  have h1 : ¬ roBase + encP b o < roBase := Nat.not_lt.2 (Nat.le_add_right _ _)
  have h2 : roBase + encP b o - roBase = encP b o := Nat.add_sub_cancel_left ..
  simp only [placeW, h1, if_false, h2, decP_enc]

noncomputable def rhoW : RoMap := fun r => some (placeW r)

theorem absC_rel {ι : Inj} (v : Value) : VRel ι rhoW (absC v) v := by
  have hb : ∀ b o, rhoW (roBase + encP b o) = some (b, o) := fun b o => by unfold rhoW; rw [placeW_enc]
  unfold absC
  split
  case h_7 b o => exact ⟨(b, o), hb b o, by simp⟩
  case h_9 b o len cap =>
    split
    · exact ⟨(b, o), o, cap, hb b o, rfl, by assumption, .inl (by simp)⟩
    · trivial
  all_goals first | rfl | trivial

theorem absCs_rel {ι : Inj} : ∀ l : List Value, VRels ι rhoW (l.map absC) l
  | [] => rfl
  | v :: l => ⟨v, l, rfl, absC_rel v, absCs_rel l⟩

theorem absV_rel {ι : Inj} (v : Value) : VRel ι rhoW (absV v) v := by
  unfold absV
  split
  · rename_i cs
    split
    · rename_i h
      exact ⟨cs, rfl, absCs_rel _, fun x hx => List.all_eq_true.1 h x hx⟩
    · trivial
  · exact absC_rel _

theorem absVs_rel {ι : Inj} : ∀ l : List Value, VRels ι rhoW (l.map absV) l
  | [] => rfl
  | v :: l => ⟨v, l, rfl, absV_rel v, absVs_rel l⟩

/-- what memory held at the entry -/
noncomputable def roW (W : World) : Nat → Option (List AVal) := fun r =>
  match W.heap[(placeW r).1]? with
  | some (.cells c _ _) => some (((c.toList.drop (placeW r).2).takeWhile oneC).map absC)
  | _ => none

noncomputable def fixW (c : Cfg) (W : World) : Fix := ⟨{ c with ro := roW W }, rhoW, W⟩

theorem fixW_ok {c : Cfg} {W : World} (he : ∀ t, c.eqOk t = true → c.P.stoodInHeld t = false ∧ c.P.eqGuardType c.P.depth t = false) : (fixW c W).Ok := by
  refine ⟨he, fun g hg => ?_, fun r vs hr => ?_⟩
  · show rhoW g = _
    unfold rhoW placeW roBase
    rw [if_pos hg]
  · have hr : roW W r = some vs := hr
    unfold roW at hr
    split at hr
    · rename_i cs T fr hh
      cases hr
      refine ⟨placeW r, rfl, (Array.getElem?_eq_some_iff.1 hh).1, fun j a hj => ?_⟩
      rw [List.getElem?_map] at hj
      cases hc : ((cs.toList.drop (placeW r).2).takeWhile oneC)[j]? with
      | none => rw [hc] at hj; cases hj
      | some v =>
        rw [hc] at hj; cases hj
        have h1 : oneC v = true := by
          have hm := List.mem_of_getElem? hc
          have hall := List.all_takeWhile (p := oneC) (l := cs.toList.drop (placeW r).2)
          exact List.all_eq_true.1 hall v hm
        have h2 : (cs.toList.drop (placeW r).2)[j]? = some v := by
          have hp := List.takeWhile_prefix oneC (l := cs.toList.drop (placeW r).2)
          obtain ⟨t, ht⟩ := hp
          rw [← ht, List.getElem?_append_left (List.getElem?_eq_some_iff.1 hc).1]; exact hc
        refine ⟨v, ?_, h1, absC_rel v⟩
        rw [List.getElem?_drop] at h2
        have hc' : cs[(placeW r).2 + j]? = some v := by simpa using h2
        simp [World.cell?, fixW, hh, hc']
    · cases hr

/-- what must be so of a program's reading, whatever the world -/
structure SureC (c : Cfg) : Prop where
  eqs : ∀ t, c.eqOk t = true → c.P.stoodInHeld t = false ∧ c.P.eqGuardType c.P.depth t = false
  code : ∀ f fn code, (c.ann f).ok = true → c.P.funcs[f]? = some fn → fn.body = some code → codeOk c.P (c.ann f).locals code = true ∧ (fn.name == "runtime.NumGoroutine") = false
  prim : ∀ (F : Fix), F.c.P = c.P → F.Ok → ∀ f g, c.prim f = some g → ∀ args h v h', g args h = .ok (v, h') → h.next ≤ h'.next ∧
    ∀ ι w (av : Array Value), Rel F ι h w → VRels ι F.ρ args av.toList → Fresh ι h.next h'.next → CallTo F.c.P f av w (Out F ι h w v h')
  mixed : c.P.follows .mixedOrders = true

theorem SureC.sure {c : Cfg} (s : SureC c) (W : World) : Sure (fixW c W) :=
  ⟨fixW_ok s.eqs, s.code, s.prim (fixW c W) rfl (fixW_ok s.eqs), draw_sound (fixW_ok s.eqs) s.mixed⟩

def heap0 : AHeap := ⟨.nil, 0⟩

/-- a call from outside -/
theorem entry {c : Cfg} (s : SureC c) {W : World} {k f : Nat} {fn : Func} {code : Code} {args : Array Value} {v : AVal} {h' : AHeap} (hf : c.P.funcs[f]? = some fn) (hb : fn.body = some code) (hname : (fn.name == "runtime.NumGoroutine") = false)
    (hq : callF { c with ro := roW W } k f (args.toList.map absV) heap0 = .ok (v, h')) :
    Calls c.P f args W fun e w' => ∃ u ι, e = .returned u ∧ VRel ι rhoW v u ∧ Below W.heap.size W w' := by
  obtain ⟨_, _, hC⟩ := sound (s.sure W) k
  obtain ⟨_, hc⟩ := hC f (args.toList.map absV) heap0 v h' hq
  have hrel : Rel (fixW c W) (fun _ => none) heap0 W := by
    have hno : ∀ o x, heap0.get o ≠ some x := by intro o x h; cases h
    exact ⟨Below.refl _ _, fun o x h => absurd h (hno o x), fun o o' x x' e e' h => absurd h (hno o x), fun o x h => absurd h (hno o x)⟩
  have hto := hc (fun _ => none) W args hrel (absVs_rel _) (fun _ _ _ => rfl)
  have hrun : (callFunc f args).run c.P W = .ok (.enter f args) W := by
    have hname' : ¬ fn.name = "runtime.NumGoroutine" := by simpa using hname
    simp [callFunc, hf, hname', hb]
  rcases hto with ⟨u, w', h1, _⟩ | ⟨_, h2⟩
  · have h1 : (callFunc f args).run c.P W = .ok (.value u) w' := h1
    rw [hrun] at h1; cases h1
  · refine Calls.mono h2 fun e w' he => ?_
    cases e with
    | returned u =>
      obtain ⟨ι, h3, h4, _⟩ := he
      exact ⟨u, ι, rfl, h3, h4.below⟩
    | panicked _ => exact he.elim
    | outgrown => exact he.elim

/-- the row's end, where the arguments read as they did -/
theorem post_below {H : Type} {enc : TypeId × Value → H} {P : Program} {f : Func} {s : ChangeSpec} {apart fresh handsOn : Bool} {W W' : World} {args : Array Value} {v : Value} {ds gs : List (DataW H)} {before pa pv : List MemPlace}
    (hW : DataW.Whole enc P f.params.toList s.vars apart W args.toList ds gs before)
    (hres : ∀ (b : Nat) (sp : Nat → Bool) (hd : Bool), DataW.TrodAll enc P W' b sp hd f.resultTypes.toList (v.resultList f.resultTypes.size) (s.fn H (ds ++ gs)).results [])
    (hargs : DataW.TrodAll enc P W' 0 (fun b => decide (b < W.heap.size)) true f.params.toList args.toList (s.fn H (ds ++ gs)).args pa)
    (hvars : DataW.TrodVars enc P W' (fun b => decide (b < W.heap.size)) s.vars (s.fn H (ds ++ gs)).vars pv)
    (hb : Below W.heap.size W W') : s.post enc P f apart fresh handsOn false W args v W' :=
  ⟨ds, gs, before, [], pa, pv, hW, hres _ _ _, hargs, hvars, hb.frame _, fun h => by cases h⟩

end Go.Proofs.YtofnbldbggddmaaGreatDoor
namespace Go.Proofs.YtofnbldbggddmaaGreatDoor
open Go Go.RowKit

def annOf : List (Nat × FnAnn) → Nat → FnAnn
  | [], _ => {}
  | x :: l, f => match Nat.beq x.1 f with
    | true => x.2
    | false => annOf l f

theorem annOf_mem : ∀ {l : List (Nat × FnAnn)} {f : Nat}, (annOf l f).ok = true → ∃ x ∈ l, x.1 = f ∧ annOf l f = x.2
  | [], f, h => by cases h
  | x :: l, f, h => by
    unfold annOf at h ⊢
    cases hb : Nat.beq x.1 f with
    | true => exact ⟨x, by simp, Nat.eq_of_beq_eq_true hb, rfl⟩
    | false =>
      rw [hb] at h
      obtain ⟨y, h1, h2, h3⟩ := annOf_mem (l := l) h
      exact ⟨y, by simp [h1], h2, h3⟩

/-- the check of one function -/
def fnOk (P : Program) (x : Nat × FnAnn) : Bool :=
  match P.funcs[x.1]? with
  | some fn => match fn.body with
    | some code => codeOk P x.2.locals code && !(fn.name == "runtime.NumGoroutine")
    | none => true
  | none => true

theorem code_of {P : Program} {l : List (Nat × FnAnn)} (h : l.all (fnOk P) = true) : ∀ f fn code, (annOf l f).ok = true → P.funcs[f]? = some fn → fn.body = some code → codeOk P (annOf l f).locals code = true ∧ (fn.name == "runtime.NumGoroutine") = false := by
  intro f fn code h1 h2 h3
  obtain ⟨x, x1, x2, x3⟩ := annOf_mem h1
  have := List.all_eq_true.1 h x x1
  unfold fnOk at this
  rw [x2, h2] at this
  simp only [h3, Bool.and_eq_true, Bool.not_eq_true'] at this
  rw [x3]; exact this

end Go.Proofs.YtofnbldbggddmaaGreatDoor
