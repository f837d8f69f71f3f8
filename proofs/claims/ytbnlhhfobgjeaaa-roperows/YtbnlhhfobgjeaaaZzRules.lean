/-
  Rules for what code leads to.
-/
import Derived.Test.YtbnlhhfobgjeaaaZzMono
set_option linter.all false
namespace Go.Proofs.Ytbnlhhfobgjeaaa
open Go Go.RowKit

def Ev (c : Cfg) (f : Nat) (args : List AVal) (h : AHeap) (Q : AVal → AHeap → Prop) : Prop := ∃ k v h', callF c k f args h = .ok (v, h') ∧ Q v h'
def Xv (c : Cfg) (f : Nat) (code : Code) (env : List AVal) (h : AHeap) (Q : AExit → List AVal → AHeap → Prop) : Prop := ∃ k e env' h', exec c k f code env h = .ok (e, env', h') ∧ Q e env' h'
def Xs (c : Cfg) (f : Nat) (body cur : Code) (env : List AVal) (h : AHeap) (Q : AExit → List AVal → AHeap → Prop) : Prop := ∃ k e env' h', scopeE c k f body cur env h = .ok (e, env', h') ∧ Q e env' h'

def ansP (c : Cfg) : Ans Prop where
  bnd := fun m K => ∃ a, m = .ok a ∧ K a
  call := fun b f args h K => match b with
    | true => Ev c f args h K
    | false => K (.tuple []) h
  chk := fun r v K => sameRes r v = true ∧ K

theorem exec_le {c : Cfg} {f : Nat} {code : Code} {env : List AVal} {h : AHeap} {r : AExit × List AVal × AHeap} : ∀ {k k' : Nat}, k ≤ k' → exec c k f code env h = .ok r → exec c k' f code env h = .ok r := by
  intro k k' hk
  induction hk with
  | refl => exact id
  | step _ ih => exact fun h => (mono c _).1 _ _ _ _ _ (ih h)

theorem scope_le {c : Cfg} {f : Nat} {body cur : Code} {env : List AVal} {h : AHeap} {r : AExit × List AVal × AHeap} : ∀ {k k' : Nat}, k ≤ k' → scopeE c k f body cur env h = .ok r → scopeE c k' f body cur env h = .ok r := by
  intro k k' hk
  induction hk with
  | refl => exact id
  | step _ ih => exact fun h => (mono c _).2.1 _ _ _ _ _ _ (ih h)

theorem call_le {c : Cfg} : ∀ {k k' : Nat}, k ≤ k' → CLe (callF c k) (callF c k') := by
  intro k k' hk
  induction hk with
  | refl => exact fun _ _ _ _ h => h
  | step _ ih => exact fun f args h r hq => (mono c _).2.2 _ _ _ _ (ih f args h r hq)

section
variable {c : Cfg} {loc : List Nat} {al : List (Nat × Nat)} {bad : List Nat} {ops : Array Oper} {bef : Array Nat}

/-- with fuel enough a step leads to a state -/
def Leads (c : Cfg) (run : CallR → {α : Type} → (RS → Res α) → Res α) (K : RS → Prop) : Prop := ∃ k s', K s' ∧ ∀ k', k ≤ k' → ∀ (α : Type) (K' : RS → Res α), run (callF c k') K' = K' s'

theorem stepK_P {o : Oper} {s : RS} {K : RS → Prop} (h : stepK (ansP c) c loc al bad ops o s K) : Leads c (fun C {α} K' => stepK (ansR C α) c loc al bad ops o s K') K := by
  have done : ∀ {s' : RS}, (∀ (C : CallR) (α : Type) (K' : RS → Res α), stepK (ansR C α) c loc al bad ops o s K' = K' s') → K s' → Leads c (fun C {α} K' => stepK (ansR C α) c loc al bad ops o s K') K :=
    fun {s'} h1 h2 => ⟨0, s', h2, fun k' _ α K' => h1 _ α K'⟩
  unfold stepK at h
  cases hc : callOf o with
  | some x =>
    rw [hc] at h
    simp only at h
    cases hg : o.guard with
    | none =>
      rw [hg] at h
      obtain ⟨fa, h1, k, v, h', h2, h3⟩ := h
      refine ⟨k, _, h3, fun k' hk α K' => ?_⟩
      unfold stepK
      rw [hc]; simp only [hg, ansR]
      rw [h1, Res.ok_bind, call_le hk _ _ _ _ h2]; rfl
    | some g =>
      rw [hg] at h
      obtain ⟨b, h0, fa, h1, h⟩ := h
      cases b with
      | true =>
        obtain ⟨k, v, h', h2, h3⟩ := h
        refine ⟨k, _, h3, fun k' hk α K' => ?_⟩
        unfold stepK
        rw [hc]; simp only [hg, ansR]
        rw [h0, Res.ok_bind]
        simp only at h1 ⊢
        rw [h1, Res.ok_bind, call_le hk _ _ _ _ h2]; rfl
      | false =>
        refine done (fun C α K' => ?_) h
        unfold stepK
        rw [hc]; simp only [hg, ansR]
        rw [h0, Res.ok_bind]
        simp only at h1 ⊢
        rw [h1, Res.ok_bind]
  | none =>
    rw [hc] at h
    simp only at h
    cases hh : how loc al o with
    | plain =>
      rw [hh] at h
      obtain ⟨r, h1, h2⟩ := h
      refine done (fun C α K' => ?_) h2
      unfold stepK
      rw [hc, hh]; simp only [ansR]; rw [h1, Res.ok_bind]
    | alias_ t sl =>
      rw [hh] at h
      obtain ⟨r, h1, h2⟩ := h
      refine done (fun C α K' => ?_) h2
      unfold stepK
      rw [hc, hh]; simp only [ansR]; rw [h1, Res.ok_bind]
    | load_ t sl =>
      rw [hh] at h
      obtain ⟨r, h1, h2⟩ := h
      refine done (fun C α K' => ?_) h2
      unfold stepK
      rw [hc, hh]; simp only [ansR]; rw [h1, Res.ok_bind]
    | make d =>
      rw [hh] at h
      simp only at h
      cases hg : o.guard with
      | some g => rw [hg] at h; obtain ⟨_, h1, _⟩ := h; cases h1
      | none =>
        rw [hg] at h
        obtain ⟨r, h1, h2⟩ := h
        refine done (fun C α K' => ?_) h2
        unfold stepK
        rw [hc, hh]; simp only [hg, ansR]; rw [h1, Res.ok_bind]
    | store_ t sl =>
      rw [hh] at h
      simp only at h
      cases hg : o.guard with
      | some g => rw [hg] at h; obtain ⟨_, h1, _⟩ := h; cases h1
      | none =>
        cases hd : o.dst with
        | some d => rw [hg, hd] at h; obtain ⟨_, h1, _⟩ := h; cases h1
        | none =>
          rw [hg, hd] at h
          obtain ⟨r, h1, h2⟩ := h
          refine done (fun C α K' => ?_) h2
          unfold stepK
          rw [hc, hh]; simp only [hg, hd, ansR]; rw [h1, Res.ok_bind]

theorem runText_P {K : RS → Prop} : ∀ (l : List Oper) (s : RS), runText (ansP c) c loc al bad ops l s K → Leads c (fun C {α} K' => runText (ansR C α) c loc al bad ops l s K') K
  | [], s, h => ⟨0, s, h, fun _ _ _ _ => rfl⟩
  | o :: l, s, h => by
    simp only [runText] at h
    obtain ⟨k1, s1, h1, h2⟩ := stepK_P h
    obtain ⟨k2, s2, h3, h4⟩ := runText_P l s1 h1
    refine ⟨max k1 k2, s2, h3, fun k' hk α K' => ?_⟩
    simp only [runText]
    exact (h2 k' (by omega) α _).trans (h4 k' (by omega) α K')

theorem chkHist_P {i : Nat} {rd : AHeap → Res AVal} {v : AVal} {K : Prop} : ∀ {l : List (Nat × AHeap)}, chkHist (ansP c) bef i rd v l K → K ∧ ∀ (C : CallR) (α : Type) (K' : Res α), chkHist (ansR C α) bef i rd v l K' = K'
  | [], h => ⟨h, fun _ _ _ => rfl⟩
  | (j, g) :: l, h => by
    unfold chkHist at h
    cases hb : befB bef j i with
    | true =>
      rw [hb] at h
      obtain ⟨h1, h2⟩ := chkHist_P (l := l) h
      exact ⟨h1, fun C α K' => by unfold chkHist; rw [hb]; exact h2 C α K'⟩
    | false =>
      rw [hb] at h
      obtain ⟨h0, h⟩ := h
      obtain ⟨h1, h2⟩ := chkHist_P (l := l) h
      exact ⟨h1, fun C α K' => by unfold chkHist; rw [hb]; simp only [ansR, h0]; exact h2 C α K'⟩

theorem chkReads_P {i : Nat} {g : AHeap} {K : Prop} : ∀ {l : List (Nat × (AHeap → Res AVal) × AVal)}, chkReads (ansP c) bef i g l K → K ∧ ∀ (C : CallR) (α : Type) (K' : Res α), chkReads (ansR C α) bef i g l K' = K'
  | [], h => ⟨h, fun _ _ _ => rfl⟩
  | (j, rd, v) :: l, h => by
    unfold chkReads at h
    cases hb : befB bef j i with
    | true =>
      rw [hb] at h
      obtain ⟨h1, h2⟩ := chkReads_P (l := l) h
      exact ⟨h1, fun C α K' => by unfold chkReads; rw [hb]; exact h2 C α K'⟩
    | false =>
      rw [hb] at h
      obtain ⟨h0, h⟩ := h
      obtain ⟨h1, h2⟩ := chkReads_P (l := l) h
      exact ⟨h1, fun C α K' => by unfold chkReads; rw [hb]; simp only [ansR, h0]; exact h2 C α K'⟩

theorem stepD_P {i : Nat} {o : Oper} {s : RS} {K : RS → Prop} (h : stepD (ansP c) c loc al bad ops bef i o s K) : Leads c (fun C {α} K' => stepD (ansR C α) c loc al bad ops bef i o s K') K := by
  unfold stepD at h
  unfold Leads stepD
  cases hk : kindOf c.P loc al o with
  | read =>
    rw [hk] at h
    obtain ⟨v, h1, h2⟩ := h
    obtain ⟨h3, h4⟩ := chkHist_P h2
    refine ⟨0, _, h3, fun k' _ α K' => ?_⟩
    simp only [ansR]; rw [h1, Res.ok_bind]; exact h4 _ α _
  | imp =>
    rw [hk] at h
    obtain ⟨k, s1, h1, h2⟩ := stepK_P h
    obtain ⟨h3, h4⟩ := chkReads_P h1
    refine ⟨k, _, h3, fun k' hk' α K' => ?_⟩
    simp only
    exact (h2 k' hk' α _).trans (h4 _ α _)
  | pure =>
    rw [hk] at h
    exact stepK_P h
  | alloc =>
    rw [hk] at h
    simp only at h ⊢
    cases hg : o.guard with
    | some g => rw [hg] at h; obtain ⟨_, h1, _⟩ := h; cases h1
    | none => rw [hg] at h; exact stepK_P h

theorem runDraw_P {K : RS → Prop} : ∀ (l : List Oper) (i : Nat) (s : RS), runDraw (ansP c) c loc al bad ops bef i l s K → Leads c (fun C {α} K' => runDraw (ansR C α) c loc al bad ops bef i l s K') K
  | [], i, s, h => ⟨0, s, h, fun _ _ _ _ => rfl⟩
  | o :: l, i, s, h => by
    simp only [runDraw] at h
    obtain ⟨k1, s1, h1, h2⟩ := stepD_P h
    obtain ⟨k2, s2, h3, h4⟩ := runDraw_P l (i + 1) s1 h1
    refine ⟨max k1 k2, s2, h3, fun k' hk α K' => ?_⟩
    simp only [runDraw]
    exact (h2 k' (by omega) α _).trans (h4 k' (by omega) α K')

end

section
variable {c : Cfg} {f : Nat} {env : List AVal} {h : AHeap} {Q : AExit → List AVal → AHeap → Prop}

theorem Xv.region {id : Nat} {ops : Array Oper} {draw : Bool} (hq : regionK (ansP c) c (c.ann f) id ops draw env h fun env h => Q .normal env h) : Xv c f (.region id ops draw) env h Q := by
  unfold regionK at hq
  cases draw with
  | false =>
    obtain ⟨k, s', h1, h2⟩ := runText_P _ _ hq
    refine ⟨k + 1, .normal, _, _, ?_, h1⟩
    unfold exec regionK
    exact h2 k (Nat.le_refl _) _ _
  | true =>
    obtain ⟨k, s', h1, h2⟩ := runDraw_P _ _ _ hq
    refine ⟨k + 1, .normal, _, _, ?_, h1⟩
    unfold exec regionK
    exact h2 k (Nat.le_refl _) _ _

theorem Xv.skip (hq : Q .normal env h) : Xv c f .skip env h Q := ⟨1, _, _, _, rfl, hq⟩
theorem Xv.label {l : Nat} (hq : Q .normal env h) : Xv c f (.label l) env h Q := ⟨1, _, _, _, rfl, hq⟩
theorem Xv.exit {id : Nat} (hq : Q (.exit id) env h) : Xv c f (.exit id) env h Q := ⟨1, _, _, _, rfl, hq⟩
theorem Xv.goto {l : Nat} (hq : Q (.goto l) env h) : Xv c f (.goto l) env h Q := ⟨1, _, _, _, rfl, hq⟩
theorem Xv.ret (hq : Q .ret env h) : Xv c f .ret env h Q := ⟨1, _, _, _, rfl, hq⟩

theorem Xv.mono {code : Code} {Q' : AExit → List AVal → AHeap → Prop} (hx : Xv c f code env h Q) (hq : ∀ e env h, Q e env h → Q' e env h) : Xv c f code env h Q' := by
  obtain ⟨k, e, env', h', h1, h2⟩ := hx
  exact ⟨k, e, env', h', h1, hq _ _ _ h2⟩

def Xthen (N : List AVal → AHeap → Prop) (Q : AExit → List AVal → AHeap → Prop) : AExit → List AVal → AHeap → Prop
  | .normal, env, h => N env h
  | e, env, h => Q e env h

theorem Xv.seq {a b : Code} (hq : Xv c f a env h (Xthen (fun env h => Xv c f b env h Q) Q)) : Xv c f (.seq a b) env h Q := by
  obtain ⟨k, e, env', h', h1, h2⟩ := hq
  cases e with
  | normal =>
    obtain ⟨k2, e2, env2, h2', h3, h4⟩ := h2
    refine ⟨max k k2 + 1, e2, env2, h2', ?_, h4⟩
    unfold exec
    simp only
    rw [exec_le (by omega) h1, Res.ok_bind]
    exact exec_le (by omega) h3
  | _ => refine ⟨k + 1, _, env', h', ?_, h2⟩; unfold exec; simp only; rw [h1, Res.ok_bind]

theorem Xv.cond {x : Operand} {a b : Code} {t : Bool} (ht : opnd (c.ann f).locals env x = .ok (.bool t)) (hq : Xv c f (match t with | true => a | false => b) env h Q) : Xv c f (.cond x a b) env h Q := by
  obtain ⟨k, e, env', h', h1, h2⟩ := hq
  refine ⟨k + 1, e, env', h', ?_, h2⟩
  unfold exec
  simp only
  rw [ht, Res.ok_bind]
  cases t <;> exact h1

def Xblock (id : Nat) (Q : AExit → List AVal → AHeap → Prop) : AExit → List AVal → AHeap → Prop
  | .exit id', env, h => if id' = id then Q .normal env h else Q (.exit id') env h
  | e, env, h => Q e env h

theorem Xv.block {id : Nat} {a : Code} (hq : Xv c f a env h (Xblock id Q)) : Xv c f (.block id a) env h Q := by
  obtain ⟨k, e, env', h', h1, h2⟩ := hq
  cases e with
  | exit id' =>
    simp only [Xblock] at h2
    by_cases hid : id' = id
    · rw [if_pos hid] at h2
      refine ⟨k + 1, _, env', h', ?_, h2⟩; unfold exec; simp only; rw [h1, Res.ok_bind]; simp [hid]
    · rw [if_neg hid] at h2
      refine ⟨k + 1, _, env', h', ?_, h2⟩; unfold exec; simp only; rw [h1, Res.ok_bind]; simp [hid]
  | _ => refine ⟨k + 1, _, env', h', ?_, h2⟩; unfold exec; simp only; rw [h1, Res.ok_bind]

theorem Xv.loop {a : Code} (I : Nat → List AVal → AHeap → Prop) (hI : ∀ n env h, I n env h → Xv c f a env h (Xthen (fun env' h' => ∃ m, m < n ∧ I m env' h') Q)) :
    ∀ (n : Nat) (env : List AVal) (h : AHeap), I n env h → Xv c f (.loop a) env h Q := by
  intro n
  induction n using Nat.strongRecOn with
  | _ n ih =>
    intro env h hi
    obtain ⟨k, e, env', h', h1, h2⟩ := hI n env h hi
    cases e with
    | normal =>
      obtain ⟨m, hm, hi'⟩ := h2
      obtain ⟨k2, e2, env2, h2', h3, h4⟩ := ih m hm env' h' hi'
      refine ⟨max k k2 + 1, e2, env2, h2', ?_, h4⟩
      unfold exec
      simp only
      rw [exec_le (by omega) h1, Res.ok_bind]
      exact exec_le (by omega) h3
    | _ => refine ⟨k + 1, _, env', h', ?_, h2⟩; unfold exec; simp only; rw [h1, Res.ok_bind]

def Xscope (c : Cfg) (f : Nat) (body : Code) (Q : AExit → List AVal → AHeap → Prop) : AExit → List AVal → AHeap → Prop
  | .goto l, env, h => match findLabel body l with
    | some rest => Xs c f body rest env h Q
    | none => Q (.goto l) env h
  | e, env, h => Q e env h

theorem Xs.of {body cur : Code} (hq : Xv c f cur env h (Xscope c f body Q)) : Xs c f body cur env h Q := by
  obtain ⟨k, e, env', h', h1, h2⟩ := hq
  cases e with
  | goto l =>
    simp only [Xscope] at h2
    cases hl : findLabel body l with
    | some rest =>
      rw [hl] at h2
      obtain ⟨k2, e2, env2, h2', h3, h4⟩ := h2
      refine ⟨max k k2 + 1, e2, env2, h2', ?_, h4⟩
      unfold scopeE
      rw [exec_le (by omega) h1, Res.ok_bind]
      simp only [hl]
      exact scope_le (by omega) h3
    | none =>
      rw [hl] at h2
      refine ⟨k + 1, _, env', h', ?_, h2⟩; unfold scopeE; rw [h1, Res.ok_bind]; simp [hl]
  | _ => refine ⟨k + 1, _, env', h', ?_, h2⟩; unfold scopeE; rw [h1, Res.ok_bind]

theorem Xv.scope {a : Code} (hq : Xs c f a a env h Q) : Xv c f (.scope a) env h Q := by
  obtain ⟨k, e, env', h', h1, h2⟩ := hq
  exact ⟨k + 1, e, env', h', h1, h2⟩

theorem Ev.mono {args : List AVal} {R R' : AVal → AHeap → Prop} (hx : Ev c f args h R) (hq : ∀ v h, R v h → R' v h) : Ev c f args h R' := by
  obtain ⟨k, v, h', h1, h2⟩ := hx
  exact ⟨k, v, h', h1, hq _ _ h2⟩

def Xret (c : Cfg) (f : Nat) (fn : Func) (R : AVal → AHeap → Prop) : AExit → List AVal → AHeap → Prop
  | .normal, env, h | .ret, env, h => ∃ vs, resultsR c (c.ann f).locals env h fn.results.toList = .ok vs ∧ R (packR vs) h
  | _, _, _ => False

theorem Ev.of {args : List AVal} {R : AVal → AHeap → Prop} {fn : Func} {code : Code} (hp : c.prim f = none) (hok : (c.ann f).ok = true) (hf : c.P.funcs[f]? = some fn) (hb : fn.body = some code)
    (hq : Xv c f code (args ++ List.replicate (fn.ntmps - args.length) .dead) h (Xret c f fn R)) : Ev c f args h R := by
  obtain ⟨k, e, env', h', h1, h2⟩ := hq
  have hfin : ∀ vs, (e = .normal ∨ e = .ret) → resultsR c (c.ann f).locals env' h' fn.results.toList = .ok vs → callF c (k + 1) f args h = .ok (packR vs, h') := by
    intro vs he hv
    unfold callF
    rw [hp, hok, hf]
    simp only [hb]
    rw [h1, Res.ok_bind]
    rcases he with rfl | rfl <;> simp [hv]
  cases e with
  | normal => obtain ⟨vs, h3, h4⟩ := h2; exact ⟨k + 1, _, _, hfin vs (.inl rfl) h3, h4⟩
  | ret => obtain ⟨vs, h3, h4⟩ := h2; exact ⟨k + 1, _, _, hfin vs (.inr rfl) h3, h4⟩
  | exit id => exact h2.elim
  | goto l => exact h2.elim

end
end Go.Proofs.Ytbnlhhfobgjeaaa
