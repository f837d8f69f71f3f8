/-
  A part of the proof of ConsoleParses, over the seat YtofnbldbggddmaaGreatDoor: for every input the law returns true, and the input reads as it did.
-/
import Derived.Test.YtofnbldbggddmaaGreatDoorGd
import Derived.KernelRfl
import Derived.ChangeArms
import Derived.OpenShut
import Derived.WideShapes
import Derived.ChangeMaps5
import Derived.Carry
import Derived.Lib.Overlaps
import Derived.Lib.BytesEntry
import Derived.Shelf.Strings.Builder1
import Derived.Test.YtofnbldbggddmaaGreatDoorChecked
set_option linter.all false
namespace Go.Proofs.YtofnbldbggddmaaGreatDoor
open Go Go.RowKit

def CLe (C C' : CallR) : Prop := ∀ f args h r, C f args h = .ok r → C' f args h = .ok r

section
variable {C C' : CallR} {c : Cfg} {loc : List Nat} {al : List (Nat × Nat)} {bad : List Nat} {ops : Array Oper} {bef : Array Nat}

theorem step1_mono (hC : CLe C C') {o : Oper} {s s' : RS} (hq : step1 C c loc al bad ops o s = .ok s') : step1 C' c loc al bad ops o s = .ok s' := by
  unfold step1 stepK at hq ⊢
  split at hq
  · split at hq
    · simp only [ansR] at hq ⊢
      obtain ⟨fa, h1, hq⟩ := Res.bind_ok hq
      obtain ⟨r, h2, hq⟩ := Res.bind_ok hq
      rw [h1, Res.ok_bind, hC _ _ _ _ h2]; exact hq
    · simp only [ansR] at hq ⊢
      obtain ⟨b, h0, hq⟩ := Res.bind_ok hq
      obtain ⟨fa, h1, hq⟩ := Res.bind_ok hq
      rw [h0, Res.ok_bind, h1, Res.ok_bind]
      cases b with
      | true =>
        simp only at hq ⊢
        obtain ⟨r, h2, hq⟩ := Res.bind_ok hq
        rw [hC _ _ _ _ h2]; exact hq
      | false => exact hq
  · exact hq

theorem stepK_mono (hC : CLe C C') {α : Type} {o : Oper} {s : RS} {K K' : RS → Res α} {r : α} (hK : ∀ s', K s' = .ok r → K' s' = .ok r) (hq : stepK (ansR C α) c loc al bad ops o s K = .ok r) :
    stepK (ansR C' α) c loc al bad ops o s K' = .ok r := by
  rw [stepK_eq] at hq ⊢
  obtain ⟨s', h1, h2⟩ := Res.bind_ok hq
  rw [step1_mono hC h1]; exact hK s' h2

theorem runText_mono (hC : CLe C C') {α : Type} {K : RS → Res α} {r : α} : ∀ (l : List Oper) (s : RS), runText (ansR C α) c loc al bad ops l s K = .ok r → runText (ansR C' α) c loc al bad ops l s K = .ok r
  | [], _, h => h
  | o :: l, s, h => by
    simp only [runText] at h ⊢
    exact stepK_mono hC (fun s' h' => runText_mono hC l s' h') h

theorem chkHist_mono {α : Type} {i : Nat} {rd : AHeap → Res AVal} {v : AVal} {K K' : Res α} {r : α} (hK : K = .ok r → K' = .ok r) : ∀ (l : List (Nat × AHeap)), chkHist (ansR C α) bef i rd v l K = .ok r → chkHist (ansR C' α) bef i rd v l K' = .ok r
  | [], h => hK h
  | (j, g) :: l, h => by
    unfold chkHist at h ⊢
    split at h
    · exact chkHist_mono hK l h
    · simp only [ansR] at h ⊢
      split at h
      · exact chkHist_mono hK l h
      · cases h

theorem chkReads_mono {α : Type} {i : Nat} {g : AHeap} {K K' : Res α} {r : α} (hK : K = .ok r → K' = .ok r) : ∀ (l : List (Nat × (AHeap → Res AVal) × AVal)), chkReads (ansR C α) bef i g l K = .ok r → chkReads (ansR C' α) bef i g l K' = .ok r
  | [], h => hK h
  | (j, rd, v) :: l, h => by
    unfold chkReads at h ⊢
    split at h
    · exact chkReads_mono hK l h
    · simp only [ansR] at h ⊢
      split at h
      · exact chkReads_mono hK l h
      · cases h

theorem stepD_mono (hC : CLe C C') {α : Type} {i : Nat} {o : Oper} {s : RS} {K K' : RS → Res α} {r : α} (hK : ∀ s', K s' = .ok r → K' s' = .ok r) (hq : stepD (ansR C α) c loc al bad ops bef i o s K = .ok r) :
    stepD (ansR C' α) c loc al bad ops bef i o s K' = .ok r := by
  unfold stepD at hq ⊢
  split at hq
  · simp only [ansR] at hq ⊢
    obtain ⟨v, h1, hq⟩ := Res.bind_ok hq
    rw [h1, Res.ok_bind]
    exact chkHist_mono (C := C) (C' := C') (hK _) _ hq
  · exact stepK_mono hC (fun s' h' => chkReads_mono (hK _) _ h') hq
  · exact stepK_mono hC hK hq
  · split at hq
    · exact stepK_mono hC hK hq
    · cases hq

theorem runDraw_mono (hC : CLe C C') {α : Type} {K : RS → Res α} {r : α} : ∀ (l : List Oper) (i : Nat) (s : RS), runDraw (ansR C α) c loc al bad ops bef i l s K = .ok r → runDraw (ansR C' α) c loc al bad ops bef i l s K = .ok r
  | [], _, _, h => h
  | o :: l, i, s, h => by
    simp only [runDraw] at h ⊢
    exact stepD_mono hC (fun s' h' => runDraw_mono hC l (i + 1) s' h') h

theorem regionK_mono (hC : CLe C C') {α : Type} {an : FnAnn} {id : Nat} {ops : Array Oper} {draw : Bool} {env : List AVal} {h : AHeap} {K : List AVal → AHeap → Res α} {r : α} (hq : regionK (ansR C α) c an id ops draw env h K = .ok r) :
    regionK (ansR C' α) c an id ops draw env h K = .ok r := by
  unfold regionK at hq ⊢
  cases draw with
  | false => exact runText_mono hC _ _ hq
  | true => exact runDraw_mono hC _ _ _ hq

end

theorem mono (c : Cfg) : ∀ k, (∀ f code env h r, exec c k f code env h = .ok r → exec c (k + 1) f code env h = .ok r) ∧
    (∀ f body cur env h r, scopeE c k f body cur env h = .ok r → scopeE c (k + 1) f body cur env h = .ok r) ∧ CLe (callF c k) (callF c (k + 1)) := by
  intro k
  induction k with
  | zero =>
    refine ⟨fun f code env h r hq => ?_, fun f body cur env h r hq => ?_, fun f args h r hq => ?_⟩
    · unfold exec at hq; cases hq
    · unfold scopeE at hq; cases hq
    · unfold callF at hq; cases hq
  | succ k ih =>
    obtain ⟨ihE, ihS, ihC⟩ := ih
    refine ⟨fun f code env h r hq => ?_, fun f body cur env h r hq => ?_, fun f args h r hq => ?_⟩
    · unfold exec at hq ⊢
      cases code with
      | seq a b =>
        simp only at hq ⊢
        obtain ⟨r1, h1, hq⟩ := Res.bind_ok hq
        rw [ihE _ _ _ _ _ h1, Res.ok_bind]
        cases he : r1.1 with
        | normal => rw [he] at hq; exact ihE _ _ _ _ _ hq
        | _ => rw [he] at hq; exact hq
      | cond x a b =>
        simp only at hq ⊢
        obtain ⟨v, h1, hq⟩ := Res.bind_ok hq
        rw [h1, Res.ok_bind]
        split at hq
        · split at hq
          · exact ihE _ _ _ _ _ hq
          · exact ihE _ _ _ _ _ hq
        · cases hq
      | block id a =>
        simp only at hq ⊢
        obtain ⟨r1, h1, hq⟩ := Res.bind_ok hq
        rw [ihE _ _ _ _ _ h1, Res.ok_bind]; exact hq
      | loop a =>
        simp only at hq ⊢
        obtain ⟨r1, h1, hq⟩ := Res.bind_ok hq
        rw [ihE _ _ _ _ _ h1, Res.ok_bind]
        cases he : r1.1 with
        | normal => rw [he] at hq; exact ihE _ _ _ _ _ hq
        | _ => rw [he] at hq; exact hq
      | scope a => exact ihS _ _ _ _ _ _ hq
      | region id ops draw => exact regionK_mono ihC hq
      | _ => exact hq
    · unfold scopeE at hq ⊢
      obtain ⟨r1, h1, hq⟩ := Res.bind_ok hq
      rw [ihE _ _ _ _ _ h1, Res.ok_bind]
      cases he : r1.1 with
      | goto l =>
        rw [he] at hq
        simp only at hq ⊢
        split at hq
        · exact ihS _ _ _ _ _ _ hq
        · exact hq
      | _ => rw [he] at hq; exact hq
    · unfold callF at hq ⊢
      split at hq
      · exact hq
      · split at hq
        · split at hq
          · obtain ⟨r1, h1, hq⟩ := Res.bind_ok hq
            rw [ihE _ _ _ _ _ h1, Res.ok_bind]; exact hq
          · cases hq
        · cases hq

end Go.Proofs.YtofnbldbggddmaaGreatDoor
namespace Go.Proofs.YtofnbldbggddmaaGreatDoor
open Go Go.RowKit

def Ev (c : Cfg) (f : Nat) (args : List AVal) (h : AHeap) (Q : AVal → AHeap → Prop) : Prop := ∃ k v h', callF c k f args h = .ok (v, h') ∧ Q v h'
def Xv (c : Cfg) (f : Nat) (code : Code) (env : List AVal) (h : AHeap) (Q : AExit → List AVal → AHeap → Prop) : Prop := ∃ k e env' h', exec c k f code env h = .ok (e, env', h') ∧ Q e env' h'
def Xs (c : Cfg) (f : Nat) (body cur : Code) (env : List AVal) (h : AHeap) (Q : AExit → List AVal → AHeap → Prop) : Prop := ∃ k e env' h', scopeE c k f body cur env h = .ok (e, env', h') ∧ Q e env' h'

def ansP (c : Cfg) : Ans Prop where
  bnd := fun m K => ∃ a, m = .ok a ∧ K a
  call := fun b f args h K => match b with
    | true => Ev c f args h K
    | false => K (.tuple []) h
  chk := fun r v K => sameRes r v = true ∧ K

theorem exec_le {c : Cfg} {f : Nat} {code : Code} {env : List AVal} {h : AHeap} {r : AExit × List AVal × AHeap} : ∀ {k k' : Nat}, k ≤ k' → exec c k f code env h = .ok r → exec c k' f code env h = .ok r := by
  intro k k' hk
  induction hk with
  | refl => exact id
  | step _ ih => exact fun h => (mono c _).1 _ _ _ _ _ (ih h)

theorem scope_le {c : Cfg} {f : Nat} {body cur : Code} {env : List AVal} {h : AHeap} {r : AExit × List AVal × AHeap} : ∀ {k k' : Nat}, k ≤ k' → scopeE c k f body cur env h = .ok r → scopeE c k' f body cur env h = .ok r := by
  intro k k' hk
  induction hk with
  | refl => exact id
  | step _ ih => exact fun h => (mono c _).2.1 _ _ _ _ _ _ (ih h)

theorem call_le {c : Cfg} : ∀ {k k' : Nat}, k ≤ k' → CLe (callF c k) (callF c k') := by
  intro k k' hk
  induction hk with
  | refl => exact fun _ _ _ _ h => h
  | step _ ih => exact fun f args h r hq => (mono c _).2.2 _ _ _ _ (ih f args h r hq)

section
variable {c : Cfg} {loc : List Nat} {al : List (Nat × Nat)} {bad : List Nat} {ops : Array Oper} {bef : Array Nat}

/-- with fuel enough a step leads to a state -/
def Leads (c : Cfg) (run : CallR → {α : Type} → (RS → Res α) → Res α) (K : RS → Prop) : Prop := ∃ k s', K s' ∧ ∀ k', k ≤ k' → ∀ (α : Type) (K' : RS → Res α), run (callF c k') K' = K' s'

theorem stepK_P {o : Oper} {s : RS} {K : RS → Prop} (h : stepK (ansP c) c loc al bad ops o s K) : Leads c (fun C {α} K' => stepK (ansR C α) c loc al bad ops o s K') K := by
  have done : ∀ {s' : RS}, (∀ (C : CallR) (α : Type) (K' : RS → Res α), stepK (ansR C α) c loc al bad ops o s K' = K' s') → K s' → Leads c (fun C {α} K' => stepK (ansR C α) c loc al bad ops o s K') K :=
    fun {s'} h1 h2 => ⟨0, s', h2, fun k' _ α K' => h1 _ α K'⟩
  unfold stepK at h
  cases hc : callOf o with
  | some x =>
    rw [hc] at h
    simp only at h
    cases hg : o.guard with
    | none =>
      rw [hg] at h
      obtain ⟨fa, h1, k, v, h', h2, h3⟩ := h
      refine ⟨k, _, h3, fun k' hk α K' => ?_⟩
      unfold stepK
      rw [hc]; simp only [hg, ansR]
      rw [h1, Res.ok_bind, call_le hk _ _ _ _ h2]; rfl
    | some g =>
      rw [hg] at h
      obtain ⟨b, h0, fa, h1, h⟩ := h
      cases b with
      | true =>
        obtain ⟨k, v, h', h2, h3⟩ := h
        refine ⟨k, _, h3, fun k' hk α K' => ?_⟩
        unfold stepK
        rw [hc]; simp only [hg, ansR]
        rw [h0, Res.ok_bind]
        simp only at h1 ⊢
        rw [h1, Res.ok_bind, call_le hk _ _ _ _ h2]; rfl
      | false =>
        refine done (fun C α K' => ?_) h
        unfold stepK
        rw [hc]; simp only [hg, ansR]
        rw [h0, Res.ok_bind]
        simp only at h1 ⊢
        rw [h1, Res.ok_bind]
  | none =>
    rw [hc] at h
    simp only at h
    cases hh : how loc al o with
    | plain =>
      rw [hh] at h
      obtain ⟨r, h1, h2⟩ := h
      refine done (fun C α K' => ?_) h2
      unfold stepK
      rw [hc, hh]; simp only [ansR]; rw [h1, Res.ok_bind]
    | alias_ t sl =>
      rw [hh] at h
      obtain ⟨r, h1, h2⟩ := h
      refine done (fun C α K' => ?_) h2
      unfold stepK
      rw [hc, hh]; simp only [ansR]; rw [h1, Res.ok_bind]
    | load_ t sl =>
      rw [hh] at h
      obtain ⟨r, h1, h2⟩ := h
      refine done (fun C α K' => ?_) h2
      unfold stepK
      rw [hc, hh]; simp only [ansR]; rw [h1, Res.ok_bind]
    | make d =>
      rw [hh] at h
      simp only at h
      cases hg : o.guard with
      | some g => rw [hg] at h; obtain ⟨_, h1, _⟩ := h; cases h1
      | none =>
        rw [hg] at h
        obtain ⟨r, h1, h2⟩ := h
        refine done (fun C α K' => ?_) h2
        unfold stepK
        rw [hc, hh]; simp only [hg, ansR]; rw [h1, Res.ok_bind]
    | store_ t sl =>
      rw [hh] at h
      simp only at h
      cases hg : o.guard with
      | some g => rw [hg] at h; obtain ⟨_, h1, _⟩ := h; cases h1
      | none =>
        cases hd : o.dst with
        | some d => rw [hg, hd] at h; obtain ⟨_, h1, _⟩ := h; cases h1
        | none =>
          rw [hg, hd] at h
          obtain ⟨r, h1, h2⟩ := h
          refine done (fun C α K' => ?_) h2
          unfold stepK
          rw [hc, hh]; simp only [hg, hd, ansR]; rw [h1, Res.ok_bind]

theorem runText_P {K : RS → Prop} : ∀ (l : List Oper) (s : RS), runText (ansP c) c loc al bad ops l s K → Leads c (fun C {α} K' => runText (ansR C α) c loc al bad ops l s K') K
  | [], s, h => ⟨0, s, h, fun _ _ _ _ => rfl⟩
  | o :: l, s, h => by
    simp only [runText] at h
    obtain ⟨k1, s1, h1, h2⟩ := stepK_P h
    obtain ⟨k2, s2, h3, h4⟩ := runText_P l s1 h1
    refine ⟨max k1 k2, s2, h3, fun k' hk α K' => ?_⟩
    simp only [runText]
    exact (h2 k' (by omega) α _).trans (h4 k' (by omega) α K')

theorem chkHist_P {i : Nat} {rd : AHeap → Res AVal} {v : AVal} {K : Prop} : ∀ {l : List (Nat × AHeap)}, chkHist (ansP c) bef i rd v l K → K ∧ ∀ (C : CallR) (α : Type) (K' : Res α), chkHist (ansR C α) bef i rd v l K' = K'
  | [], h => ⟨h, fun _ _ _ => rfl⟩
  | (j, g) :: l, h => by
    unfold chkHist at h
    cases hb : befB bef j i with
    | true =>
      rw [hb] at h
      obtain ⟨h1, h2⟩ := chkHist_P (l := l) h
      exact ⟨h1, fun C α K' => by unfold chkHist; rw [hb]; exact h2 C α K'⟩
    | false =>
      rw [hb] at h
      obtain ⟨h0, h⟩ := h
      obtain ⟨h1, h2⟩ := chkHist_P (l := l) h
      exact ⟨h1, fun C α K' => by unfold chkHist; rw [hb]; simp only [ansR, h0]; exact h2 C α K'⟩

theorem chkReads_P {i : Nat} {g : AHeap} {K : Prop} : ∀ {l : List (Nat × (AHeap → Res AVal) × AVal)}, chkReads (ansP c) bef i g l K → K ∧ ∀ (C : CallR) (α : Type) (K' : Res α), chkReads (ansR C α) bef i g l K' = K'
  | [], h => ⟨h, fun _ _ _ => rfl⟩
  | (j, rd, v) :: l, h => by
    unfold chkReads at h
    cases hb : befB bef j i with
    | true =>
      rw [hb] at h
      obtain ⟨h1, h2⟩ := chkReads_P (l := l) h
      exact ⟨h1, fun C α K' => by unfold chkReads; rw [hb]; exact h2 C α K'⟩
    | false =>
      rw [hb] at h
      obtain ⟨h0, h⟩ := h
      obtain ⟨h1, h2⟩ := chkReads_P (l := l) h
      exact ⟨h1, fun C α K' => by unfold chkReads; rw [hb]; simp only [ansR, h0]; exact h2 C α K'⟩

theorem stepD_P {i : Nat} {o : Oper} {s : RS} {K : RS → Prop} (h : stepD (ansP c) c loc al bad ops bef i o s K) : Leads c (fun C {α} K' => stepD (ansR C α) c loc al bad ops bef i o s K') K := by
  unfold stepD at h
  unfold Leads stepD
  cases hk : kindOf c.P loc al o with
  | read =>
    rw [hk] at h
    obtain ⟨v, h1, h2⟩ := h
    obtain ⟨h3, h4⟩ := chkHist_P h2
    refine ⟨0, _, h3, fun k' _ α K' => ?_⟩
    simp only [ansR]; rw [h1, Res.ok_bind]; exact h4 _ α _
  | imp =>
    rw [hk] at h
    obtain ⟨k, s1, h1, h2⟩ := stepK_P h
    obtain ⟨h3, h4⟩ := chkReads_P h1
    refine ⟨k, _, h3, fun k' hk' α K' => ?_⟩
    simp only
    exact (h2 k' hk' α _).trans (h4 _ α _)
  | pure =>
    rw [hk] at h
    exact stepK_P h
  | alloc =>
    rw [hk] at h
    simp only at h ⊢
    cases hg : o.guard with
    | some g => rw [hg] at h; obtain ⟨_, h1, _⟩ := h; cases h1
    | none => rw [hg] at h; exact stepK_P h

theorem runDraw_P {K : RS → Prop} : ∀ (l : List Oper) (i : Nat) (s : RS), runDraw (ansP c) c loc al bad ops bef i l s K → Leads c (fun C {α} K' => runDraw (ansR C α) c loc al bad ops bef i l s K') K
  | [], i, s, h => ⟨0, s, h, fun _ _ _ _ => rfl⟩
  | o :: l, i, s, h => by
    simp only [runDraw] at h
    obtain ⟨k1, s1, h1, h2⟩ := stepD_P h
    obtain ⟨k2, s2, h3, h4⟩ := runDraw_P l (i + 1) s1 h1
    refine ⟨max k1 k2, s2, h3, fun k' hk α K' => ?_⟩
    simp only [runDraw]
    exact (h2 k' (by omega) α _).trans (h4 k' (by omega) α K')

end

section
variable {c : Cfg} {f : Nat} {env : List AVal} {h : AHeap} {Q : AExit → List AVal → AHeap → Prop}

theorem Xv.region {id : Nat} {ops : Array Oper} {draw : Bool} (hq : regionK (ansP c) c (c.ann f) id ops draw env h fun env h => Q .normal env h) : Xv c f (.region id ops draw) env h Q := by
  unfold regionK at hq
  cases draw with
  | false =>
    obtain ⟨k, s', h1, h2⟩ := runText_P _ _ hq
    refine ⟨k + 1, .normal, _, _, ?_, h1⟩
    unfold exec regionK
    exact h2 k (Nat.le_refl _) _ _
  | true =>
    obtain ⟨k, s', h1, h2⟩ := runDraw_P _ _ _ hq
    refine ⟨k + 1, .normal, _, _, ?_, h1⟩
    unfold exec regionK
    exact h2 k (Nat.le_refl _) _ _

theorem Xv.skip (hq : Q .normal env h) : Xv c f .skip env h Q := ⟨1, _, _, _, rfl, hq⟩
theorem Xv.label {l : Nat} (hq : Q .normal env h) : Xv c f (.label l) env h Q := ⟨1, _, _, _, rfl, hq⟩
theorem Xv.exit {id : Nat} (hq : Q (.exit id) env h) : Xv c f (.exit id) env h Q := ⟨1, _, _, _, rfl, hq⟩
theorem Xv.goto {l : Nat} (hq : Q (.goto l) env h) : Xv c f (.goto l) env h Q := ⟨1, _, _, _, rfl, hq⟩
theorem Xv.ret (hq : Q .ret env h) : Xv c f .ret env h Q := ⟨1, _, _, _, rfl, hq⟩

theorem Xv.mono {code : Code} {Q' : AExit → List AVal → AHeap → Prop} (hx : Xv c f code env h Q) (hq : ∀ e env h, Q e env h → Q' e env h) : Xv c f code env h Q' := by
  obtain ⟨k, e, env', h', h1, h2⟩ := hx
  exact ⟨k, e, env', h', h1, hq _ _ _ h2⟩

def Xthen (N : List AVal → AHeap → Prop) (Q : AExit → List AVal → AHeap → Prop) : AExit → List AVal → AHeap → Prop
  | .normal, env, h => N env h
  | e, env, h => Q e env h

theorem Xv.seq {a b : Code} (hq : Xv c f a env h (Xthen (fun env h => Xv c f b env h Q) Q)) : Xv c f (.seq a b) env h Q := by
  obtain ⟨k, e, env', h', h1, h2⟩ := hq
  cases e with
  | normal =>
    obtain ⟨k2, e2, env2, h2', h3, h4⟩ := h2
    refine ⟨max k k2 + 1, e2, env2, h2', ?_, h4⟩
    unfold exec
    simp only
    rw [exec_le (by omega) h1, Res.ok_bind]
    exact exec_le (by omega) h3
  | _ => refine ⟨k + 1, _, env', h', ?_, h2⟩; unfold exec; simp only; rw [h1, Res.ok_bind]

theorem Xv.cond {x : Operand} {a b : Code} {t : Bool} (ht : opnd (c.ann f).locals env x = .ok (.bool t)) (hq : Xv c f (match t with | true => a | false => b) env h Q) : Xv c f (.cond x a b) env h Q := by
  obtain ⟨k, e, env', h', h1, h2⟩ := hq
  refine ⟨k + 1, e, env', h', ?_, h2⟩
  unfold exec
  simp only
  rw [ht, Res.ok_bind]
  cases t <;> exact h1

def Xblock (id : Nat) (Q : AExit → List AVal → AHeap → Prop) : AExit → List AVal → AHeap → Prop
  | .exit id', env, h => if id' = id then Q .normal env h else Q (.exit id') env h
  | e, env, h => Q e env h

theorem Xv.block {id : Nat} {a : Code} (hq : Xv c f a env h (Xblock id Q)) : Xv c f (.block id a) env h Q := by
  obtain ⟨k, e, env', h', h1, h2⟩ := hq
  cases e with
  | exit id' =>
    simp only [Xblock] at h2
    by_cases hid : id' = id
    · rw [if_pos hid] at h2
      refine ⟨k + 1, _, env', h', ?_, h2⟩; unfold exec; simp only; rw [h1, Res.ok_bind]; simp [hid]
    · rw [if_neg hid] at h2
      refine ⟨k + 1, _, env', h', ?_, h2⟩; unfold exec; simp only; rw [h1, Res.ok_bind]; simp [hid]
  | _ => refine ⟨k + 1, _, env', h', ?_, h2⟩; unfold exec; simp only; rw [h1, Res.ok_bind]

theorem Xv.loop {a : Code} (I : Nat → List AVal → AHeap → Prop) (hI : ∀ n env h, I n env h → Xv c f a env h (Xthen (fun env' h' => ∃ m, m < n ∧ I m env' h') Q)) :
    ∀ (n : Nat) (env : List AVal) (h : AHeap), I n env h → Xv c f (.loop a) env h Q := by
  intro n
  induction n using Nat.strongRecOn with
  | _ n ih =>
    intro env h hi
    obtain ⟨k, e, env', h', h1, h2⟩ := hI n env h hi
    cases e with
    | normal =>
      obtain ⟨m, hm, hi'⟩ := h2
      obtain ⟨k2, e2, env2, h2', h3, h4⟩ := ih m hm env' h' hi'
      refine ⟨max k k2 + 1, e2, env2, h2', ?_, h4⟩
      unfold exec
      simp only
      rw [exec_le (by omega) h1, Res.ok_bind]
      exact exec_le (by omega) h3
    | _ => refine ⟨k + 1, _, env', h', ?_, h2⟩; unfold exec; simp only; rw [h1, Res.ok_bind]

def Xscope (c : Cfg) (f : Nat) (body : Code) (Q : AExit → List AVal → AHeap → Prop) : AExit → List AVal → AHeap → Prop
  | .goto l, env, h => match findLabel body l with
    | some rest => Xs c f body rest env h Q
    | none => Q (.goto l) env h
  | e, env, h => Q e env h

theorem Xs.of {body cur : Code} (hq : Xv c f cur env h (Xscope c f body Q)) : Xs c f body cur env h Q := by
  obtain ⟨k, e, env', h', h1, h2⟩ := hq
  cases e with
  | goto l =>
    simp only [Xscope] at h2
    cases hl : findLabel body l with
    | some rest =>
      rw [hl] at h2
      obtain ⟨k2, e2, env2, h2', h3, h4⟩ := h2
      refine ⟨max k k2 + 1, e2, env2, h2', ?_, h4⟩
      unfold scopeE
      rw [exec_le (by omega) h1, Res.ok_bind]
      simp only [hl]
      exact scope_le (by omega) h3
    | none =>
      rw [hl] at h2
      refine ⟨k + 1, _, env', h', ?_, h2⟩; unfold scopeE; rw [h1, Res.ok_bind]; simp [hl]
  | _ => refine ⟨k + 1, _, env', h', ?_, h2⟩; unfold scopeE; rw [h1, Res.ok_bind]

theorem Xv.scope {a : Code} (hq : Xs c f a a env h Q) : Xv c f (.scope a) env h Q := by
  obtain ⟨k, e, env', h', h1, h2⟩ := hq
  exact ⟨k + 1, e, env', h', h1, h2⟩

theorem Ev.mono {args : List AVal} {R R' : AVal → AHeap → Prop} (hx : Ev c f args h R) (hq : ∀ v h, R v h → R' v h) : Ev c f args h R' := by
  obtain ⟨k, v, h', h1, h2⟩ := hx
  exact ⟨k, v, h', h1, hq _ _ h2⟩

def Xret (c : Cfg) (f : Nat) (fn : Func) (R : AVal → AHeap → Prop) : AExit → List AVal → AHeap → Prop
  | .normal, env, h | .ret, env, h => ∃ vs, resultsR c (c.ann f).locals env h fn.results.toList = .ok vs ∧ R (packR vs) h
  | _, _, _ => False

theorem Ev.of {args : List AVal} {R : AVal → AHeap → Prop} {fn : Func} {code : Code} (hp : c.prim f = none) (hok : (c.ann f).ok = true) (hf : c.P.funcs[f]? = some fn) (hb : fn.body = some code)
    (hq : Xv c f code (args ++ List.replicate (fn.ntmps - args.length) .dead) h (Xret c f fn R)) : Ev c f args h R := by
  obtain ⟨k, e, env', h', h1, h2⟩ := hq
  have hfin : ∀ vs, (e = .normal ∨ e = .ret) → resultsR c (c.ann f).locals env' h' fn.results.toList = .ok vs → callF c (k + 1) f args h = .ok (packR vs, h') := by
    intro vs he hv
    unfold callF
    rw [hp, hok, hf]
    simp only [hb]
    rw [h1, Res.ok_bind]
    rcases he with rfl | rfl <;> simp [hv]
  cases e with
  | normal => obtain ⟨vs, h3, h4⟩ := h2; exact ⟨k + 1, _, _, hfin vs (.inl rfl) h3, h4⟩
  | ret => obtain ⟨vs, h3, h4⟩ := h2; exact ⟨k + 1, _, _, hfin vs (.inr rfl) h3, h4⟩
  | exit id => exact h2.elim
  | goto l => exact h2.elim

end
end Go.Proofs.YtofnbldbggddmaaGreatDoor
set_option linter.all false
namespace Go.Proofs.YtofnbldbggddmaaGreatDoor
open Go Go.RowKit

/-- a call's one answer -/
def Run (c : Cfg) (f : Nat) (args : List AVal) (h : AHeap) (v : AVal) (h' : AHeap) : Prop := ∃ k, callF c k f args h = .ok (v, h')

theorem Run.inj {c : Cfg} {f : Nat} {args : List AVal} {h : AHeap} {v w : AVal} {h1 h2 : AHeap} (a : Run c f args h v h1) (b : Run c f args h w h2) : v = w ∧ h1 = h2 := by
  obtain ⟨k, a⟩ := a
  obtain ⟨m, b⟩ := b
  have a' := call_le (Nat.le_max_left k m) f args h _ a
  have b' := call_le (Nat.le_max_right k m) f args h _ b
  rw [a'] at b'
  cases b'; exact ⟨rfl, rfl⟩

theorem Ev.run {c : Cfg} {f : Nat} {args : List AVal} {h : AHeap} {v : AVal} {h' : AHeap} (a : Run c f args h v h') (Q : AVal → AHeap → Prop) : Ev c f args h Q = Q v h' := by
  apply propext
  constructor
  · rintro ⟨k, w, h2, b, q⟩
    obtain ⟨rfl, rfl⟩ := Run.inj a ⟨k, b⟩
    exact q
  · intro q
    obtain ⟨k, a⟩ := a
    exact ⟨k, v, h', a, q⟩

theorem Run.of {c : Cfg} {f : Nat} {args : List AVal} {h : AHeap} {v : AVal} {h' : AHeap} (a : Ev c f args h fun w g => w = v ∧ g = h') : Run c f args h v h' := by
  obtain ⟨k, w, g, b, rfl, rfl⟩ := a
  exact ⟨k, b⟩


/-! ### steps, worked out -/
def bndW {α : Type} (r : Res α) (K : α → Prop) : Prop := ∃ a, r = .ok a ∧ K a
theorem bndW_ok {α : Type} (a : α) (K : α → Prop) : bndW (.ok a) K = K a := by unfold bndW; simp
theorem bndW_err {α : Type} (n : Nat) (K : α → Prop) : bndW (.err n) K = False := by unfold bndW; simp
theorem bndW_congr {α : Type} {r r' : Res α} {K : α → Prop} (h : r = r') : bndW r K = bndW r' K := by rw [h]
theorem bndW_bind {α β : Type} (r : Res α) (f : α → Res β) (K : β → Prop) : bndW (r.bind f) K = bndW r fun a => bndW (f a) K := by
  cases r with
  | ok a => simp [bndW_ok]
  | err n => simp [bndW_err]
theorem bndW_if {α : Type} (p : Prop) [Decidable p] (a b : Res α) (K : α → Prop) : bndW (if p then a else b) K = ((p → bndW a K) ∧ (¬p → bndW b K)) := by
  by_cases h : p <;> simp [h]
def orW (b : Bool) (yes no : Unit → Prop) : Prop := (b = true → yes ()) ∧ (b = false → no ())
theorem orW_t (yes no : Unit → Prop) : orW true yes no = yes () := by unfold orW; simp
theorem orW_f (yes no : Unit → Prop) : orW false yes no = no () := by unfold orW; simp
theorem orW_d (p : Prop) [Decidable p] (yes no : Unit → Prop) : orW (decide p) yes no = ((p → yes ()) ∧ (¬p → no ())) := by unfold orW; simp
theorem orW_n (b : Bool) (yes no : Unit → Prop) : orW (!b) yes no = orW b no yes := by unfold orW; cases b <;> simp
theorem orW_et (b : Bool) (yes no : Unit → Prop) : orW (b == true) yes no = orW b yes no := by cases b <;> rfl
theorem orW_ef (b : Bool) (yes no : Unit → Prop) : orW (b == false) yes no = orW b no yes := by cases b <;> simp [orW]

/-! what comes behind a step, by name -/
def skipK (o : Oper) (s : RS) (K : RS → Prop) (_ : Unit) : Prop := K { s with env := putD s.env o (.tuple []) }
def skipL (o : Oper) (s : RS) (K : RS → Prop) (_ : Unit) : Prop := K { s with env := putD s.env o (.loc 0 false) }
def resK (o : Oper) (s : RS) (K : RS → Prop) (v : AVal) (h : AHeap) : Prop := K { s with env := putD s.env o v, h := h }
def callK (o : Oper) (s : RS) (K : RS → Prop) (c : Cfg) (fa : Nat × List AVal) : Prop := Ev c fa.1 fa.2 s.h (resK o s K)
def callY (c : Cfg) (bad : List Nat) (o : Oper) (x : Call) (s : RS) (K : RS → Prop) (_ : Unit) : Prop := bndW (calleeR c bad s.env x) (callK o s K c)
def pairK (o : Oper) (s : RS) (K : RS → Prop) (r : AVal × AHeap) : Prop := K { s with env := putD s.env o r.1, h := r.2 }
def opY (c : Cfg) (bad : List Nat) (o : Oper) (s : RS) (K : RS → Prop) (_ : Unit) : Prop := bndW (opR c bad s.env s.h o) (pairK o s K)
def locK (o : Oper) (s : RS) (K : RS → Prop) (n : Nat × Bool) : Prop := K { s with env := putD s.env o (.loc n.1 n.2) }
def aliasY (c : Cfg) (bad : List Nat) (t sl : Nat) (o : Oper) (s : RS) (K : RS → Prop) (_ : Unit) : Prop := bndW (aliasR c.P bad s.env t sl o) (locK o s K)
def valK (o : Oper) (s : RS) (K : RS → Prop) (v : AVal) : Prop := K { s with env := putD s.env o v }
def loadY (c : Cfg) (t sl : Nat) (o : Oper) (s : RS) (K : RS → Prop) (_ : Unit) : Prop := bndW (loadCell c.P s.env t sl o) (valK o s K)
def makeK (al : List (Nat × Nat)) (d : Nat) (s : RS) (K : RS → Prop) (vs : List AVal) : Prop := K { s with env := setN (clearAll (aliasTo al d) s.env) d (.cell vs) }
def storeK (sl : Nat) (s : RS) (K : RS → Prop) (vs : List AVal) : Prop := K { s with env := setN s.env sl (.cell vs) }

def orK (yes no : Unit → Prop) (b : Bool) : Prop := orW b yes no
def gW (ops : Array Oper) (env : List AVal) (o : Oper) (yes no : Unit → Prop) : Prop :=
  match o.guard with
  | none => yes ()
  | some _ => bndW (wantedR ops env o) (orK yes no)

def stepW (c : Cfg) (loc : List Nat) (al : List (Nat × Nat)) (bad : List Nat) (ops : Array Oper) (o : Oper) (s : RS) (K : RS → Prop) : Prop :=
  match callOf o with
  | some x => gW ops s.env o (callY c bad o x s K) (skipK o s K)
  | none => match how loc al o with
    | .plain => gW ops s.env o (opY c bad o s K) (skipK o s K)
    | .alias_ t sl => gW ops s.env o (aliasY c bad t sl o s K) (skipL o s K)
    | .make d => match o.guard with
      | none => bndW (makeCells c.P bad s.env o) (makeK al d s K)
      | some _ => False
    | .load_ t sl => gW ops s.env o (loadY c t sl o s K) (skipK o s K)
    | .store_ t sl => match o.guard, o.dst with
      | none, none => bndW (storeCell c.P bad s.env t sl o) (storeK sl s K)
      | _, _ => False

theorem gW_ifG {α : Type} {c : Cfg} {ops : Array Oper} {env : List AVal} {o : Oper} {other : α} {r : Res α} {K : α → Prop} {yes no : Unit → Prop} (hy : yes () → bndW r K) (hn : no () → K other) (h : gW ops env o yes no) : (ansP c).bnd (ifG ops env o other r) K := by
  unfold gW at h
  unfold ifG
  cases hg : o.guard with
  | none => rw [hg] at h; exact hy h
  | some g =>
    rw [hg] at h
    obtain ⟨b, h1, h2, h3⟩ := h
    simp only [h1, Res.ok_bind]
    cases b with
    | true => exact hy (h2 rfl)
    | false => exact ⟨other, rfl, hn (h3 rfl)⟩

theorem stepW_P {c : Cfg} {loc : List Nat} {al : List (Nat × Nat)} {bad : List Nat} {ops : Array Oper} {o : Oper} {s : RS} {K : RS → Prop} (h : stepW c loc al bad ops o s K) : stepK (ansP c) c loc al bad ops o s K := by
  unfold stepW at h
  unfold stepK
  cases hc : callOf o with
  | some x =>
    rw [hc] at h
    simp only at h ⊢
    unfold gW at h
    cases hg : o.guard with
    | none => rw [hg] at h; exact h
    | some g =>
      rw [hg] at h
      obtain ⟨b, h1, h2, h3⟩ := h
      refine ⟨b, h1, ?_⟩
      cases b with
      | true => exact h2 rfl
      | false => exact ⟨_, rfl, h3 rfl⟩
  | none =>
    rw [hc] at h
    simp only at h ⊢
    cases hh : how loc al o with
    | plain => rw [hh] at h; exact gW_ifG (other := (AVal.tuple [], s.h)) id id h
    | alias_ t sl => rw [hh] at h; exact gW_ifG (other := ((0, false) : Nat × Bool)) id id h
    | load_ t sl => rw [hh] at h; exact gW_ifG (other := AVal.tuple []) id id h
    | make d =>
      rw [hh] at h
      simp only at h ⊢
      cases hg : o.guard with
      | none => rw [hg] at h; exact h
      | some g => rw [hg] at h; exact h.elim
    | store_ t sl =>
      rw [hh] at h
      simp only at h ⊢
      cases hg : o.guard with
      | some g => rw [hg] at h; exact h.elim
      | none =>
        cases hd : o.dst with
        | some d => rw [hg, hd] at h; exact h.elim
        | none => rw [hg, hd] at h; exact h

def textW (c : Cfg) (loc : List Nat) (al : List (Nat × Nat)) (bad : List Nat) (ops : Array Oper) : List Oper → RS → (RS → Prop) → Prop
  | [], s, K => K s
  | o :: l, s, K => stepW c loc al bad ops o s (fun s' => textW c loc al bad ops l s' K)

theorem stepKP_mono {c : Cfg} {loc : List Nat} {al : List (Nat × Nat)} {bad : List Nat} {ops : Array Oper} {o : Oper} {s : RS} {K K' : RS → Prop} (hk : ∀ s, K s → K' s) (h : stepK (ansP c) c loc al bad ops o s K) : stepK (ansP c) c loc al bad ops o s K' := by
  have hb : ∀ {α : Type} {r : Res α} {A B : α → Prop}, (∀ a, A a → B a) → (ansP c).bnd r A → (ansP c).bnd r B := fun hab ⟨a, h1, h2⟩ => ⟨a, h1, hab a h2⟩
  have hcl : ∀ {b : Bool} {f : Nat} {args : List AVal} {h : AHeap} {A B : AVal → AHeap → Prop}, (∀ v h, A v h → B v h) → (ansP c).call b f args h A → (ansP c).call b f args h B := by
    intro b f args h A B hab hx
    cases b with
    | true => exact Ev.mono hx hab
    | false => exact hab _ _ hx
  unfold stepK at *
  cases hc : callOf o with
  | some x =>
    rw [hc] at h
    simp only at h ⊢
    cases hg : o.guard with
    | none => rw [hg] at h; exact hb (fun fa hx => hcl (fun v h q => hk _ q) hx) h
    | some g => rw [hg] at h; exact hb (fun b hx => hb (fun fa hx => hcl (fun v h q => hk _ q) hx) hx) h
  | none =>
    rw [hc] at h
    simp only at h ⊢
    cases hh : how loc al o with
    | plain => rw [hh] at h; exact hb (fun _ => hk _) h
    | alias_ t sl => rw [hh] at h; exact hb (fun _ => hk _) h
    | load_ t sl => rw [hh] at h; exact hb (fun _ => hk _) h
    | make d =>
      rw [hh] at h
      simp only at h ⊢
      cases hgd : o.guard with
      | none => rw [hgd] at h; exact hb (fun _ => hk _) h
      | some g => rw [hgd] at h; obtain ⟨_, h1, _⟩ := h; cases h1
    | store_ t sl =>
      rw [hh] at h
      simp only at h ⊢
      cases hgd : o.guard with
      | some g => rw [hgd] at h; obtain ⟨_, h1, _⟩ := h; cases h1
      | none =>
        cases hd : o.dst with
        | some d => rw [hgd, hd] at h; obtain ⟨_, h1, _⟩ := h; cases h1
        | none => rw [hgd, hd] at h; exact hb (fun _ => hk _) h

def textK (c : Cfg) (loc : List Nat) (al : List (Nat × Nat)) (bad : List Nat) (ops : Array Oper) (l : List Oper) (K : RS → Prop) (s : RS) : Prop := textW c loc al bad ops l s K
theorem textW_nil (c : Cfg) (loc : List Nat) (al : List (Nat × Nat)) (bad : List Nat) (ops : Array Oper) (s : RS) (K : RS → Prop) : textW c loc al bad ops [] s K = K s := rfl
theorem textW_cons (c : Cfg) (loc : List Nat) (al : List (Nat × Nat)) (bad : List Nat) (ops : Array Oper) (o : Oper) (l : List Oper) (s : RS) (K : RS → Prop) : textW c loc al bad ops (o :: l) s K = stepW c loc al bad ops o s (textK c loc al bad ops l K) := rfl

theorem textW_P {c : Cfg} {loc : List Nat} {al : List (Nat × Nat)} {bad : List Nat} {ops : Array Oper} {K : RS → Prop} : ∀ (l : List Oper) (s : RS), textW c loc al bad ops l s K → runText (ansP c) c loc al bad ops l s K
  | [], s, h => h
  | o :: l, s, h => stepKP_mono (fun s' => textW_P l s') (stepW_P h)

/-- does a reading give the same at each heap that was there, where it may come ahead? -/
def histW (bef : Array Nat) (i : Nat) (rd : AHeap → Res AVal) (v : AVal) : List (Nat × AHeap) → Prop
  | [] => True
  | (j, h) :: l => (befB bef j i = true ∨ sameRes (rd h) v = true) ∧ histW bef i rd v l
def readsW (bef : Array Nat) (i : Nat) (h : AHeap) : List (Nat × (AHeap → Res AVal) × AVal) → Prop
  | [] => True
  | (j, rd, v) :: l => (befB bef j i = true ∨ sameRes (rd h) v = true) ∧ readsW bef i h l

theorem histW_P {c : Cfg} {bef : Array Nat} {i : Nat} {rd : AHeap → Res AVal} {v : AVal} {K : Prop} (hK : K) : ∀ {l : List (Nat × AHeap)}, histW bef i rd v l → chkHist (ansP c) bef i rd v l K
  | [], _ => hK
  | (j, g) :: l, h => by
    unfold chkHist
    cases hb : befB bef j i with
    | true => exact histW_P hK h.2
    | false =>
      obtain ⟨h1, h2⟩ := h
      rcases h1 with h1 | h1
      · rw [hb] at h1; cases h1
      · exact ⟨h1, histW_P hK h2⟩
theorem readsW_P {c : Cfg} {bef : Array Nat} {i : Nat} {g : AHeap} {K : Prop} (hK : K) : ∀ {l : List (Nat × (AHeap → Res AVal) × AVal)}, readsW bef i g l → chkReads (ansP c) bef i g l K
  | [], _ => hK
  | (j, rd, v) :: l, h => by
    unfold chkReads
    cases hb : befB bef j i with
    | true => exact readsW_P hK h.2
    | false =>
      obtain ⟨h1, h2⟩ := h
      rcases h1 with h1 | h1
      · rw [hb] at h1; cases h1
      · exact ⟨h1, readsW_P hK h2⟩

def readK (c : Cfg) (bad : List Nat) (ops : Array Oper) (bef : Array Nat) (i : Nat) (o : Oper) (s : RS) (K : RS → Prop) (v : AVal) : Prop :=
  histW bef i (readAt c bad ops s.env o) v s.hist ∧ K { s with env := putD s.env o v, reads := (i, readAt c bad ops s.env o, v) :: s.reads }
def readOne (c : Cfg) (bad : List Nat) (s : RS) (o : Oper) : Res AVal := (opR c bad s.env s.base o).bind fun r => .ok r.1
def readY (c : Cfg) (bad : List Nat) (ops : Array Oper) (bef : Array Nat) (i : Nat) (o : Oper) (s : RS) (K : RS → Prop) (_ : Unit) : Prop := bndW (readOne c bad s o) (readK c bad ops bef i o s K)
def readN (c : Cfg) (bad : List Nat) (ops : Array Oper) (bef : Array Nat) (i : Nat) (o : Oper) (s : RS) (K : RS → Prop) (_ : Unit) : Prop := readK c bad ops bef i o s K (.tuple [])
def impK (bef : Array Nat) (i : Nat) (s : RS) (K : RS → Prop) (s' : RS) : Prop := readsW bef i s'.h s'.reads ∧ K { s' with hist := (i, s.base) :: s'.hist, base := s'.h }

def stepDW (c : Cfg) (loc : List Nat) (al : List (Nat × Nat)) (bad : List Nat) (ops : Array Oper) (bef : Array Nat) (i : Nat) (o : Oper) (s : RS) (K : RS → Prop) : Prop :=
  match kindOf c.P loc al o with
  | .read => gW ops s.env o (readY c bad ops bef i o s K) (readN c bad ops bef i o s K)
  | .imp => stepW c loc al bad ops o s (impK bef i s K)
  | .pure => stepW c loc al bad ops o s K
  | .alloc => match o.guard with
    | none => stepW c loc al bad ops o s K
    | some _ => False

theorem stepDW_P {c : Cfg} {loc : List Nat} {al : List (Nat × Nat)} {bad : List Nat} {ops : Array Oper} {bef : Array Nat} {i : Nat} {o : Oper} {s : RS} {K : RS → Prop} (h : stepDW c loc al bad ops bef i o s K) : stepD (ansP c) c loc al bad ops bef i o s K := by
  unfold stepDW at h
  unfold stepD
  cases hk : kindOf c.P loc al o with
  | read =>
    rw [hk] at h
    simp only at h ⊢
    have conv : ∀ v, readK c bad ops bef i o s K v → chkHist (ansP c) bef i (readAt c bad ops s.env o) v s.hist (K { s with env := putD s.env o v, reads := (i, readAt c bad ops s.env o, v) :: s.reads }) := fun v q => histW_P q.2 q.1
    exact gW_ifG (other := AVal.tuple []) (fun ⟨v, h1, h2⟩ => ⟨v, h1, conv v h2⟩) (fun q => conv _ q) h
  | imp =>
    rw [hk] at h
    exact stepKP_mono (fun s' q => readsW_P q.2 q.1) (stepW_P h)
  | pure => rw [hk] at h; exact stepW_P h
  | alloc =>
    rw [hk] at h
    simp only at h ⊢
    cases hg : o.guard with
    | none => rw [hg] at h; exact stepW_P h
    | some g => rw [hg] at h; exact h.elim

theorem stepDP_mono {c : Cfg} {loc : List Nat} {al : List (Nat × Nat)} {bad : List Nat} {ops : Array Oper} {bef : Array Nat} {i : Nat} {o : Oper} {s : RS} {K K' : RS → Prop} (hk : ∀ s, K s → K' s) (h : stepD (ansP c) c loc al bad ops bef i o s K) : stepD (ansP c) c loc al bad ops bef i o s K' := by
  have hch : ∀ {rd : AHeap → Res AVal} {v : AVal} {A B : Prop}, (A → B) → ∀ l, chkHist (ansP c) bef i rd v l A → chkHist (ansP c) bef i rd v l B := by
    intro rd v A B hab l
    induction l with
    | nil => exact hab
    | cons x l ih =>
      intro hx
      unfold chkHist at hx ⊢
      cases hb : befB bef x.1 i with
      | true => rw [hb] at hx; exact ih hx
      | false => rw [hb] at hx; exact ⟨hx.1, ih hx.2⟩
  have hcr : ∀ {g : AHeap} {A B : Prop}, (A → B) → ∀ l, chkReads (ansP c) bef i g l A → chkReads (ansP c) bef i g l B := by
    intro g A B hab l
    induction l with
    | nil => exact hab
    | cons x l ih =>
      intro hx
      unfold chkReads at hx ⊢
      cases hb : befB bef x.1 i with
      | true => rw [hb] at hx; exact ih hx
      | false => rw [hb] at hx; exact ⟨hx.1, ih hx.2⟩
  unfold stepD at *
  cases hkk : kindOf c.P loc al o with
  | read => rw [hkk] at h; obtain ⟨v, h1, h2⟩ := h; exact ⟨v, h1, hch (hk _) _ h2⟩
  | imp => rw [hkk] at h; exact stepKP_mono (fun s' q => hcr (hk _) _ q) h
  | pure => rw [hkk] at h; exact stepKP_mono hk h
  | alloc =>
    rw [hkk] at h
    simp only at h ⊢
    cases hg : o.guard with
    | none => rw [hg] at h; exact stepKP_mono hk h
    | some g => rw [hg] at h; obtain ⟨_, h1, _⟩ := h; cases h1

def drawW (c : Cfg) (loc : List Nat) (al : List (Nat × Nat)) (bad : List Nat) (ops : Array Oper) (bef : Array Nat) : Nat → List Oper → RS → (RS → Prop) → Prop
  | _, [], s, K => K s
  | i, o :: l, s, K => stepDW c loc al bad ops bef i o s fun s' => drawW c loc al bad ops bef (i + 1) l s' K

def drawK (c : Cfg) (loc : List Nat) (al : List (Nat × Nat)) (bad : List Nat) (ops : Array Oper) (bef : Array Nat) (i : Nat) (l : List Oper) (K : RS → Prop) (s : RS) : Prop := drawW c loc al bad ops bef i l s K
theorem drawW_nil (c : Cfg) (loc : List Nat) (al : List (Nat × Nat)) (bad : List Nat) (ops : Array Oper) (bef : Array Nat) (i : Nat) (s : RS) (K : RS → Prop) : drawW c loc al bad ops bef i [] s K = K s := rfl
theorem drawW_cons (c : Cfg) (loc : List Nat) (al : List (Nat × Nat)) (bad : List Nat) (ops : Array Oper) (bef : Array Nat) (i : Nat) (o : Oper) (l : List Oper) (s : RS) (K : RS → Prop) : drawW c loc al bad ops bef i (o :: l) s K = stepDW c loc al bad ops bef i o s (drawK c loc al bad ops bef (i + 1) l K) := rfl

theorem drawW_P {c : Cfg} {loc : List Nat} {al : List (Nat × Nat)} {bad : List Nat} {ops : Array Oper} {bef : Array Nat} {K : RS → Prop} : ∀ (l : List Oper) (i : Nat) (s : RS), drawW c loc al bad ops bef i l s K → runDraw (ansP c) c loc al bad ops bef i l s K
  | [], i, s, h => h
  | o :: l, i, s, h => stepDP_mono (fun s' => drawW_P l (i + 1) s') (stepDW_P h)

/-- slots that point into cells of the frame -/
def aliasAdd (p : Option (Nat × Nat)) (d : Option Nat) (acc : List (Nat × Nat)) : List (Nat × Nat) :=
  match p, d with
  | some ts, some d => (d, ts.2) :: acc
  | _, _ => acc
def aliasOne (loc : List Nat) (acc : List (Nat × Nat)) (o : Oper) : Option (Nat × Nat) :=
  match o.op with | .move x | .nilCheck x | .fieldAddr _ x _ | .indexAddr _ x _ => slotOf loc acc x | _ => none
theorem aliasPairs_nil (loc : List Nat) (acc : List (Nat × Nat)) : aliasPairs loc [] acc = acc := rfl
theorem aliasPairs_cons (loc : List Nat) (o : Oper) (l : List Oper) (acc : List (Nat × Nat)) : aliasPairs loc (o :: l) acc = aliasPairs loc l (aliasAdd (aliasOne loc acc o) o.dst acc) := by
  show (match aliasOne loc acc o, o.dst with
    | some ts, some d => aliasPairs loc l ((d, ts.2) :: acc)
    | _, _ => aliasPairs loc l acc) = _
  unfold aliasAdd
  cases aliasOne loc acc o <;> cases o.dst <;> rfl
theorem aliasPairs_none (l : List Oper) : aliasPairs [] l [] = [] := by
  induction l with
  | nil => rfl
  | cons o l ih =>
    rw [aliasPairs_cons]
    have h : aliasOne [] [] o = none := by
      unfold aliasOne slotOf
      split
      all_goals first | rfl | (split <;> rfl)
    rw [h]; exact ih

def finK (an : FnAnn) (id : Nat) (als : List Nat) (K : List AVal → AHeap → Prop) (s : RS) : Prop := K (clearAll (clearOf an id) (clearAll als s.env)) s.h
def keysOf : List (Nat × Nat) → List Nat
  | [] => []
  | p :: l => p.1 :: keysOf l
theorem keysOf_map : ∀ l : List (Nat × Nat), l.map (·.1) = keysOf l
  | [] => rfl
  | p :: l => by simp [keysOf, keysOf_map l]
def joinN : List Nat → List Nat → List Nat
  | [], b => b
  | x :: a, b => x :: joinN a b
theorem joinN_eq : ∀ a b : List Nat, a ++ b = joinN a b
  | [], b => rfl
  | x :: a, b => by simp [joinN, joinN_eq a b]
def regW (c : Cfg) (an : FnAnn) (id : Nat) (ops : Array Oper) (draw : Bool) (al : List (Nat × Nat)) (env : List AVal) (h : AHeap) (K : List AVal → AHeap → Prop) : Prop :=
  match draw with
  | false => textW c an.locals al (joinN (keysOf al) an.locals) ops ops.toList (rs0 env h) (finK an id (keysOf al) K)
  | true => drawW c an.locals al (joinN (keysOf al) an.locals) ops (Region.before ops) 0 ops.toList (rs0 env h) (finK an id (keysOf al) K)
def regionW (c : Cfg) (an : FnAnn) (id : Nat) (ops : Array Oper) (draw : Bool) (env : List AVal) (h : AHeap) (K : List AVal → AHeap → Prop) : Prop :=
  regW c an id ops draw (aliasPairs an.locals ops.toList []) env h K

theorem regionW_P {c : Cfg} {an : FnAnn} {id : Nat} {ops : Array Oper} {draw : Bool} {env : List AVal} {h : AHeap} {K : List AVal → AHeap → Prop} (q : regionW c an id ops draw env h K) : regionK (ansP c) c an id ops draw env h K := by
  unfold regionW regW at q
  unfold regionK
  cases draw with
  | false => simp only [keysOf_map, joinN_eq]; exact textW_P _ _ q
  | true => simp only [keysOf_map, joinN_eq]; exact drawW_P _ _ _ q

/-- a branch -/
def condW (r : Res AVal) (yes no : Unit → Prop) : Prop := ∃ t, r = .ok (.bool t) ∧ (t = true → yes ()) ∧ (t = false → no ())
theorem condW_ok (b : Bool) (yes no : Unit → Prop) : condW (.ok (.bool b)) yes no = orW b yes no := by unfold condW orW; simp

/-- the ends of code -/
def ends (K : List AVal → AHeap → Prop) (E : Nat → List AVal → AHeap → Prop) (R : List AVal → AHeap → Prop) (G : Nat → List AVal → AHeap → Prop) : AExit → List AVal → AHeap → Prop
  | .normal => K
  | .exit id => E id
  | .ret => R
  | .goto l => G l

def wp (c : Cfg) (f : Nat) : Code → (List AVal → AHeap → Prop) → (Nat → List AVal → AHeap → Prop) → (List AVal → AHeap → Prop) → (Nat → List AVal → AHeap → Prop) → List AVal → AHeap → Prop
  | .skip, K, _, _, _, env, h => K env h
  | .label _, K, _, _, _, env, h => K env h
  | .seq a b, K, E, R, G, env, h => wp c f a (fun env h => wp c f b K E R G env h) E R G env h
  | .cond x a b, K, E, R, G, env, h => condW (opnd (c.ann f).locals env x) (fun _ => wp c f a K E R G env h) (fun _ => wp c f b K E R G env h)
  | .block id a, K, E, R, G, env, h => wp c f a K (fun id' env h => if id' = id then K env h else E id' env h) R G env h
  | .region id ops draw, K, _, _, _, env, h => regionW c (c.ann f) id ops draw env h K
  | .exit id, _, E, _, _, env, h => E id env h
  | .goto l, _, _, _, G, env, h => G l env h
  | .ret, _, _, R, _, env, h => R env h
  | .loop a, K, E, R, G, env, h => Xv c f (.loop a) env h (ends K E R G)
  | .scope a, K, E, R, G, env, h => wp c f a K E R (fun l env h => match findLabel a l with
      | some rest => Xs c f a rest env h (ends K E R G)
      | none => G l env h) env h
  | _, _, _, _, _, _, _ => False

section
variable (c : Cfg) (f : Nat) (K : List AVal → AHeap → Prop) (E : Nat → List AVal → AHeap → Prop) (R : List AVal → AHeap → Prop) (G : Nat → List AVal → AHeap → Prop)
def seqK (b : Code) (env : List AVal) (h : AHeap) : Prop := wp c f b K E R G env h
def wpT (a : Code) (env : List AVal) (h : AHeap) (_ : Unit) : Prop := wp c f a K E R G env h
def blkE (id id' : Nat) (env : List AVal) (h : AHeap) : Prop := if id' = id then K env h else E id' env h
def scpG (a : Code) (l : Nat) (env : List AVal) (h : AHeap) : Prop := match findLabel a l with
      | some rest => Xs c f a rest env h (ends K E R G)
      | none => G l env h
variable (env : List AVal) (h : AHeap)
theorem wp_skip : wp c f .skip K E R G env h = K env h := rfl
theorem wp_label (l : Nat) : wp c f (.label l) K E R G env h = K env h := rfl
theorem wp_exit (id : Nat) : wp c f (.exit id) K E R G env h = E id env h := rfl
theorem wp_goto (l : Nat) : wp c f (.goto l) K E R G env h = G l env h := rfl
theorem wp_ret : wp c f .ret K E R G env h = R env h := rfl
theorem wp_seq (a b : Code) : wp c f (.seq a b) K E R G env h = wp c f a (seqK c f K E R G b) E R G env h := rfl
theorem wp_cond (x : Operand) (a b : Code) : wp c f (.cond x a b) K E R G env h = condW (opnd (c.ann f).locals env x) (wpT c f K E R G a env h) (wpT c f K E R G b env h) := rfl
theorem wp_block (id : Nat) (a : Code) : wp c f (.block id a) K E R G env h = wp c f a K (blkE K E id) R G env h := rfl
theorem wp_region (id : Nat) (ops : Array Oper) (draw : Bool) : wp c f (.region id ops draw) K E R G env h = regionW c (c.ann f) id ops draw env h K := rfl
theorem wp_loop (a : Code) : wp c f (.loop a) K E R G env h = Xv c f (.loop a) env h (ends K E R G) := rfl
theorem wp_scope (a : Code) : wp c f (.scope a) K E R G env h = wp c f a K E R (scpG c f K E R G a) env h := rfl
end

theorem wp_Xv {c : Cfg} {f : Nat} : ∀ (a : Code) {K : List AVal → AHeap → Prop} {E : Nat → List AVal → AHeap → Prop} {R : List AVal → AHeap → Prop} {G : Nat → List AVal → AHeap → Prop} {env : List AVal} {h : AHeap}, wp c f a K E R G env h → Xv c f a env h (ends K E R G)
  | .skip, _, _, _, _, _, _, q => .skip q
  | .label _, _, _, _, _, _, _, q => .label q
  | .exit _, _, _, _, _, _, _, q => .exit q
  | .goto _, _, _, _, _, _, _, q => .goto q
  | .ret, _, _, _, _, _, _, q => .ret q
  | .region _ _ _, _, _, _, _, _, _, q => .region (regionW_P q)
  | .loop _, _, _, _, _, _, _, q => q
  | .seq a b, _, _, _, _, _, _, q => by
    refine .seq ((wp_Xv a q).mono fun e env h q => ?_)
    cases e with
    | normal => exact wp_Xv b q
    | _ => exact q
  | .cond x a b, _, _, _, _, _, _, q => by
    obtain ⟨t, h1, h2, h3⟩ := q
    refine .cond h1 ?_
    cases t with
    | true => exact wp_Xv a (h2 rfl)
    | false => exact wp_Xv b (h3 rfl)
  | .block id a, _, _, _, _, _, _, q => by
    refine .block ((wp_Xv a q).mono fun e env h q => ?_)
    cases e with
    | exit id' =>
      simp only [ends] at q
      simp only [Xblock]
      split <;> rename_i hh
      · rw [if_pos hh] at q; exact q
      · rw [if_neg hh] at q; exact q
    | _ => exact q
  | .scope a, _, _, _, _, _, _, q => by
    refine .scope (.of ((wp_Xv a q).mono fun e env h q => ?_))
    cases e with
    | goto l => exact q
    | _ => exact q
  | .refuse .., _, _, _, _, _, _, q => q.elim
  | .rangeFunc .., _, _, _, _, _, _, q => q.elim

section
variable {c : Cfg} {f : Nat} {K : List AVal → AHeap → Prop} {E : Nat → List AVal → AHeap → Prop} {R : List AVal → AHeap → Prop} {G : Nat → List AVal → AHeap → Prop}

def headK (I : Nat → List AVal → AHeap → Prop) (n : Nat) (env : List AVal) (h : AHeap) : Prop := ∃ m, m < n ∧ I m env h

/-- a loop, by what holds at its head; the number goes down -/
theorem loop_of {a : Code} (I : Nat → List AVal → AHeap → Prop) (hI : ∀ n env h, I n env h → wp c f a (headK I n) E R G env h) (n : Nat) {env : List AVal} {h : AHeap} (h0 : I n env h) :
    Xv c f (.loop a) env h (ends K E R G) := by
  refine Xv.loop I (fun n env h hi => (wp_Xv a (hI n env h hi)).mono fun e env' h' q => ?_) n env h h0
  cases e with
  | normal => exact q
  | _ => exact q

/-- from a label on -/
theorem label_of {body rest : Code} {env : List AVal} {h : AHeap} (q : wp c f rest K E R (scpG c f K E R G body) env h) : Xs c f body rest env h (ends K E R G) := by
  refine .of ((wp_Xv rest q).mono fun e env h q => ?_)
  cases e with
  | goto l => exact q
  | _ => exact q

/-- a loop by a label; the number goes down -/
theorem goto_of {body rest : Code} (I : Nat → List AVal → AHeap → Prop) (hI : ∀ n env h, (∀ m, m < n → ∀ env h, I m env h → Xs c f body rest env h (ends K E R G)) → I n env h → wp c f rest K E R (scpG c f K E R G body) env h) : ∀ (n : Nat) {env : List AVal} {h : AHeap}, I n env h → Xs c f body rest env h (ends K E R G) := by
  intro n
  induction n using Nat.strongRecOn with
  | _ n ih => intro env h h0; exact label_of (hI n env h (fun m hm env h q => ih m hm q) h0)

def retK (c : Cfg) (f : Nat) (rs : List ResultVar) (Q : AVal → AHeap → Prop) (env : List AVal) (h : AHeap) : Prop := bndW (resultsR c (c.ann f).locals env h rs) fun vs => Q (packR vs) h
def noE (_ : Nat) (_ : List AVal) (_ : AHeap) : Prop := False

theorem Ev.wp {args : List AVal} {h : AHeap} {Q : AVal → AHeap → Prop} {fn : Func} {code : Code} (hp : c.prim f = none) (hok : (c.ann f).ok = true) (hf : c.P.funcs[f]? = some fn) (hb : fn.body = some code)
    (hq : YtofnbldbggddmaaGreatDoor.wp c f code (retK c f fn.results.toList Q) noE (retK c f fn.results.toList Q) noE (args ++ List.replicate (fn.ntmps - args.length) .dead) h) : Ev c f args h Q := by
  refine Ev.of hp hok hf hb ((wp_Xv code hq).mono fun e env h q => ?_)
  cases e with
  | normal => exact q
  | ret => exact q
  | exit => exact q.elim
  | goto => exact q.elim
end

end Go.Proofs.YtofnbldbggddmaaGreatDoor
set_option linter.all false
namespace Go.Proofs.YtofnbldbggddmaaGreatDoor
open Go Go.RowKit


/-! cells of a value -/
@[simp] theorem ce_agg (vs : List AVal) : cellsV (.agg vs) = .ok vs := rfl
@[simp] theorem ce_bool (b : Bool) : cellsV (.bool b) = .ok [.bool b] := rfl
@[simp] theorem ce_int (k : IntKind) (n : Int) : cellsV (.int k n) = .ok [.int k n] := rfl
@[simp] theorem ce_float (k : FloatKind) (n : Nat) : cellsV (.float k n) = .ok [.float k n] := rfl
@[simp] theorem ce_cplx (k : FloatKind) (n m : Nat) : cellsV (.cplx k n m) = .ok [.cplx k n m] := rfl
@[simp] theorem ce_str (s : List UInt8) : cellsV (.str s) = .ok [.str s] := rfl
@[simp] theorem ce_nilp  : cellsV (.nilp) = .ok [.nilp] := rfl
@[simp] theorem ce_ptr (n m : Nat) : cellsV (.ptr n m) = .ok [.ptr n m] := rfl
@[simp] theorem ce_rptr (n m : Nat) : cellsV (.rptr n m) = .ok [.rptr n m] := rfl
@[simp] theorem ce_nils  : cellsV (.nils) = .ok [.nils] := rfl
@[simp] theorem ce_sl (n m o : Nat) : cellsV (.sl n m o) = .ok [.sl n m o] := rfl
@[simp] theorem ce_slc (n m o q : Nat) : cellsV (.slc n m o q) = .ok [.slc n m o q] := rfl
@[simp] theorem ce_rsl (n m o : Nat) : cellsV (.rsl n m o) = .ok [.rsl n m o] := rfl
@[simp] theorem ce_nilm  : cellsV (.nilm) = .ok [.nilm] := rfl
@[simp] theorem ce_map (n : Nat) : cellsV (.map n) = .ok [.map n] := rfl
@[simp] theorem ce_func (n : Nat) (a b : List AVal) : cellsV (.func n a b) = .ok [.func n a b] := rfl
@[simp] theorem ce_nilf  : cellsV (.nilf) = .ok [.nilf] := rfl
@[simp] theorem ce_iface (n : Nat) (v : AVal) : cellsV (.iface n v) = .ok [.iface n v] := rfl
@[simp] theorem ce_nili  : cellsV (.nili) = .ok [.nili] := rfl

/-! what is told by the first look at a value -/
def indexAddrC (P : Program) (t : Nat) (x i : AVal) : Res AVal :=
  (undR P t).bind fun
  | .slice e => (sizeR P e).bind fun size => match x with
    | .sl o off len | .slc o off len _ => (idxNat i len).bind fun n => .ok (.ptr o (off + n * size))
    | .rsl r off len => (idxNat i len).bind fun n => .ok (.rptr r (off + n * size))
    | _ => .err 95
  | .array len e => (sizeR P e).bind fun size => (idxNat i len).bind fun n => addOff x (n * size)
  | _ => .err 96
section
variable (P : Program) (t : Nat) (i : AVal) (o off len cap : Nat)
@[simp] theorem ia_sl : indexAddrR P t (.sl o off len) i = indexAddrC P t (.sl o off len) i := rfl
@[simp] theorem ia_slc : indexAddrR P t (.slc o off len cap) i = indexAddrC P t (.slc o off len cap) i := rfl
@[simp] theorem ia_rsl : indexAddrR P t (.rsl o off len) i = indexAddrC P t (.rsl o off len) i := rfl
@[simp] theorem ia_ptr : indexAddrR P t (.ptr o off) i = indexAddrC P t (.ptr o off) i := rfl
@[simp] theorem ia_rptr : indexAddrR P t (.rptr o off) i = indexAddrC P t (.rptr o off) i := rfl
end
def loadC (c : Cfg) (h : AHeap) (t : Nat) (x : AVal) : Res AVal := (rowR c h x).bind fun r => partR c.P t r.1 r.2
def storeC (c : Cfg) (h : AHeap) (t : Nat) (x v : AVal) : Res AHeap :=
  match x with
  | .ptr o off => match h.get o with
    | some (.row e f vs) => (sizeR c.P t).bind fun n => (cellsV v).bind fun cs =>
        if cs.length = n then (overR vs off cs).bind fun vs' => .ok (h.set o (.row e f vs')) else .err 33
    | _ => .err 34
  | _ => .err 35
def lenC (c : Cfg) (h : AHeap) (t : Nat) (x : AVal) : Res AVal :=
  (undR c.P t).bind fun
  | .string => match x with
    | .str s => .ok (.int .i64 s.length)
    | _ => .err 148
  | .slice _ => match x with
    | .str _ => .err 149
    | x => (lenA x).bind fun n => .ok (.int .i64 n)
  | .map _ _ => (entriesR h x).bind fun es => .ok (.int .i64 es.length)
  | .array n _ => .ok (.int .i64 n)
  | .pointer a => (undR c.P a).bind fun
    | .array n _ => .ok (.int .i64 n)
    | _ => .err 150
  | _ => .err 151
section
variable (c : Cfg) (h : AHeap) (t : Nat) (v : AVal) (o off len cap : Nat) (s : List UInt8) (vs : List AVal)
@[simp] theorem lo_ptr : loadR c h t (.ptr o off) = loadC c h t (.ptr o off) := rfl
@[simp] theorem lo_rptr : loadR c h t (.rptr o off) = loadC c h t (.rptr o off) := rfl
@[simp] theorem st_ptr : storeR c h t (.ptr o off) v = storeC c h t (.ptr o off) v := rfl
@[simp] theorem le_nils : lenR c h t .nils = lenC c h t .nils := rfl
@[simp] theorem le_sl : lenR c h t (.sl o off len) = lenC c h t (.sl o off len) := rfl
@[simp] theorem le_slc : lenR c h t (.slc o off len cap) = lenC c h t (.slc o off len cap) := rfl
@[simp] theorem le_rsl : lenR c h t (.rsl o off len) = lenC c h t (.rsl o off len) := rfl
@[simp] theorem le_str : lenR c h t (.str s) = lenC c h t (.str s) := rfl
@[simp] theorem le_nilm : lenR c h t .nilm = lenC c h t .nilm := rfl
@[simp] theorem le_map : lenR c h t (.map o) = lenC c h t (.map o) := rfl
@[simp] theorem le_ptr : lenR c h t (.ptr o off) = lenC c h t (.ptr o off) := rfl
@[simp] theorem le_agg : lenR c h t (.agg vs) = lenC c h t (.agg vs) := rfl
@[simp] theorem la_nils : lenA .nils = .ok 0 := rfl
@[simp] theorem la_sl : lenA (.sl o off len) = .ok len := rfl
@[simp] theorem la_slc : lenA (.slc o off len cap) = .ok len := rfl
@[simp] theorem la_rsl : lenA (.rsl o off len) = .ok len := rfl
@[simp] theorem la_str : lenA (.str s) = .ok s.length := rfl
@[simp] theorem nc_ptr : nilCheckR (.ptr o off) = .ok (.ptr o off) := rfl
@[simp] theorem nc_rptr : nilCheckR (.rptr o off) = .ok (.rptr o off) := rfl
@[simp] theorem ao_ptr (n : Nat) : addOff (.ptr o off) n = .ok (.ptr o (off + n)) := rfl
@[simp] theorem ao_rptr (n : Nat) : addOff (.rptr o off) n = .ok (.rptr o (off + n)) := rfl
@[simp] theorem rs_nils (sz n : Nat) : readSl c h sz n .nils = if n = 0 then .ok [] else .err 40 := rfl
@[simp] theorem rs_sl (sz n : Nat) : readSl c h sz n (.sl o off len) = (if n = 0 then .ok [] else match h.get o with
    | some (.row _ _ vs) => takeR vs off (n * sz)
    | _ => .err 41) := rfl
@[simp] theorem rs_slc (sz n : Nat) : readSl c h sz n (.slc o off len cap) = (if n = 0 then .ok [] else match h.get o with
    | some (.row _ _ vs) => takeR vs off (n * sz)
    | _ => .err 41) := rfl
@[simp] theorem rs_rsl (sz n : Nat) : readSl c h sz n (.rsl o off len) = (if n = 0 then .ok [] else match c.ro o with
    | some vs => takeR vs off (n * sz)
    | none => .err 42) := rfl
@[simp] theorem rs_str (sz n : Nat) : readSl c h sz n (.str s) = if sz = 1 ∧ n ≤ s.length then .ok ((s.take n).map fun b => .int .u8 b.toNat) else .err 45 := rfl
end

attribute [simp] readsW textW_nil textW_cons drawW_nil drawW_cons stepW stepDW histW gW readY readN blkE
section
variable (c : Cfg) (bad : List Nat) (al : List (Nat × Nat)) (o : Oper) (env : List AVal) (h b : AHeap) (hi : List (Nat × AHeap)) (rd : List (Nat × (AHeap → Res AVal) × AVal)) (K : RS → Prop)
@[simp] theorem makeK_mk (d : Nat) (vs : List AVal) : makeK al d ⟨env, h, b, hi, rd⟩ K vs = K ⟨setN (clearAll (aliasTo al d) env) d (.cell vs), h, b, hi, rd⟩ := rfl
@[simp] theorem storeK_mk (d : Nat) (vs : List AVal) : storeK d ⟨env, h, b, hi, rd⟩ K vs = K ⟨setN env d (.cell vs), h, b, hi, rd⟩ := rfl
@[simp] theorem valK_mk (v : AVal) : valK o ⟨env, h, b, hi, rd⟩ K v = K ⟨putD env o v, h, b, hi, rd⟩ := rfl
@[simp] theorem locK_mk (n : Nat × Bool) : locK o ⟨env, h, b, hi, rd⟩ K n = K ⟨putD env o (.loc n.1 n.2), h, b, hi, rd⟩ := rfl
@[simp] theorem pairK_mk (r : AVal × AHeap) : pairK o ⟨env, h, b, hi, rd⟩ K r = K ⟨putD env o r.1, r.2, b, hi, rd⟩ := rfl
@[simp] theorem resK_mk (v : AVal) (h' : AHeap) : resK o ⟨env, h, b, hi, rd⟩ K v h' = K ⟨putD env o v, h', b, hi, rd⟩ := rfl
@[simp] theorem skipK_mk (u : Unit) : skipK o ⟨env, h, b, hi, rd⟩ K u = K ⟨putD env o (.tuple []), h, b, hi, rd⟩ := rfl
@[simp] theorem skipL_mk (u : Unit) : skipL o ⟨env, h, b, hi, rd⟩ K u = K ⟨putD env o (.loc 0 false), h, b, hi, rd⟩ := rfl
@[simp] theorem callK_mk (fa : Nat × List AVal) : callK o ⟨env, h, b, hi, rd⟩ K c fa = Ev c fa.1 fa.2 h (resK o ⟨env, h, b, hi, rd⟩ K) := rfl
@[simp] theorem callY_mk (x : Call) (u : Unit) : callY c bad o x ⟨env, h, b, hi, rd⟩ K u = bndW (calleeR c bad env x) (callK o ⟨env, h, b, hi, rd⟩ K c) := rfl
@[simp] theorem opY_mk (u : Unit) : opY c bad o ⟨env, h, b, hi, rd⟩ K u = bndW (opR c bad env h o) (pairK o ⟨env, h, b, hi, rd⟩ K) := rfl
@[simp] theorem aliasY_mk (t sl : Nat) (u : Unit) : aliasY c bad t sl o ⟨env, h, b, hi, rd⟩ K u = bndW (aliasR c.P bad env t sl o) (locK o ⟨env, h, b, hi, rd⟩ K) := rfl
@[simp] theorem loadY_mk (t sl : Nat) (u : Unit) : loadY c t sl o ⟨env, h, b, hi, rd⟩ K u = bndW (loadCell c.P env t sl o) (valK o ⟨env, h, b, hi, rd⟩ K) := rfl
@[simp] theorem impK_mk (bef : Array Nat) (i : Nat) (e2 : List AVal) (h2 b2 : AHeap) (hi2 : List (Nat × AHeap)) (rd2 : List (Nat × (AHeap → Res AVal) × AVal)) : impK bef i ⟨env, h, b, hi, rd⟩ K ⟨e2, h2, b2, hi2, rd2⟩ = (readsW bef i h2 rd2 ∧ K ⟨e2, h2, h2, (i, b) :: hi2, rd2⟩) := rfl
@[simp] theorem readK_mk (ops : Array Oper) (bef : Array Nat) (i : Nat) (v : AVal) : readK c bad ops bef i o ⟨env, h, b, hi, rd⟩ K v = (histW bef i (readAt c bad ops env o) v hi ∧ K ⟨putD env o v, h, b, hi, (i, readAt c bad ops env o, v) :: rd⟩) := rfl
@[simp] theorem readOne_mk : readOne c bad ⟨env, h, b, hi, rd⟩ o = (opR c bad env b o).bind fun r => .ok r.1 := rfl
end
section
variable (c : Cfg) (loc bad als : List Nat) (al : List (Nat × Nat)) (ops : Array Oper) (bef : Array Nat) (i id f : Nat) (an : FnAnn) (draw : Bool) (o : Oper) (l : List Oper) (env : List AVal) (h b : AHeap) (hi : List (Nat × AHeap)) (rd : List (Nat × (AHeap → Res AVal) × AVal)) (K : RS → Prop) (K2 : List AVal → AHeap → Prop) (s : RS)
@[simp] theorem textK_mk : textK c loc al bad ops l K s = textW c loc al bad ops l s K := rfl
@[simp] theorem drawK_mk : drawK c loc al bad ops bef i l K s = drawW c loc al bad ops bef i l s K := rfl
@[simp] theorem finK_mk : finK an id als K2 ⟨env, h, b, hi, rd⟩ = K2 (clearAll (clearOf an id) (clearAll als env)) h := rfl
@[simp] theorem regionW_mk : regionW c an id ops draw env h K2 = regW c an id ops draw (aliasPairs an.locals ops.toList []) env h K2 := rfl
@[simp] theorem regW_f : regW c an id ops false al env h K2 = textW c an.locals al (joinN (keysOf al) an.locals) ops ops.toList ⟨env, h, h, [], []⟩ (finK an id (keysOf al) K2) := rfl
@[simp] theorem regW_t : regW c an id ops true al env h K2 = drawW c an.locals al (joinN (keysOf al) an.locals) ops (Region.before ops) 0 ops.toList ⟨env, h, h, [], []⟩ (finK an id (keysOf al) K2) := rfl
@[simp] theorem orK_mk (yes no : Unit → Prop) (b : Bool) : orK yes no b = orW b yes no := rfl
@[simp] theorem seqK_mk (E : Nat → List AVal → AHeap → Prop) (R : List AVal → AHeap → Prop) (G : Nat → List AVal → AHeap → Prop) (a : Code) : seqK c f K2 E R G a env h = wp c f a K2 E R G env h := rfl
@[simp] theorem wpT_mk (E : Nat → List AVal → AHeap → Prop) (R : List AVal → AHeap → Prop) (G : Nat → List AVal → AHeap → Prop) (a : Code) (u : Unit) : wpT c f K2 E R G a env h u = wp c f a K2 E R G env h := rfl
end

attribute [simp] wp_skip wp_exit wp_goto wp_ret wp_seq wp_cond wp_block wp_region wp_loop wp_scope retK aliasPairs_nil aliasPairs_cons aliasPairs_none aliasAdd aliasOne keysOf joinN
attribute [simp] callOf how opR pureV opnd opnds opndParts nth setN putD clearAll clearOf slotOf lookN ifG wantedR toA toA1 ofOpt
attribute [simp] resultsR packR builtinR binR eqGuardA guardOk isConstOp aliasR baseOff stepOff loadCell storeCell cellAt makeCells aliasTo indexAddrC indexR rowR partR nthR lenC loadC storeC
attribute [simp] bndW_ok bndW_err bndW_bind orW_t orW_f orW_n orW_et orW_ef condW_ok extractR calleeR optR AVal.isCell convR readAt fillR boxR newRow kindOf sliceR lenSl findLabel
attribute [simp] List.replicate

theorem orD {p : Prop} [Decidable p] {y n : Unit → Prop} (h1 : p → y ()) (h2 : ¬p → n ()) : orW (decide p) y n := by rw [orW_d]; exact ⟨h1, h2⟩
theorem orB {b : Bool} {y n : Unit → Prop} (h1 : b = true → y ()) (h2 : b = false → n ()) : orW b y n := ⟨h1, h2⟩

@[simp] theorem bndW_ifE {α : Type} (p : Prop) [Decidable p] (n : Nat) (r : Res α) (K : α → Prop) : bndW (if p then .err n else r) K = (¬p ∧ bndW r K) := by
  by_cases h : p <;> simp [h]
@[simp] theorem bndW_ifT {α : Type} (p : Prop) [Decidable p] (n : Nat) (r : Res α) (K : α → Prop) : bndW (if p then r else .err n) K = (p ∧ bndW r K) := by
  by_cases h : p <;> simp [h]
def iand (k : IntKind) (a b : Int) : Int := k.wrap (BitVec.ofInt k.bits a &&& BitVec.ofInt k.bits b).toNat
def ior (k : IntKind) (a b : Int) : Int := k.wrap (BitVec.ofInt k.bits a ||| BitVec.ofInt k.bits b).toNat
def ixor (k : IntKind) (a b : Int) : Int := k.wrap (BitVec.ofInt k.bits a ^^^ BitVec.ofInt k.bits b).toNat
def ishl (k : IntKind) (a b : Int) : Int := k.wrap (a * 2 ^ (min b.toNat k.bits))
def ishr (k : IntKind) (a b : Int) : Int := a.fdiv (2 ^ (min b.toNat k.bits))
def inot (k : IntKind) (n : Int) : Int := k.wrap (BitVec.ofInt k.bits (if k.signed then -1 else k.max) ^^^ BitVec.ofInt k.bits n).toNat
section
variable (k : IntKind) (a b : Int)
@[simp] theorem sh_l : shiftBin .shl k a b = if b < 0 then .err 52 else .ok (.int k (ishl k a b)) := rfl
@[simp] theorem sh_r : shiftBin .shr k a b = if b < 0 then .err 52 else .ok (.int k (ishr k a b)) := rfl
@[simp] theorem un_xor : unR .xor (.int k a) = .ok (.int k (inot k a)) := rfl
@[simp] theorem un_neg : unR .neg (.int k a) = .ok (.int k (k.wrap (0 - a))) := rfl
@[simp] theorem un_not (b : Bool) : unR .not (.bool b) = .ok (.bool (!b)) := rfl
@[simp] theorem ib_add : intBin .add k a b = .ok (.int k (k.wrap (a + b))) := rfl
@[simp] theorem ib_sub : intBin .sub k a b = .ok (.int k (k.wrap (a - b))) := rfl
@[simp] theorem ib_mul : intBin .mul k a b = .ok (.int k (k.wrap (a * b))) := rfl
@[simp] theorem ib_quo : intBin .quo k a b = if b = 0 then .err 50 else .ok (.int k (k.wrap (a.tdiv b))) := rfl
@[simp] theorem ib_rem : intBin .rem k a b = if b = 0 then .err 50 else .ok (.int k (a.tmod b)) := rfl
@[simp] theorem ib_and : intBin .and k a b = .ok (.int k (iand k a b)) := rfl
@[simp] theorem ib_or : intBin .or k a b = .ok (.int k (ior k a b)) := rfl
@[simp] theorem ib_xor : intBin .xor k a b = .ok (.int k (ixor k a b)) := rfl
@[simp] theorem ib_eql : intBin .eql k a b = .ok (.bool (decide (a = b))) := by
  show Res.ok (AVal.bool (a == b)) = _
  congr 2
@[simp] theorem ib_neq : intBin .neq k a b = .ok (.bool (!decide (a = b))) := by
  show Res.ok (AVal.bool (a != b)) = _
  congr 2
@[simp] theorem ib_lss : intBin .lss k a b = .ok (.bool (decide (a < b))) := rfl
@[simp] theorem ib_leq : intBin .leq k a b = .ok (.bool (decide (a ≤ b))) := rfl
@[simp] theorem ib_gtr : intBin .gtr k a b = .ok (.bool (decide (b < a))) := rfl
@[simp] theorem ib_geq : intBin .geq k a b = .ok (.bool (decide (b ≤ a))) := rfl
end
section
variable (x y : List UInt8)
@[simp] theorem sb_add : strBin .add x y = if ((x.length + y.length : Nat) : Int) > IntKind.i64.max then .err 54 else .ok (.str (x ++ y)) := rfl
@[simp] theorem sb_eql : strBin .eql x y = .ok (.bool (decide (x = y))) := by
  show Res.ok (AVal.bool (x == y)) = _
  rw [show (x == y) = decide (x = y) by rw [Bool.eq_iff_iff]; simp]
@[simp] theorem sb_neq : strBin .neq x y = .ok (.bool (!decide (x = y))) := by
  show Res.ok (AVal.bool (!(x == y))) = _
  rw [show (x == y) = decide (x = y) by rw [Bool.eq_iff_iff]; simp]
end

theorem w64 {n : Int} (h1 : -9223372036854775808 ≤ n) (h2 : n < 9223372036854775808) : IntKind.i64.wrap n = n := by
  rw [IntKind.wrap_i64]; omega
theorem headK.mk {I : Nat → List AVal → AHeap → Prop} {n m : Nat} {env : List AVal} {h : AHeap} (h1 : m < n) (h2 : I m env h) : headK I n env h := ⟨m, h1, h2⟩

theorem label_loop {c : Cfg} {f : Nat} {K K0 : List AVal → AHeap → Prop} {E E1 : Nat → List AVal → AHeap → Prop} {R R1 : List AVal → AHeap → Prop} {G G1 : Nat → List AVal → AHeap → Prop} {body rest : Code} {l : Nat} (I : Nat → List AVal → AHeap → Prop)
    (hx : ∀ env h, wp c f rest K E R (scpG c f K E R G body) env h = K0 env h) (hf : findLabel body l = some (.seq .skip rest))
    (hstep : ∀ n env h, (∀ m, m < n → ∀ env h, I m env h → scpG c f K E R G body l env h) → I n env h → K0 env h) (n : Nat) {env : List AVal} {h : AHeap} (hI : I n env h) : wp c f (.label l) K0 E1 R1 G1 env h := by
  have key : ∀ n env h, I n env h → K0 env h := by
    intro n
    induction n using Nat.strongRecOn with
    | _ n ih =>
      intro env h hi
      refine hstep n env h (fun m hm env h hi => ?_) hi
      unfold scpG
      rw [hf]
      refine label_of ?_
      have h1 := ih m hm env h hi
      rw [← hx] at h1
      exact h1
  exact key n env h hI

theorem nthR_get : ∀ {l : List AVal} {n : Nat} {v : AVal}, l[n]? = some v → nthR l n = .ok v
  | [], n, v, h => by simp at h
  | a :: l, 0, v, h => by simp at h; rw [h]; rfl
  | a :: l, n + 1, v, h => nthR_get (l := l) (by simpa using h)
@[simp] theorem takeR_cons (a : AVal) (l : List AVal) (off n : Nat) : takeR (a :: l) off n = if off + n ≤ (a :: l).length then .ok (((a :: l).drop off).take n) else .err 11 := rfl
@[simp] theorem overR_cons (a : AVal) (l : List AVal) (off : Nat) (cs : List AVal) : overR (a :: l) off cs = if off + cs.length ≤ (a :: l).length then .ok ((a :: l).take off ++ cs ++ (a :: l).drop (off + cs.length)) else .err 12 := rfl
@[simp] theorem get_push_next (h : AHeap) (x : AObj) : (h.push x).get h.next = some x := by rw [AHeap.get_push]; simp
theorem Old.get {h h' : AHeap} {o : Nat} {x : AObj} (k : ∀ o, o < h.next → h'.get o = h.get o) (hx : h.get o = some x) (ho : o < h.next) : h'.get o = some x := by rw [k o ho, hx]

/-- one answer, worked out -/
theorem bind_ok {α β : Type} (a : α) (K : α → Res β) : Res.bind (.ok a) K = K a := rfl

theorem ix_int {k : IntKind} {i : Int} {n : Nat} (h0 : 0 ≤ i) (h : i < n) : idxNat (.int k i) n = .ok i.toNat := by
  unfold idxNat; simp [h0, h]
theorem ix_nat {k : IntKind} {i n : Nat} (h : i < n) : idxNat (.int k i) n = .ok i := by
  unfold idxNat; simp [h]
theorem bd_int {k : IntKind} {i : Int} {n : Nat} (h0 : 0 ≤ i) (h : i ≤ n) : boundR (.int k i) n = .ok i.toNat := by
  unfold boundR; simp [h0, h]
theorem bd_nat {k : IntKind} {i n : Nat} (h : i ≤ n) : boundR (.int k i) n = .ok i := by
  unfold boundR; simp [h]

/-- an append, with the sizes worked out -/
def appCore (size bytes : Nat) (h : AHeap) (s : AVal) (n : Nat) (new : List AVal) : Res (AVal × AHeap) :=
  match s with
  | .nils => if n = 0 then .ok (.nils, h) else if n * bytes > 2 ^ 47 then .err 132 else .ok (.sl h.next 0 n, h.push (.row size false new))
  | .sl o off len => match h.get o with
    | some (.row esz fz vs) =>
      if esz = size then
        if off + (len + n) * size ≤ vs.length then (overR vs (off + len * size) new).bind fun vs' => .ok (.sl o off (len + n), h.set o (.row esz fz vs'))
        else if (len + n) * bytes > 2 ^ 47 then .err 133 else
        (takeR vs off (len * size)).bind fun old => .ok (.sl h.next 0 (len + n), (h.del o).push (.row size true (old ++ new)))
      else .err 134
    | _ => .err 135
  | .slc o off len cap => match h.get o with
    | some (.row esz fz vs) =>
      if len + n ≤ cap then (overR vs (off + len * size) new).bind fun vs' => .ok (.slc o off (len + n) cap, h.set o (.row esz fz vs'))
      else if (len + n) * bytes > 2 ^ 47 then .err 136 else
      (takeR vs off (len * size)).bind fun old => .ok (.sl h.next 0 (len + n), h.push (.row size false (old ++ new)))
    | _ => .err 137
  | .rsl r off len => if n = 0 then .ok (.rsl r off len, h) else .err 138
  | _ => .err 139

@[simp] theorem mk2_ok {α : Type} (u : Unit) (a b : α) : mk2 (.ok u) a b = b := rfl
@[simp] theorem mk2_err {α : Type} (n : Nat) (a b : α) : mk2 (.err n) a b = a := rfl
theorem append_core {c : Cfg} {h : AHeap} {st e size bytes : Nat} {i : TypeInfo} {z : List AVal} (xt : Option Nat) (s x : AVal) (he : elemSl c.P st = .ok e) (hi : infoR c.P e = .ok i) (hz : zeroCellsR c.P e = .ok z) (hs : i.size = size) (hb : i.bytes = bytes)
    (h0 : size ≠ 0) (h1 : bytes ≠ 0) (h2 : z.length = size) :
    appendR c h st xt s x = mk2 (notMake c.P xt) (appMakeR c h st xt s x) ((lenA x).bind fun n => (readSl c h size n x).bind fun new => appCore size bytes h s n new) := by
  subst hs hb
  unfold appendR appendG
  simp only [he, hi, hz, bind_ok]
  have hc : ¬ (i.size = 0 ∨ i.bytes = 0 ∨ z.length ≠ i.size) := by simp [h0, h1, h2]
  simp only [if_neg hc]
  rfl

/-- a part of a heap that stays -/
def Old (h h' : AHeap) : Prop := h.next ≤ h'.next ∧ ∀ o, o < h.next → h'.get o = h.get o
theorem Old.refl (h : AHeap) : Old h h := ⟨Nat.le_refl _, fun _ _ => rfl⟩
theorem Old.trans {a b c : AHeap} (h : Old a b) (k : Old b c) : Old a c := ⟨Nat.le_trans h.1 k.1, fun o ho => (k.2 o (Nat.lt_of_lt_of_le ho h.1)).trans (h.2 o ho)⟩
theorem Old.push {h h' : AHeap} (k : Old h h') (x : AObj) : Old h (h'.push x) :=
  ⟨Nat.le_succ_of_le k.1, fun o ho => by rw [AHeap.get_push, if_neg (by have := k.1; omega)]; exact k.2 o ho⟩
theorem Old.set {h h' : AHeap} (k : Old h h') {q : Nat} (hq : h.next ≤ q) (x : AObj) : Old h (h'.set q x) :=
  ⟨k.1, fun o ho => by rw [AHeap.get_set, if_neg (by omega)]; exact k.2 o ho⟩
theorem Old.del {h h' : AHeap} (k : Old h h') {q : Nat} (hq : h.next ≤ q) : Old h (h'.del q) :=
  ⟨k.1, fun o ho => by rw [AHeap.get_del, if_neg (by omega)]; exact k.2 o ho⟩
end Go.Proofs.YtofnbldbggddmaaGreatDoor
set_option linter.all false
namespace Go.Proofs.YtofnbldbggddmaaGreatDoor
open Go Go.RowKit

def elp (v : AVal) (sz i : Nat) : AVal :=
  match v with
  | .sl o f _ => .ptr o (f + i * sz)
  | .slc o f _ _ => .ptr o (f + i * sz)
  | .rsl r f _ => .rptr r (f + i * sz)
  | _ => .dead
def elpo (v : AVal) (sz i d : Nat) : AVal :=
  match v with
  | .sl o f _ => .ptr o (f + i * sz + d)
  | .slc o f _ _ => .ptr o (f + i * sz + d)
  | .rsl r f _ => .rptr r (f + i * sz + d)
  | _ => .dead
def rowOf (c : Cfg) (h : AHeap) (v : AVal) : Option (List AVal × Nat) :=
  match v with
  | .sl o f _ => match h.get o with
    | some (.row _ _ vs) => some (vs, f)
    | _ => none
  | .slc o f _ _ => match h.get o with
    | some (.row _ _ vs) => some (vs, f)
    | _ => none
  | .rsl r f _ => (c.ro r).map fun vs => (vs, f)
  | _ => none
def lowV (h : AHeap) : AVal → Prop
  | .sl o _ _ => o < h.next
  | .slc o _ _ _ => o < h.next
  | _ => True

/-- a slice of elements, each of so many cells -/
structure Sl (c : Cfg) (h : AHeap) (sz : Nat) (v : AVal) (es : List (List AVal)) : Prop where
  len : lenA v = .ok es.length
  noStr : ∀ s, v ≠ .str s
  row : es ≠ [] → ∃ vs f, rowOf c h v = some (vs, f) ∧ ∀ i e, es[i]? = some e → e.length = sz ∧ takeR vs (f + i * sz) sz = .ok e
  low : lowV h v
  room : ∀ o f n, v = .sl o f n → ∃ z vs, h.get o = some (.row sz z vs)

section
variable {c : Cfg} {h : AHeap} {sz : Nat} {v : AVal} {es : List (List AVal)}

theorem Sl.nil {sz : Nat} : Sl c h sz .nils [] := ⟨rfl, (fun s h => by cases h), (fun h => (h rfl).elim), trivial, (fun _ _ _ h => by cases h)⟩
theorem Sl.ro {r f n : Nat} {vs : List AVal} (hr : c.ro r = some vs) (hn : n = es.length) (he : ∀ i e, es[i]? = some e → e.length = sz ∧ takeR vs (f + i * sz) sz = .ok e) : Sl c h sz (.rsl r f n) es :=
  ⟨by rw [hn]; rfl, (fun s h => by cases h), fun _ => ⟨vs, f, by simp [rowOf, hr], he⟩, trivial, (fun _ _ _ h => by cases h)⟩
theorem Sl.old {h' : AHeap} (s : Sl c h sz v es) (ho : Old h h') : Sl c h' sz v es := by
  refine ⟨s.len, s.noStr, fun hne => ?_, ?_, fun o f n hv => ?_⟩
  rotate_left 2
  · subst hv
    obtain ⟨z, vs, h1⟩ := s.room o f n rfl
    exact ⟨z, vs, by rw [ho.2 _ s.low]; exact h1⟩
  · obtain ⟨vs, f, h1, h2⟩ := s.row hne
    refine ⟨vs, f, ?_, h2⟩
    have hl := s.low
    cases v <;> simp only [rowOf, lowV] at h1 hl ⊢ <;> first | exact h1 | (rw [ho.2 _ hl]; exact h1) | cases h1
  · have hl := s.low
    cases v <;> simp only [lowV] at hl ⊢ <;> exact Nat.lt_of_lt_of_le hl ho.1
theorem Sl.lenR (s : Sl c h sz v es) {t e : Nat} (ht : undR c.P t = .ok (.slice e)) : lenR c h t v = .ok (.int .i64 es.length) := by
  have hl := s.len
  unfold YtofnbldbggddmaaGreatDoor.lenR
  rw [ht, Res.ok_bind]
  cases v <;> simp only [lenA] at hl ⊢ <;> first | (cases hl; done) | (exact absurd rfl (s.noStr _)) | (injection hl with hl; simp [hl])
theorem Sl.idx (s : Sl c h sz v es) {P : Program} {t e : Nat} (ht : undR P t = .ok (.slice e)) (hs : sizeR P e = .ok sz) {k : IntKind} {i : Nat} (hi : i < es.length) : indexAddrR P t v (.int k i) = .ok (elp v sz i) := by
  have hl := s.len
  unfold indexAddrR
  rw [ht, Res.ok_bind]
  simp only [hs, Res.ok_bind]
  cases v <;> simp only [lenA] at hl ⊢ <;> first | (cases hl; done) | (injection hl with hl; subst hl; rw [ix_nat hi]; simp [elp]) | (exact absurd rfl (s.noStr _)) | (injection hl with hl; omega)
theorem Sl.rowR (s : Sl c h sz v es) {i : Nat} {e : List AVal} (he : es[i]? = some e) : ∃ vs f, rowR c h (elp v sz i) = .ok (vs, f) ∧ e.length = sz ∧ takeR vs f sz = .ok e := by
  obtain ⟨vs, f, h1, h2⟩ := s.row (by intro h; subst h; simp at he)
  refine ⟨vs, f + i * sz, ?_, h2 i e he⟩
  cases v <;> simp only [rowOf, elp] at h1 ⊢ <;> try (cases h1; done)
  all_goals unfold YtofnbldbggddmaaGreatDoor.rowR
  · split at h1
    · rename_i hg; injection h1 with h1; injection h1 with h3 h4; subst h3 h4; simp [hg]
    · cases h1
  · split at h1
    · rename_i hg; injection h1 with h1; injection h1 with h3 h4; subst h3 h4; simp [hg]
    · cases h1
  · rename_i r f' n
    cases hr : c.ro r with
    | none => rw [hr] at h1; cases h1
    | some ws => rw [hr] at h1; simp at h1; obtain ⟨rfl, rfl⟩ := h1; simp [hr]
theorem takeR_nth {vs e : List AVal} {f n d : Nat} (h : takeR vs f n = .ok e) {x : AVal} (hx : e[d]? = some x) : nthR vs (f + d) = .ok x := by
  unfold takeR at h
  split at h
  · injection h with h
    subst h
    apply nthR_get
    rw [List.getElem?_take] at hx
    split at hx
    · rw [List.getElem?_drop] at hx; exact hx
    · cases hx
  · cases h
theorem Sl.load (s : Sl c h sz v es) {i t : Nat} {e : List AVal} (he : es[i]? = some e) (hg : isAggR c.P t = .ok true) (hs : sizeR c.P t = .ok sz) : loadR c h t (elp v sz i) = .ok (.agg e) := by
  obtain ⟨vs, f, h1, _, h2⟩ := s.rowR he
  unfold loadR partR
  rw [h1, Res.ok_bind, hg, Res.ok_bind]
  simp [hs, h2]
theorem Sl.load1 (s : Sl c h sz v es) {i t : Nat} {e : List AVal} {x : AVal} (he : es[i]? = some e) (hx : e[0]? = some x) (hg : isAggR c.P t = .ok false) : loadR c h t (elp v sz i) = .ok x := by
  obtain ⟨vs, f, h1, _, h2⟩ := s.rowR he
  unfold loadR partR
  rw [h1, Res.ok_bind, hg, Res.ok_bind]
  exact takeR_nth (d := 0) h2 hx
theorem elp_off (s : Sl c h sz v es) {i d : Nat} (hi : i < es.length) : addOff (elp v sz i) d = .ok (elpo v sz i d) := by
  obtain ⟨vs, f, h1, _⟩ := s.row (by intro h; subst h; simp at hi)
  cases v <;> simp only [rowOf] at h1 <;> first | (cases h1; done) | rfl
theorem Sl.loadF (s : Sl c h sz v es) {i d t : Nat} {e : List AVal} {x : AVal} (he : es[i]? = some e) (hx : e[d]? = some x) (hg : isAggR c.P t = .ok false) : loadR c h t (elpo v sz i d) = .ok x := by
  obtain ⟨vs, f, h1, _, h2⟩ := s.rowR he
  unfold loadR partR
  have h3 : YtofnbldbggddmaaGreatDoor.rowR c h (elpo v sz i d) = .ok (vs, f + d) := by
    cases v <;> simp only [elp, elpo] at h1 ⊢ <;> unfold YtofnbldbggddmaaGreatDoor.rowR at h1 ⊢ <;> first | (cases h1; done) | skip
    all_goals (simp only at h1 ⊢; split at h1)
    all_goals first | (injection h1 with h1; injection h1 with h4 h5; subst h4 h5; rfl) | (cases h1; done)
  rw [h3, Res.ok_bind, hg, Res.ok_bind]
  exact takeR_nth h2 hx
theorem Sl.get (s : Sl c h sz v es) {i : Nat} (hi : i < es.length) : ∃ e, es[i]? = some e ∧ e.length = sz := by
  obtain ⟨vs, f, h1, h2⟩ := s.row (by intro h; subst h; simp at hi)
  exact ⟨es[i], by simp [hi], (h2 i es[i] (by simp [hi])).1⟩
end

/-! ### a slice of one's own -/
/-- all of a row of one's own, made behind h0 -/
def Mine (h0 h : AHeap) (sz : Nat) (es : List (List AVal)) (v : AVal) : Prop :=
  (∀ e ∈ es, e.length = sz) ∧ ((es = [] ∧ v = .nils) ∨ ∃ q fz, v = .sl q 0 es.length ∧ h0.next ≤ q ∧ q < h.next ∧ h.get q = some (.row sz fz es.flatten))

theorem flat_len {sz : Nat} : ∀ {es : List (List AVal)}, (∀ e ∈ es, e.length = sz) → es.flatten.length = es.length * sz
  | [], _ => by simp
  | e :: es, h => by
    have h1 := h e (by simp)
    have h2 := flat_len (es := es) (fun x hx => h x (by simp [hx]))
    simp only [List.flatten_cons, List.length_append, List.length_cons, h1, h2, Nat.succ_mul]; omega
theorem flat_take {sz : Nat} : ∀ {es : List (List AVal)}, (∀ e ∈ es, e.length = sz) → ∀ {i : Nat} {e : List AVal}, es[i]? = some e → takeR es.flatten (i * sz) sz = .ok e
  | [], _, i, e, h => by simp at h
  | x :: es, hs, 0, e, h => by
    simp at h; subst h
    have := hs x (by simp)
    unfold takeR
    rw [if_pos (by simp [this])]
    simp [← this]
  | x :: es, hs, i + 1, e, h => by
    have h1 := hs x (by simp)
    have h2 := flat_take (es := es) (fun y hy => hs y (by simp [hy])) (i := i) (e := e) (by simpa using h)
    unfold takeR at h2 ⊢
    split at h2
    · rename_i hle
      injection h2 with h2
      rw [if_pos (by rw [List.flatten_cons, List.length_append, h1, Nat.succ_mul]; omega)]
      rw [List.flatten_cons, List.drop_append, h1, Nat.succ_mul, show i * sz + sz - sz = i * sz by omega, List.drop_of_length_le (by omega), List.nil_append, h2]
    · cases h2

theorem Mine.sl {c : Cfg} {h0 h : AHeap} {sz : Nat} {es : List (List AVal)} {v : AVal} (o : Mine h0 h sz es v) : Sl c h sz v es := by
  obtain ⟨hs, ⟨rfl, rfl⟩ | ⟨q, fz, rfl, h1, h2, h3⟩⟩ := o
  · exact Sl.nil
  · exact ⟨rfl, (fun s h => by cases h), fun _ => ⟨es.flatten, 0, by simp [rowOf, h3], fun i e he => ⟨hs e (List.mem_of_getElem? he), by rw [Nat.zero_add]; exact flat_take hs he⟩⟩, h2, (fun o f n hv => by cases hv; exact ⟨_, _, h3⟩)⟩
theorem Mine.nil (h0 h : AHeap) (sz : Nat) : Mine h0 h sz [] .nils := ⟨by simp, .inl ⟨rfl, rfl⟩⟩
/-- what happens behind leaves it -/
theorem Mine.keep {h0 h h' : AHeap} {sz : Nat} {es : List (List AVal)} {v : AVal} (o : Mine h0 h sz es v) (k : Old h h') : Mine h0 h' sz es v := by
  obtain ⟨hs, ⟨rfl, rfl⟩ | ⟨q, fz, rfl, h1, h2, h3⟩⟩ := o
  · exact Mine.nil _ _ _
  · exact ⟨hs, .inr ⟨q, fz, rfl, h1, Nat.lt_of_lt_of_le h2 k.1, by rw [k.2 q h2]; exact h3⟩⟩
theorem Mine.appendG {h0 h : AHeap} {sz bytes : Nat} {es new : List (List AVal)} {v : AVal} (o : Mine h0 h sz es v) (hsz : 0 < sz) (hn : ∀ e ∈ new, e.length = sz) (hb : (es.length + new.length) * bytes ≤ 2 ^ 47) (k : h0.next ≤ h.next) :
    ∃ v' h', appCore sz bytes h v new.length new.flatten = .ok (v', h') ∧ Mine h0 h' sz (es ++ new) v' ∧ h.next ≤ h'.next ∧ ∀ o, o < h0.next → h'.get o = h.get o := by
  have hs' : ∀ e ∈ es ++ new, e.length = sz := by
    intro e he
    rcases List.mem_append.1 he with h | h
    · exact o.1 e h
    · exact hn e h
  obtain ⟨hs, ⟨rfl, rfl⟩ | ⟨q, fz, rfl, h1, h2, h3⟩⟩ := o
  · by_cases h0' : new.length = 0
    · have : new = [] := List.length_eq_zero_iff.1 h0'
      subst this
      exact ⟨.nils, h, by simp [appCore], Mine.nil _ _ _, Nat.le_refl _, fun _ _ => rfl⟩
    · have hb' : ¬ new.length * bytes > 2 ^ 47 := by simp at hb; omega
      refine ⟨_, _, by unfold appCore; simp only []; rw [if_neg h0', if_neg hb'], ⟨hs', .inr ⟨h.next, false, by simp, k, by simp, by simp⟩⟩, by simp, fun o ho => by rw [AHeap.get_push, if_neg (by omega)]⟩
  · have hf := flat_len hs
    have hf2 := flat_len hn
    by_cases h0' : new.length = 0
    · have : new = [] := List.length_eq_zero_iff.1 h0'
      subst this
      refine ⟨.sl q 0 es.length, h.set q (.row sz fz es.flatten), ?_, ⟨hs', .inr ⟨q, fz, by simp, h1, by simpa using h2, by rw [AHeap.get_set]; simp⟩⟩, by simp, fun o ho => by rw [AHeap.get_set, if_neg (by omega)]⟩
      unfold appCore
      simp only [h3, if_true]
      rw [if_pos (by simp [hf])]
      have : overR es.flatten (0 + es.length * sz) [] = .ok es.flatten := by
        unfold overR
        rw [if_pos (by simp [hf])]
        simp [← hf]
      simp [this] at *
      simp [this]
    · refine ⟨.sl (h.del q).next 0 (es.length + new.length), (h.del q).push (.row sz true (es.flatten ++ new.flatten)), ?_, ⟨hs', .inr ⟨(h.del q).next, true, by simp, by simpa using k, by simp, by rw [get_push_next]; simp⟩⟩, by simp, fun o ho => by rw [AHeap.get_push, if_neg (by simp; omega), AHeap.get_del, if_neg (by omega)]⟩
      unfold appCore
      simp only [h3, if_true]
      have hpos : 0 < new.length * sz := Nat.mul_pos (by omega) hsz
      rw [if_neg (by rw [Nat.zero_add, hf, Nat.add_mul]; omega), if_neg (by omega)]
      have : takeR es.flatten 0 (es.length * sz) = .ok es.flatten := by
        unfold takeR
        rw [if_pos (by rw [hf]; omega), ← hf, List.drop_zero, List.take_length]
      rw [this]; rfl
theorem Mine.append {h0 h : AHeap} {sz bytes : Nat} {es new : List (List AVal)} {v : AVal} (o : Mine h0 h sz es v) (hsz : 0 < sz) (hn : ∀ e ∈ new, e.length = sz) (hb : (es.length + new.length) * bytes ≤ 2 ^ 47) (k : Old h0 h) :
    ∃ v' h', appCore sz bytes h v new.length new.flatten = .ok (v', h') ∧ Mine h0 h' sz (es ++ new) v' ∧ Old h0 h' := by
  obtain ⟨v', h', h1, h2, h3, h4⟩ := o.appendG hsz hn hb k.1
  exact ⟨v', h', h1, h2, Nat.le_trans k.1 h3, fun o ho => (h4 o ho).trans (k.2 o ho)⟩
theorem Mine.append1 {h0 h : AHeap} {sz bytes : Nat} {es : List (List AVal)} {v : AVal} {e : List AVal} (o : Mine h0 h sz es v) (hsz : 0 < sz) (hn : e.length = sz) (hb : (es.length + 1) * bytes ≤ 2 ^ 47) (k : Old h0 h) :
    ∃ v' h', appCore sz bytes h v 1 e = .ok (v', h') ∧ Mine h0 h' sz (es ++ [e]) v' ∧ Old h0 h' := by
  have := o.append (new := [e]) hsz (by simpa using hn) hb k
  simpa using this
theorem Mine.append1G {h0 h : AHeap} {sz bytes : Nat} {es : List (List AVal)} {v : AVal} {e : List AVal} (o : Mine h0 h sz es v) (hsz : 0 < sz) (hn : e.length = sz) (hb : (es.length + 1) * bytes ≤ 2 ^ 47) (k : h0.next ≤ h.next) :
    ∃ v' h', appCore sz bytes h v 1 e = .ok (v', h') ∧ Mine h0 h' sz (es ++ [e]) v' ∧ h.next ≤ h'.next ∧ ∀ o, o < h0.next → h'.get o = h.get o := by
  have := o.appendG (new := [e]) hsz (by simpa using hn) hb k
  simpa using this

/-! ### all of a slice, and a part -/
theorem takes_flat {vs : List AVal} {sz : Nat} : ∀ {es : List (List AVal)} {f : Nat}, f ≤ vs.length → (∀ i e, es[i]? = some e → e.length = sz ∧ takeR vs (f + i * sz) sz = .ok e) → takeR vs f (es.length * sz) = .ok es.flatten
  | [], f, hf, _ => by simp [takeR, hf]
  | e :: es, f, hf, h => by
    obtain ⟨h1, h2⟩ := h 0 e rfl
    rw [Nat.zero_mul, Nat.add_zero] at h2
    have hf2 : f + sz ≤ vs.length := by
      unfold takeR at h2
      split at h2
      · assumption
      · cases h2
    have h3 := takes_flat (es := es) (f := f + sz) hf2 (fun i e' he => by
      have := h (i + 1) e' (by simpa using he)
      rw [Nat.succ_mul] at this
      rw [show f + sz + i * sz = f + (i * sz + sz) by omega]; exact this)
    unfold takeR at h2 h3 ⊢
    rw [if_pos hf2] at h2
    injection h2 with h2
    split at h3
    · rename_i hle
      injection h3 with h3
      have hle2 : f + (es.length + 1) * sz ≤ vs.length := by rw [Nat.succ_mul]; omega
      rw [List.length_cons, if_pos hle2]
      congr 1
      rw [List.flatten_cons, ← h2, ← h3, ← List.drop_drop, Nat.succ_mul, Nat.add_comm (es.length * sz) sz, List.take_add]
    · cases h3

section
variable {c : Cfg} {h : AHeap} {sz : Nat} {v : AVal} {es : List (List AVal)}
theorem Sl.read (s : Sl c h sz v es) : readSl c h sz es.length v = .ok es.flatten := by
  have hl := s.len
  by_cases hne : es = []
  · subst hne
    cases v <;> simp only [lenA] at hl <;> first | (cases hl; done) | (exact absurd rfl (s.noStr _)) | rfl
  · obtain ⟨vs, f, h1, h2⟩ := s.row hne
    have hf : f ≤ vs.length := by
      cases es with
      | nil => exact absurd rfl hne
      | cons e es =>
        obtain ⟨_, h3⟩ := h2 0 e rfl
        unfold takeR at h3
        split at h3
        · omega
        · cases h3
    have h3 := takes_flat hf h2
    cases v <;> simp only [rowOf] at h1 <;> try (cases h1; done)
    · split at h1
      · rename_i hg; injection h1 with h1; injection h1 with h4 h5; subst h4 h5; simp [hg, h3, hne]
      · cases h1
    · split at h1
      · rename_i hg; injection h1 with h1; injection h1 with h4 h5; subst h4 h5; simp [hg, h3, hne]
      · cases h1
    · rename_i r f' n
      cases hr : c.ro r with
      | none => rw [hr] at h1; cases h1
      | some ws => rw [hr] at h1; simp at h1; obtain ⟨rfl, rfl⟩ := h1; simp [hr, h3, hne]
end
end Go.Proofs.YtofnbldbggddmaaGreatDoor
set_option linter.all false
namespace Go.Proofs.YtofnbldbggddmaaGreatDoor
open Go Go.RowKit

def Rdg (P : Program) (ro : Nat → Option (List AVal)) : Nat → Nat → List AVal → Prop
  | 0, _, _ => False
  | n + 1, t, cs => match P.underlying t with
    | some .bool => ∃ b, cs = [.bool b]
    | some (.int k) => ∃ i, cs = [.int k i] ∧ k.min ≤ i ∧ i ≤ k.max
    | some .string => ∃ s, cs = [.str s] ∧ s.length < 2 ^ 63
    | some (.pointer e) => cs = [.nilp] ∨ cs = [.dead] ∨ ∃ r es, cs = [.rptr r 0] ∧ (P.cellsOf e ≠ 0 → ∃ vs, ro r = some vs ∧ takeR vs 0 (P.cellsOf e) = .ok es) ∧ Rdg P ro n e es
    | some (.slice e) => cs = [.nils] ∨ cs = [.dead] ∨ ∃ r ess, cs = [.rsl r 0 (List.length ess)] ∧ ess.length < 2 ^ 63 ∧
        (P.cellsOf e ≠ 0 → ess ≠ [] → ∃ vs, ro r = some vs ∧ ∀ i x, ess[i]? = some x → takeR vs (i * P.cellsOf e) (P.cellsOf e) = .ok x) ∧ ∀ x ∈ ess, x.length = P.cellsOf e ∧ Rdg P ro n e x
    | some (.struct fs) => cs.length = P.cellsOf t ∧ ∀ (i : Nat) (f : Field), fs[i]? = some f → Rdg P ro n f.type ((cs.drop f.offset).take (P.cellsOf f.type))
    | some (.array m e) => cs.length = P.cellsOf t ∧ ∀ i, i < m → Rdg P ro n e ((cs.drop (i * P.cellsOf e)).take (P.cellsOf e))
    | _ => True

/-- does each cell of a struct, of an array, belong to a part? -/
def coverB (P : Program) (t : Nat) : Bool :=
  match P.underlying t with
  | some (.struct fs) => (List.range (P.cellsOf t)).all fun i => fs.toList.any fun f => decide (f.offset ≤ i ∧ i < f.offset + P.cellsOf f.type)
  | some (.array n e) => decide (P.cellsOf t = n * P.cellsOf e)
  | _ => true
def partsB (P : Program) (t : Nat) : Bool :=
  match P.underlying t with
  | some (.struct fs) => fs.toList.all fun f => decide (f.type < P.types.size)
  | some (.array _ e) => decide (e < P.types.size)
  | some (.pointer e) => decide (e < P.types.size)
  | some (.slice e) => decide (e < P.types.size)
  | _ => true
def coverAll (P : Program) : Bool := (List.range P.types.size).all fun t => coverB P t && partsB P t

theorem take_while {α : Type} (p : α → Bool) : ∀ {l : List α} {N : Nat}, (∀ q, q < N → ∃ v, l[q]? = some v ∧ p v = true) → N ≤ (l.takeWhile p).length ∧ (l.takeWhile p).take N = l.take N
  | l, 0, _ => by simp
  | [], N + 1, h => by obtain ⟨v, hv, _⟩ := h 0 (by omega); simp at hv
  | a :: l, N + 1, h => by
    obtain ⟨v, hv, hp⟩ := h 0 (by omega)
    simp at hv; subst hv
    obtain ⟨h1, h2⟩ := take_while p (l := l) (N := N) (fun q hq => by simpa using h (q + 1) (by omega))
    rw [List.takeWhile_cons, if_pos hp]
    exact ⟨by simp; omega, by simp [h2]⟩

theorem oneC_part {P : Program} {cs : List Value} {off n i : Nat} {v : Value} (h1 : off ≤ i) (h2 : i < off + n) (hv : cs[i]? = some v) : v ∈ (cs.drop off).take n := by
  apply List.mem_of_getElem? (i := i - off)
  rw [List.getElem?_take, if_pos (by omega), List.getElem?_drop, show off + (i - off) = i by omega]
  exact hv

theorem cells_row {w : World} {a : Addr} {n : Nat} {cs : List Value} (h : w.cells? 0 a n = some cs) (hn : 0 < n) :
    a.spot = none ∧ ∃ c T fr, w.heap[a.block]? = some (.cells c T fr) ∧ ∀ i, i < n → c.toList[a.off + i]? = cs[i]? := by
  obtain ⟨_, hl, hc⟩ := World.cells?_some h
  have h0 := hc 0 hn
  have hs : cs[0]? = some (cs[0]'(by omega)) := List.getElem?_eq_getElem (by omega)
  rw [hs] at h0
  unfold World.cell? Addr.add at h0
  simp only [if_true] at h0
  split at h0
  · rename_i c T fr hh
    split at h0
    · cases h0
    · rename_i hsp
      have hsp : a.spot = none := by cases h : a.spot <;> simp_all
      refine ⟨hsp, c, T, fr, hh, fun i hi => ?_⟩
      have h1 := hc i hi
      unfold World.cell? Addr.add at h1
      by_cases h0' : i = 0
      · subst h0'
        simp only [if_true, hh, hsp] at h1
        simpa using h1
      · simp only [h0', if_false, hh] at h1
        simpa using h1
  · cases h0

theorem roW_at {w : World} {a : Addr} {c : Array Value} {T : Nat} {fr : Nat × Nat} (hh : w.heap[a.block]? = some (.cells c T fr)) : roW w (roBase + encP a.block a.off) = some (((c.toList.drop a.off).takeWhile oneC).map absC) := by
  unfold roW
  rw [placeW_enc]
  simp only [hh]

theorem rdg_of {H : Type} {enc : TypeId × Value → H} {P : Program} {w : World} {spare : Nat → Bool} {held : Bool} (hcov : coverAll P = true) : ∀ (fuel t : Nat) (cs : List Value) (x : DataW H × List MemPlace), t < P.types.size →
    DataW.trod enc P w 0 spare held fuel t cs = some x → (∀ v ∈ cs, oneC v = true) ∧ Rdg P (roW w) fuel t (cs.map absC)
  | 0, t, cs, x, _, h => by simp [DataW.trod] at h
  | fuel + 1, t, cs, x, htl, h => by
    have hcb := List.all_eq_true.1 hcov t (List.mem_range.2 htl)
    rw [Bool.and_eq_true] at hcb
    obtain ⟨hcv, hpt⟩ := hcb
    cases hu : P.underlying t with
    | none => unfold DataW.trod at h; rw [hu] at h; simp at h
    | some u =>
      cases u with
      | bool => obtain ⟨b, rfl, _⟩ := DataW.trod_bool hu h; exact ⟨by simp [oneC], by simp only [Rdg, hu]; exact ⟨b, rfl⟩⟩
      | int k =>
        obtain ⟨n, rfl, _, hw⟩ := DataW.trod_int hu h
        simp [Lit.wf] at hw
        exact ⟨by simp [oneC], by simp only [Rdg, hu]; exact ⟨n, rfl, hw⟩⟩
      | string =>
        obtain ⟨s, rfl, _, hs⟩ := DataW.trod_string hu h
        refine ⟨by simp [oneC], by simp only [Rdg, hu]; exact ⟨s.data.toList, rfl, by have h0 : s.data.toList.length = s.size := Array.length_toList; rw [h0]; unfold maxLen at hs; omega⟩⟩

      | pointer e =>
        rcases DataW.trod_pointer hu h with ⟨rfl, _⟩ | ⟨a, cs', y, n, hf, rfl, _, hcl, ht⟩
        · exact ⟨by simp [oneC], by simp only [Rdg, hu]; exact .inl rfl⟩
        · injection hf with hf; subst hf
          refine ⟨by simp [oneC], ?_⟩
          simp only [Rdg, hu]
          obtain ⟨h1, h2⟩ := rdg_of hcov fuel e cs' y (by simpa [partsB, hu] using hpt) ht
          by_cases hz : P.cellsOf e = 0
          · obtain ⟨b, o, sp⟩ := a
            cases sp with
            | none => right; right; exact ⟨_, cs'.map absC, rfl, fun h => absurd hz h, h2⟩
            | some s => right; left; rfl
          · obtain ⟨hsp, c, T, fr, hh, hcell⟩ := cells_row hcl (by omega)
            have hl := (World.cells?_some hcl).2.1
            right; right
            obtain ⟨b, o, sp⟩ := a
            simp only at hsp hh hcell; subst hsp
            have htw := take_while oneC (l := c.toList.drop o) (N := P.cellsOf e) (fun q hq => by
              rw [List.getElem?_drop, hcell q hq]
              exact ⟨cs'[q]'(by omega), List.getElem?_eq_getElem (by omega), h1 _ (List.getElem_mem _)⟩)
            refine ⟨_, cs'.map absC, rfl, fun _ => ⟨_, roW_at (a := ⟨b, o, none⟩) hh, ?_⟩, h2⟩
            unfold takeR
            rw [if_pos (by simp; exact htw.1)]
            simp only [List.drop_zero]
            rw [← List.map_take, htw.2]
            congr 2
            apply List.ext_getElem?
            intro i
            rw [List.getElem?_take]
            split
            · rw [List.getElem?_drop]; exact hcell i ‹_›
            · rw [List.getElem?_eq_none (by omega)]
      | slice e =>
        rcases DataW.trod_slice hu h with ⟨rfl, _⟩ | ⟨a, len, cap, elems, rest, n, hf, rfl, _, _, hlc, hcap, hlen, hel, _, _⟩
        · exact ⟨by simp [oneC], by simp only [Rdg, hu]; exact .inl rfl⟩
        · injection hf with hf; subst hf
          refine ⟨by simp [oneC], ?_⟩
          simp only [Rdg, hu]
          obtain ⟨b, o, sp⟩ := a
          by_cases hsp : sp = none
          · subst hsp
            right; right
            have hg : ∀ i, i < len → ∃ cs', w.cells? 0 ((⟨b, o, none⟩ : Addr).add (i * P.cellsOf e)) (P.cellsOf e) = some cs' ∧ (∀ v ∈ cs', oneC v = true) ∧ Rdg P (roW w) fuel e (cs'.map absC) ∧ cs'.length = P.cellsOf e ∧ (∀ j, j < P.cellsOf e → w.cell? ⟨b, o + i * P.cellsOf e + j, none⟩ = cs'[j]?) := by
              intro i hi
              have h1 := hel i hi
              have h2 : elems[i]? = some (elems[i]'(by omega)) := List.getElem?_eq_getElem (by omega)
              rw [h2] at h1
              obtain ⟨cs', h3, h4⟩ := Option.bind_eq_some_iff.1 h1
              obtain ⟨h5, h6⟩ := rdg_of hcov fuel e cs' _ (by simpa [partsB, hu] using hpt) h4
              obtain ⟨_, h7, h8⟩ := World.cells?_some h3
              refine ⟨cs', h3, h5, h6, h7, fun j hj => ?_⟩
              rw [← h8 j hj]
              unfold Addr.add
              by_cases hz : i * P.cellsOf e = 0
              · by_cases hj0 : j = 0 <;> simp [hz, hj0]
              · by_cases hj0 : j = 0 <;> simp [hz, hj0]
            obtain ⟨G, hG⟩ : ∃ G : Nat → List Value, ∀ i, i < len → w.cells? 0 ((⟨b, o, none⟩ : Addr).add (i * P.cellsOf e)) (P.cellsOf e) = some (G i) ∧ (∀ v ∈ G i, oneC v = true) ∧ Rdg P (roW w) fuel e ((G i).map absC) ∧ (G i).length = P.cellsOf e ∧ (∀ j, j < P.cellsOf e → w.cell? ⟨b, o + i * P.cellsOf e + j, none⟩ = (G i)[j]?) :=
              ⟨fun i => if h : i < len then Classical.choose (hg i h) else [], fun i hi => by simp only [hi, dif_pos]; exact Classical.choose_spec (hg i hi)⟩
            refine ⟨roBase + encP b o, (List.range len).map fun i => (G i).map absC, ?_, ?_, ?_, ?_⟩
            · simp [absC, hlc]
            · simp; unfold maxLen at hcap; omega
            · intro hz hne
              have hlen0 : 0 < len := by
                rcases Nat.eq_zero_or_pos len with h0 | h0
                · subst h0; exact absurd rfl hne
                · exact h0
              obtain ⟨h3, _⟩ := hG 0 hlen0
              obtain ⟨_, c, T, fr, hh, _⟩ := cells_row h3 (by omega)
              have hh : w.heap[b]? = some (.cells c T fr) := by simpa [Addr.add] using hh
              refine ⟨_, roW_at (a := ⟨b, o, none⟩) hh, ?_⟩
              have hpos : 0 < P.cellsOf e := by omega
              have hat : ∀ i j, i < len → j < P.cellsOf e → (c.toList.drop o)[i * P.cellsOf e + j]? = (G i)[j]? := by
                intro i j hi hj
                have h1 := (hG i hi).2.2.2.2 j hj
                unfold World.cell? at h1
                simp only [hh] at h1
                rw [List.getElem?_drop, ← Nat.add_assoc]
                simpa using h1
              have htw := take_while oneC (l := c.toList.drop o) (N := len * P.cellsOf e) (fun q hq => by
                have h1 := Nat.div_add_mod q (P.cellsOf e)
                have h2 := Nat.mod_lt q hpos
                have h3 : q / P.cellsOf e < len := (Nat.div_lt_iff_lt_mul hpos).2 hq
                have h4 : q / P.cellsOf e * P.cellsOf e = P.cellsOf e * (q / P.cellsOf e) := Nat.mul_comm _ _
                have h5 := hat _ _ h3 h2
                rw [show q / P.cellsOf e * P.cellsOf e + q % P.cellsOf e = q by omega] at h5
                have hl := (hG _ h3).2.2.2.1
                rw [h5]
                exact ⟨_, List.getElem?_eq_getElem (by omega), (hG _ h3).2.1 _ (List.getElem_mem (by omega))⟩)
              intro i x hx
              rw [List.getElem?_map] at hx
              have hi : i < len := by
                rcases Nat.lt_or_ge i len with h0 | h0
                · exact h0
                · rw [List.getElem?_eq_none (by simpa using h0)] at hx; cases hx
              rw [List.getElem?_range hi] at hx
              simp at hx
              subst hx
              have hle : i * P.cellsOf e + P.cellsOf e ≤ len * P.cellsOf e := by
                rw [← Nat.succ_mul]; exact Nat.mul_le_mul_right _ hi
              unfold takeR
              rw [if_pos (by simp; omega)]
              rw [← List.map_drop, ← List.map_take]
              congr 2
              apply List.ext_getElem?
              intro j
              rw [List.getElem?_take]
              have hl := (hG i hi).2.2.2.1
              split
              · rename_i hj
                rw [List.getElem?_drop]
                have h1 : ((c.toList.drop o).takeWhile oneC)[i * P.cellsOf e + j]? = (((c.toList.drop o).takeWhile oneC).take (len * P.cellsOf e))[i * P.cellsOf e + j]? := by
                  rw [List.getElem?_take, if_pos (by omega)]
                rw [h1, htw.2, List.getElem?_take, if_pos (by omega)]
                exact hat i j hi hj
              · rw [List.getElem?_eq_none (by omega)]
            · intro x hx
              obtain ⟨i, hi, rfl⟩ := List.mem_map.1 hx
              have hi := List.mem_range.1 hi
              exact ⟨by simpa using (hG i hi).2.2.2.1, (hG i hi).2.2.1⟩
          · right; left
            simp only [List.map_cons, List.map_nil, absC]
            cases sp with
            | none => exact absurd rfl hsp
            | some s => rfl
      | struct fs =>
        obtain ⟨xs, n, hf, _, hl, hxl, hp⟩ := DataW.trod_struct hu h
        injection hf with hf; subst hf
        have hp' : ∀ (i : Nat) (f : Field), fs[i]? = some f → (∀ v ∈ ((cs.drop f.offset).take (P.cellsOf f.type)), oneC v = true) ∧ Rdg P (roW w) fuel f.type (((cs.drop f.offset).take (P.cellsOf f.type)).map absC) := by
          intro i f hi
          have h1 := hp i f hi
          have hlt : i < xs.length := by rw [hxl]; exact (Array.getElem?_eq_some_iff.1 hi).1
          rw [List.getElem?_eq_getElem hlt] at h1
          simp only [partsB, hu] at hpt
          exact rdg_of hcov fuel _ _ _ (of_decide_eq_true (List.all_eq_true.1 hpt f (by rw [Array.mem_toList_iff]; exact Array.mem_of_getElem? hi))) h1
        refine ⟨fun v hv => ?_, ?_⟩
        · obtain ⟨i, hi, rfl⟩ := List.getElem_of_mem hv
          simp only [coverB, hu] at hcv
          have h1 := List.all_eq_true.1 hcv i (List.mem_range.2 (by omega))
          obtain ⟨f, hf, h2⟩ := List.any_eq_true.1 h1
          obtain ⟨j, hj, rfl⟩ := List.getElem_of_mem hf
          have h2 := of_decide_eq_true h2
          refine (hp' j _ (by simpa using hj)).1 _ (oneC_part (P := P) h2.1 h2.2 (List.getElem?_eq_getElem hi))
        · simp only [Rdg, hu]
          refine ⟨by simpa using hl, fun i f hi => ?_⟩
          have := (hp' i f hi).2
          rw [List.map_take, List.map_drop] at this
          exact this
      | array m e =>
        obtain ⟨xs, n, hf, _, hl, hxl, hp⟩ := DataW.trod_array hu h
        injection hf with hf; subst hf
        have hp' : ∀ (i : Nat), i < m → (∀ v ∈ ((cs.drop (i * P.cellsOf e)).take (P.cellsOf e)), oneC v = true) ∧ Rdg P (roW w) fuel e (((cs.drop (i * P.cellsOf e)).take (P.cellsOf e)).map absC) := by
          intro i hi
          have h1 := hp i hi
          rw [List.getElem?_eq_getElem (by omega)] at h1
          exact rdg_of hcov fuel _ _ _ (by simpa [partsB, hu] using hpt) h1
        refine ⟨fun v hv => ?_, ?_⟩
        · obtain ⟨i, hi, rfl⟩ := List.getElem_of_mem hv
          simp only [coverB, hu, decide_eq_true_eq] at hcv
          have hpos : 0 < P.cellsOf e := by
            rcases Nat.eq_zero_or_pos (P.cellsOf e) with h0 | h0
            · rw [h0] at hcv; simp at hcv; omega
            · exact h0
          have h1 := Nat.div_add_mod i (P.cellsOf e)
          have h2 := Nat.mod_lt i hpos
          have h3 : i / P.cellsOf e < m := (Nat.div_lt_iff_lt_mul hpos).2 (by omega)
          have h4 : i / P.cellsOf e * P.cellsOf e = P.cellsOf e * (i / P.cellsOf e) := Nat.mul_comm _ _
          exact (hp' _ h3).1 _ (oneC_part (P := P) (by omega) (by omega) (List.getElem?_eq_getElem hi))
        · simp only [Rdg, hu]
          refine ⟨by simpa using hl, fun i hi => ?_⟩
          have := (hp' i hi).2
          rw [List.map_take, List.map_drop] at this
          exact this
      | _ =>
        refine ⟨?_, by simp only [Rdg, hu]⟩
        unfold DataW.trod at h
        rw [hu] at h
        rcases cs with _ | ⟨v, _ | ⟨v2, l⟩⟩
        · simp
        · cases v <;> first | (simp at h; done) | simp [oneC]
        · simp at h
end Go.Proofs.YtofnbldbggddmaaGreatDoor
set_option linter.all false
namespace Go.Proofs.YtofnbldbggddmaaGreatDoor
open Go Go.RowKit

section
variable {H : Type} {enc : TypeId × Value → H} {P : Program} {w : World} {sp : Nat → Bool} {held : Bool} {r : Reach} {b0 t : Nat} {v : Value} {d : DataW H} {ps : List MemPlace}

theorem argStr (ht : P.underlying t = some .string) (hval : Value.okWide P w r b0 t v) : ∃ s, absV v = .str s ∧ s.length < 2 ^ 63 := by
  obtain ⟨s, rfl⟩ := WideShapes.okWide_string ht hval
  refine ⟨s.data.toList, rfl, ?_⟩
  simp only [Value.okWide, ht, Cell.okWide, Cell.ok] at hval
  have h0 : s.data.toList.length = s.size := Array.length_toList
  have h1 : IntKind.i64.max = 2 ^ 63 - 1 := by decide
  rw [h1] at hval
  omega

theorem argInt {k : IntKind} (ht : P.underlying t = some (.int k)) (hval : Value.okWide P w r b0 t v) : ∃ n, absV v = .int k n ∧ k.min ≤ n ∧ n ≤ k.max := by
  obtain ⟨n, rfl⟩ := WideShapes.okWide_int ht hval
  simp only [Value.okWide, ht, Cell.okWide, Cell.ok] at hval
  exact ⟨n, rfl, hval.2⟩

theorem argBool (ht : P.underlying t = some .bool) (hval : Value.okWide P w r b0 t v) : ∃ b, absV v = .bool b := by
  obtain ⟨b, rfl⟩ := WideShapes.okWide_bool ht hval
  exact ⟨b, rfl⟩

theorem argSlice {e : Nat} (hcov : coverAll P = true) (htl : t < P.types.size) (ht : P.underlying t = some (.slice e)) (hz : P.cellsOf e ≠ 0) (hval : Value.okWide P w r b0 t v) (hd : DataW.Trod enc P w 0 sp held t v d ps) :
    ∃ (ess : List (List AVal)) (n : Nat), (∀ x ∈ ess, x.length = P.cellsOf e ∧ Rdg P (roW w) n e x) ∧ ess.length < 2 ^ 63 ∧ ∀ (c : Cfg) (h : AHeap), c.ro = roW w → Sl c h (P.cellsOf e) (absV v) ess := by
  obtain ⟨fuel, hf⟩ := hd
  obtain ⟨a, len, cap, rfl⟩ := WideShapes.okWide_slice ht hval
  have h1 := rdg_of hcov _ _ _ _ htl hf
  cases fuel with
  | zero => simp [DataW.trod] at hf
  | succ n =>
    have h2 := h1.2
    simp only [Rdg, ht] at h2
    have hc : (Value.slice a len cap).cells.toList = [.slice a len cap] := by simp [Value.cells]
    rw [hc] at h2
    simp only [List.map_cons, List.map_nil, List.cons.injEq, and_true] at h2
    have hv : absV (Value.slice a len cap) = absC (Value.slice a len cap) := rfl
    rcases h2 with h2 | h2 | ⟨q, ess, h2, h3, h4, h5⟩
    · exact ⟨[], 0, by simp, by simp, fun c h _ => by rw [hv, h2]; exact Sl.nil⟩
    · exfalso
      simp only [Value.okWide, ht] at hval
      unfold Cell.okWide Cell.ok at hval
      rw [ht] at hval
      cases a with
      | none =>
        rcases len with _ | len <;> rcases cap with _ | cap
        · simp [absC] at h2
        all_goals exact hval
      | some a =>
        simp only at hval
        obtain ⟨hl, _, _, hs, _⟩ := hval
        obtain ⟨b, o, s⟩ := a
        simp only at hs; subst hs
        simp [absC, hl] at h2
    · refine ⟨ess, n, h5, h3, fun c h hc => ?_⟩
      rw [hv, h2]
      refine ⟨rfl, (fun s h => by cases h), fun hne => ?_, trivial, (fun _ _ _ h => by cases h)⟩
      obtain ⟨vs, h6, h7⟩ := h4 hz hne
      refine ⟨vs, 0, by simp [rowOf, hc, h6], fun i e' he => ⟨(h5 e' (List.mem_of_getElem? he)).1, by rw [Nat.zero_add]; exact h7 i e' he⟩⟩

theorem argAgg {fs : Array Field} (hcov : coverAll P = true) (htl : t < P.types.size) (ht : P.underlying t = some (.struct fs)) (hval : Value.okWide P w r b0 t v) (hd : DataW.Trod enc P w 0 sp held t v d ps) :
    ∃ (cs : List AVal) (n : Nat), absV v = .agg cs ∧ Rdg P (roW w) n t cs := by
  obtain ⟨fuel, hf⟩ := hd
  obtain ⟨cs, rfl, _⟩ := WideShapes.okWide_struct ht hval
  have h1 := rdg_of hcov _ _ _ _ htl hf
  have hc : (Value.agg cs).cells = cs := rfl
  rw [hc] at h1
  refine ⟨cs.toList.map absC, fuel, ?_, h1.2⟩
  unfold absV
  simp only
  rw [if_pos (List.all_eq_true.2 h1.1)]

theorem rdg_int {k : IntKind} {ro n cs} (ht : P.underlying t = some (.int k)) (h : Rdg P ro n t cs) : ∃ i, cs = [.int k i] ∧ k.min ≤ i ∧ i ≤ k.max := by
  cases n with
  | zero => exact h.elim
  | succ n => simpa only [Rdg, ht] using h
theorem rdg_str {ro n cs} (ht : P.underlying t = some .string) (h : Rdg P ro n t cs) : ∃ s, cs = [.str s] ∧ s.length < 2 ^ 63 := by
  cases n with
  | zero => exact h.elim
  | succ n => simpa only [Rdg, ht] using h
theorem rdg_bool {ro n cs} (ht : P.underlying t = some .bool) (h : Rdg P ro n t cs) : ∃ b, cs = [.bool b] := by
  cases n with
  | zero => exact h.elim
  | succ n => simpa only [Rdg, ht] using h
theorem rdg_struct {fs : Array Field} {ro n cs} (ht : P.underlying t = some (.struct fs)) (h : Rdg P ro n t cs) : cs.length = P.cellsOf t ∧ ∃ m, ∀ (i : Nat) (f : Field), fs[i]? = some f → Rdg P ro m f.type ((cs.drop f.offset).take (P.cellsOf f.type)) := by
  cases n with
  | zero => exact h.elim
  | succ n => 
    simp only [Rdg, ht] at h
    exact ⟨h.1, n, h.2⟩
end

theorem trodAll_below {H : Type} {enc : TypeId × Value → H} {P : Program} (hl : laidOutB P = true) {W W' : World} (hb : Below W.heap.size W W') : ∀ {ts : List TypeId} {vs : List Value} {ds : List (DataW H)} {ps : List MemPlace},
    ts.all (fun t => P.readableRec t && decide (t < P.types.size)) = true → DataW.TrodAll enc P W 0 (fun _ => true) true ts vs ds ps → (∀ x ∈ ps, x.block < W.heap.size) →
    DataW.TrodAll enc P W' 0 (fun b => decide (b < W.heap.size)) true ts vs ds ps
  | [], [], [], ps, _, h, _ => h
  | t :: ts, v :: vs, d :: ds, ps, hr, h, hlt => by
    obtain ⟨p, q, h1, h2, rfl⟩ := h
    simp only [List.all_cons, Bool.and_eq_true, decide_eq_true_eq] at hr
    exact ⟨p, q, Below.trod hl hr.1.1 hr.1.2 h1 hb (fun x hx => hlt x (List.mem_append.2 (.inl hx))), trodAll_below hl hb (by simpa using hr.2) h2 (fun x hx => hlt x (List.mem_append.2 (.inr hx))), rfl⟩
  | [], [], _ :: _, _, _, h, _ => h.elim
  | [], _ :: _, _, _, _, h, _ => h.elim
  | _ :: _, [], _, _, _, h, _ => h.elim
  | _ :: _, _ :: _, [], _, _, h, _ => h.elim

end Go.Proofs.YtofnbldbggddmaaGreatDoor
set_option linter.all false
namespace Go.Proofs.YtofnbldbggddmaaGreatDoor
open Go Go.RowKit

def bcell (b : UInt8) : AVal := .int .u8 b.toNat
def bes (bs : List UInt8) : List (List AVal) := bs.map fun b => [bcell b]
theorem bes_len (bs : List UInt8) : (bes bs).length = bs.length := by simp [bes]
theorem bes_flat (bs : List UInt8) : (bes bs).flatten = bs.map bcell := by
  unfold bes
  induction bs with
  | nil => rfl
  | cons b l ih => simp only [List.map_cons, List.flatten_cons, ih]; rfl
theorem bes_one (bs : List UInt8) : ∀ e ∈ bes bs, e.length = 1 := by
  intro e he
  obtain ⟨b, _, rfl⟩ := List.mem_map.1 he; rfl
theorem bes_append (a b : List UInt8) : bes (a ++ b) = bes a ++ bes b := by simp [bes]
theorem bytesOf_cells (bs : List UInt8) : bytesOfA (bs.map bcell) = .ok bs := by
  induction bs with
  | nil => rfl
  | cons b l ih =>
    simp only [List.map_cons, bytesOfA, ih, bcell, byteOfA, Res.ok_bind]
    congr 2
    simp

/-- a slice of bytes that is read -/
def BS (c : Cfg) (h : AHeap) (v : AVal) (bs : List UInt8) : Prop := Sl c h 1 v (bes bs)
/-- one of one's own -/
def BM (h0 h : AHeap) (v : AVal) (bs : List UInt8) : Prop := Mine h0 h 1 (bes bs) v

section
variable {c : Cfg} {h : AHeap} {v : AVal} {bs : List UInt8}
theorem BM.toBS {h0 : AHeap} (m : BM h0 h v bs) : BS c h v bs := Mine.sl m
theorem BM.nil {h0 : AHeap} : BM h0 h .nils [] := Mine.nil _ _ _
theorem BS.nil : BS c h .nils [] := Sl.nil
theorem BS.old {h' : AHeap} (m : BS c h v bs) (o : Old h h') : BS c h' v bs := Sl.old m o
theorem BM.keep {h0 h' : AHeap} (m : BM h0 h v bs) (o : Old h h') : BM h0 h' v bs := Mine.keep m o
theorem BS.lenA (m : BS c h v bs) : YtofnbldbggddmaaGreatDoor.lenA v = .ok bs.length := by have := m.len; rw [bes_len] at this; exact this
theorem BS.lenSl (m : BS c h v bs) (hv : v ≠ .nils) : YtofnbldbggddmaaGreatDoor.lenSl v = .ok bs.length := by
  have h1 := m.lenA
  have h2 := m.noStr
  cases v <;> simp only [YtofnbldbggddmaaGreatDoor.lenA, YtofnbldbggddmaaGreatDoor.lenSl] at h1 ⊢ <;> first | exact h1 | (exact absurd rfl hv) | (exact absurd rfl (h2 _)) | (cases h1; done)
theorem BS.lenR (m : BS c h v bs) {t e : Nat} (ht : undR c.P t = .ok (.slice e)) : YtofnbldbggddmaaGreatDoor.lenR c h t v = .ok (.int .i64 bs.length) := by
  have := Sl.lenR m ht
  rw [bes_len] at this; exact this
theorem BS.idx (m : BS c h v bs) {P : Program} {t e : Nat} (ht : undR P t = .ok (.slice e)) (hs : sizeR P e = .ok 1) {k : IntKind} {i : Nat} (hi : i < bs.length) : indexAddrR P t v (.int k i) = .ok (elp v 1 i) :=
  Sl.idx m ht hs (by rw [bes_len]; exact hi)
theorem BS.load (m : BS c h v bs) {i t : Nat} (hi : i < bs.length) (hg : isAggR c.P t = .ok false) : loadR c h t (elp v 1 i) = .ok (.int .u8 bs[i].toNat) :=
  Sl.load1 m (e := [bcell bs[i]]) (by simp [bes, hi]) rfl hg
theorem BS.read (m : BS c h v bs) : readSl c h 1 bs.length v = .ok (bs.map bcell) := by
  have := Sl.read m
  rw [bes_len, bes_flat] at this; exact this
/-- string(b) -/
theorem BS.conv (m : BS c h v bs) {s d e : Nat} (hs : undR c.P s = .ok (.slice e)) (hd : undR c.P d = .ok .string) (he : undR c.P e = .ok (.int .u8)) : convR c h s d v = .ok (.str bs) := by
  unfold convR
  rw [hs, hd, Res.ok_bind, Res.ok_bind]
  by_cases hv : v = .nils
  · subst hv
    have := m.lenA
    simp only [YtofnbldbggddmaaGreatDoor.lenA] at this
    injection this with this
    have : bs = [] := List.length_eq_zero_iff.1 this.symm
    subst this
    simp [he]
  · have h1 := m.lenSl hv
    have h2 := m.noStr
    have h3 := m.read
    cases v <;> simp only [YtofnbldbggddmaaGreatDoor.lenSl] at h1 <;> first | (cases h1; done) | (exact absurd rfl (h2 _)) | skip
    all_goals (injection h1 with h1; subst h1; simp only [he, Res.ok_bind, YtofnbldbggddmaaGreatDoor.lenSl, h3, bytesOf_cells])
/-- b[:n] -/
theorem BS.upto (m : BS c h v bs) {n : Nat} (hn : n ≤ bs.length) (hs : ∀ o f l q, v ≠ .slc o f l q) {k : IntKind} : ∃ v', sliceSl h 1 v none (some (.int k n)) none = .ok v' ∧ BS c h v' (bs.take n) := by
  have hl := m.lenA
  have hrow := m.row
  have hlow := m.low
  have hroom := m.room
  have hes : ∀ (i : Nat) (e : List AVal), (bes (bs.take n))[i]? = some e → (bes bs)[i]? = some e := by
    intro i e he
    unfold bes at *
    rw [List.map_take, List.getElem?_take] at he
    split at he
    · exact he
    · cases he
  have hne : bes (bs.take n) ≠ [] → bes bs ≠ [] := by
    intro h1 h2
    apply h1
    have : bs = [] := by simpa [bes] using h2
    subst this; simp [bes]
  have hlen : (bs.take n).length = n := by simp; omega
  unfold sliceSl
  cases v with
  | nils =>
    simp only [YtofnbldbggddmaaGreatDoor.lenA] at hl
    injection hl with hl
    have hn0 : n = 0 := by omega
    subst hn0
    simp only [bounds2]
    rw [bd_nat (Nat.le_refl 0)]
    exact ⟨.nils, rfl, by simpa using BS.nil⟩
  | sl o f len =>
    simp only [YtofnbldbggddmaaGreatDoor.lenA] at hl
    injection hl with hl
    subst hl
    obtain ⟨z, vs, hg⟩ := hroom o f _ rfl
    have hr : roomOf h o f 1 = .ok ((vs.length - f) / 1) := by unfold roomOf; rw [hg]; simp
    simp only [hr, Res.ok_bind, bounds2]
    rw [bd_nat (by omega)]
    refine ⟨_, rfl, ?_⟩
    refine ⟨by show Res.ok _ = _; rw [bes_len, hlen]; simp, (fun s h => by cases h), fun hx => ?_, hlow, (fun o' f' n' hv => by cases hv; exact ⟨z, vs, hg⟩)⟩
    obtain ⟨ws, g, h1, h2⟩ := hrow (hne hx)
    refine ⟨ws, g, ?_, fun i e he => h2 i e (hes i e he)⟩
    simpa [rowOf] using h1
  | slc o f len cap => exact absurd rfl (hs _ _ _ _)
  | rsl r f len =>
    simp only [YtofnbldbggddmaaGreatDoor.lenA] at hl
    injection hl with hl
    subst hl
    simp only [bounds2]
    rw [bd_nat hn]
    refine ⟨_, rfl, ?_⟩
    refine ⟨by show Res.ok _ = _; rw [bes_len, hlen]; simp, (fun s h => by cases h), fun hx => ?_, trivial, (fun _ _ _ h => by cases h)⟩
    obtain ⟨ws, g, h1, h2⟩ := hrow (hne hx)
    refine ⟨ws, g, ?_, fun i e he => h2 i e (hes i e he)⟩
    simpa [rowOf] using h1
  | str s => exact absurd rfl (m.noStr s)
  | _ => simp only [YtofnbldbggddmaaGreatDoor.lenA] at hl; cases hl
end
end Go.Proofs.YtofnbldbggddmaaGreatDoor
set_option linter.all false
namespace Go.Proofs.YtofnbldbggddmaaGreatDoor
open Go Go.RowKit

def numS (n : Nat) : List UInt8 := if h : n < 128 then [UInt8.ofNat n] else UInt8.ofNat (n % 128 + 128) :: numS (n / 128)
termination_by n
decreasing_by omega

theorem numS_lo {n : Nat} (h : n < 128) : numS n = [UInt8.ofNat n] := by rw [numS, dif_pos h]
theorem numS_hi {n : Nat} (h : ¬ n < 128) : numS n = UInt8.ofNat (n % 128 + 128) :: numS (n / 128) := by rw [numS, dif_neg h]
theorem numS_len : ∀ (k n : Nat), n < 128 ^ (k + 1) → (numS n).length ≤ k + 1
  | 0, n, h => by rw [numS_lo (by simpa using h)]; simp
  | k + 1, n, h => by
    by_cases h1 : n < 128
    · rw [numS_lo h1]; simp
    · rw [numS_hi h1]
      have : n / 128 < 128 ^ (k + 1) := by
        rw [Nat.div_lt_iff_lt_mul (by omega)]
        rw [Nat.pow_succ] at h; exact h
      have := numS_len k _ this
      simp; omega

def rdGo (bs : List UInt8) (a limit : Nat) : Nat → Nat → Nat → Nat × Nat × Nat
  | 0, _, _ => (0, a, 11)
  | f + 1, k, n => match bs[a + k]? with
    | none => (0, a, 14)
    | some c => if c.toNat < 128 then
        if c.toNat = 0 ∧ 0 < k then (0, a, 11) else if limit < n + c.toNat % 128 * 128 ^ k then (0, a, 10) else (n + c.toNat % 128 * 128 ^ k, a + k + 1, 0)
      else rdGo bs a limit f (k + 1) (n + c.toNat % 128 * 128 ^ k)
def rdNum (bs : List UInt8) (a limit : Nat) : Nat × Nat × Nat := rdGo bs a limit 9 0 0

theorem rdGo_lt {bs : List UInt8} {a limit : Nat} : ∀ {f k n v p e : Nat}, rdGo bs a limit f k n = (v, p, e) → (e = 0 → a < p ∧ p ≤ bs.length ∧ v ≤ limit) ∧ (e ≠ 0 → p = a ∧ v = 0) ∧ (e = 0 ∨ e = 10 ∨ e = 11 ∨ e = 14)
  | 0, k, n, v, p, e, h => by simp only [rdGo] at h; cases h; simp
  | f + 1, k, n, v, p, e, h => by
    rw [rdGo] at h
    split at h
    · cases h; simp
    · rename_i c hc
      have hlt := (List.getElem?_eq_some_iff.1 hc).1
      split at h
      · split at h
        · cases h; simp
        · split at h
          · cases h; simp
          · cases h; simp; omega
      · exact rdGo_lt h

theorem toNat_ofNat {n : Nat} (h : n < 256) : (UInt8.ofNat n).toNat = n := by
  rw [UInt8.toNat_ofNat']; exact Nat.mod_eq_of_lt h

theorem rdGo_num {bs post : List UInt8} {a limit : Nat} : ∀ (f k m acc : Nat), bs.drop (a + k) = numS m ++ post → (numS m).length ≤ f → (0 < k → 0 < m) → acc + m * 128 ^ k ≤ limit →
    rdGo bs a limit f k acc = (acc + m * 128 ^ k, a + k + (numS m).length, 0)
  | 0, k, m, acc, _, hf, _, _ => by
    by_cases h : m < 128
    · rw [numS_lo h] at hf; simp at hf
    · rw [numS_hi h] at hf; simp at hf
  | f + 1, k, m, acc, hd, hf, hk, hl => by
    have hc : bs[a + k]? = (bs.drop (a + k))[0]? := by rw [List.getElem?_drop]; rfl
    by_cases h : m < 128
    · rw [numS_lo h] at hd hf ⊢
      rw [rdGo, hc, hd]
      simp only [List.cons_append, List.getElem?_cons_zero]
      rw [toNat_ofNat (by omega), if_pos h, if_neg (by omega), Nat.mod_eq_of_lt h, if_neg (by omega)]
      rfl
    · rw [numS_hi h] at hd hf ⊢
      rw [rdGo, hc, hd]
      simp only [List.cons_append, List.getElem?_cons_zero]
      have h1 : m % 128 < 128 := Nat.mod_lt _ (by omega)
      rw [toNat_ofNat (by omega), if_neg (by omega)]
      have h2 : (m % 128 + 128) % 128 = m % 128 := by omega
      have h3 : acc + m % 128 * 128 ^ k + m / 128 * 128 ^ (k + 1) = acc + m * 128 ^ k := by
        have h4 := Nat.div_add_mod m 128
        have h5 : m / 128 * 128 ^ (k + 1) = 128 * (m / 128) * 128 ^ k := by rw [Nat.pow_succ, Nat.mul_comm (128 ^ k) 128, ← Nat.mul_assoc, Nat.mul_comm (m / 128) 128]
        rw [h5, Nat.add_assoc, ← Nat.add_mul, Nat.add_comm (m % 128), h4]
      rw [h2]
      have h6 := rdGo_num (bs := bs) (post := post) (a := a) (limit := limit) f (k + 1) (m / 128) (acc + m % 128 * 128 ^ k) (by
        have := congrArg (List.drop 1) hd
        rw [List.drop_drop] at this
        simpa [Nat.add_assoc] using this) (by simp at hf; omega) (by omega) (by omega)
      rw [h6, h3]
      simp
      omega

theorem rdNum_num {pre post : List UInt8} {m limit : Nat} (hm : m < 128 ^ 9) (hl : m ≤ limit) : rdNum (pre ++ (numS m ++ post)) pre.length limit = (m, pre.length + (numS m).length, 0) := by
  have := rdGo_num (bs := pre ++ (numS m ++ post)) (post := post) (a := pre.length) (limit := limit) 9 0 m 0 (by simp) (numS_len 8 m hm) (by simp) (by simpa using hl)
  simpa [rdNum] using this

theorem wrap8 (n : Int) : IntKind.u8.wrap n = n % 256 := by unfold IntKind.wrap; simp [IntKind.bits, IntKind.signed]
theorem wrap16 (n : Int) : IntKind.u16.wrap n = n % 65536 := by unfold IntKind.wrap; simp [IntKind.bits, IntKind.signed]
theorem wrap32 (n : Int) : IntKind.u32.wrap n = n % 4294967296 := by unfold IntKind.wrap; simp [IntKind.bits, IntKind.signed]
theorem wrap64 (n : Int) : IntKind.u64.wrap n = n % 18446744073709551616 := by unfold IntKind.wrap; simp [IntKind.bits, IntKind.signed]
theorem and63 {n : Nat} (h : n < 2 ^ 63) : iand .u64 (n : Int) 9223372036854775807 = n := by
  have h1 : (BitVec.ofInt 64 (n : Int)).toNat = n := by simp; omega
  have h2 : (BitVec.ofInt 64 9223372036854775807).toNat = 2 ^ 63 - 1 := by decide
  unfold iand
  show IntKind.u64.wrap ((BitVec.ofInt 64 (n : Int) &&& BitVec.ofInt 64 9223372036854775807).toNat : Int) = n
  rw [BitVec.toNat_and, h1, h2, Nat.and_two_pow_sub_one_eq_mod, wrap64]
  omega
theorem or128 : ∀ x : Nat, x < 256 → ior .u8 (x : Int) 128 = ((x % 128 + 128 : Nat) : Int) := by decide +kernel
theorem and127 : ∀ x : Nat, x < 256 → iand .u8 (x : Int) 127 = ((x % 128 : Nat) : Int) := by decide +kernel
theorem shr7 (n : Nat) : ishr .u64 (n : Int) 7 = ((n / 128 : Nat) : Int) := by
  unfold ishr
  show Int.fdiv (n : Int) (2 ^ 7) = _
  rw [Int.fdiv_eq_ediv_of_nonneg _ (by decide)]
  rfl

end Go.Proofs.YtofnbldbggddmaaGreatDoor
set_option linter.all false
namespace Go.Proofs.YtofnbldbggddmaaGreatDoor
open Go Go.RowKit

inductive Rt (α : Type) where
  | nil
  | node (o ht : Nat) (x : α) (l r : Rt α)
structure Frm (α : Type) where
  o : Nat
  ht : Nat
  x : α
  left : Bool
  sib : Rt α
/-- how things stand in memory -/
structure Sig (α : Type) where
  ic : α → List AVal
  sm : List α → List AVal → Prop

section
variable {α : Type}
def Rt.items : Rt α → List (Nat × α)
  | .nil => []
  | .node o _ x l r => l.items ++ (o, x) :: r.items
def Rt.ids (t : Rt α) : List Nat := t.items.map (·.1)
def Rt.ptr : Rt α → AVal
  | .nil => .nilp
  | .node o _ _ _ _ => .ptr o 0
def plug1 (f : Frm α) (t : Rt α) : Rt α := match f.left with
  | true => .node f.o f.ht f.x t f.sib
  | false => .node f.o f.ht f.x f.sib t
def plug : List (Frm α) → Rt α → Rt α
  | [], t => t
  | f :: c, t => plug c (plug1 f t)
def bef : List (Frm α) → List (Nat × α)
  | [] => []
  | f :: c => bef c ++ match f.left with
    | true => []
    | false => f.sib.items ++ [(f.o, f.x)]
def aft : List (Frm α) → List (Nat × α)
  | [] => []
  | f :: c => (match f.left with
    | true => (f.o, f.x) :: f.sib.items
    | false => []) ++ aft c
theorem plug_items : ∀ (c : List (Frm α)) (t : Rt α), (plug c t).items = bef c ++ t.items ++ aft c
  | [], t => by simp [plug, bef, aft]
  | f :: c, t => by
    rw [plug, plug_items c]
    unfold plug1
    cases h : f.left <;> simp [bef, aft, h, Rt.items]
theorem items_node (o ht : Nat) (x : α) (l r : Rt α) : (Rt.node o ht x l r).items = l.items ++ (o, x) :: r.items := rfl
theorem ids_node (o ht : Nat) (x : α) (l r : Rt α) : (Rt.node o ht x l r).ids = l.ids ++ o :: r.ids := by simp [Rt.ids, Rt.items]
theorem plug_ids (c : List (Frm α)) (t : Rt α) : (plug c t).ids = (bef c).map (·.1) ++ t.ids ++ (aft c).map (·.1) := by simp [Rt.ids, plug_items]
/-- the numbers of a way down, with all beside it -/
def cids (c : List (Frm α)) : List Nat := (bef c).map (·.1) ++ (aft c).map (·.1)
theorem cids_cons {f : Frm α} {c : List (Frm α)} {o : Nat} : o ∈ cids (f :: c) ↔ o = f.o ∨ o ∈ f.sib.ids ∨ o ∈ cids c := by
  unfold cids Rt.ids
  cases h : f.left <;> simp [bef, aft, h] <;> constructor <;> intro hh <;> (repeat' (rcases hh with hh | hh)) <;> simp_all
theorem plug_mem {c : List (Frm α)} {t : Rt α} {o : Nat} : o ∈ (plug c t).ids ↔ o ∈ t.ids ∨ o ∈ cids c := by
  rw [plug_ids]; unfold cids
  simp only [List.mem_append]
  constructor <;> intro h <;> (repeat' (rcases h with h | h)) <;> simp_all

/-- all numbers are apart -/
structure Apart (c : List (Frm α)) (t : Rt α) : Prop where
  nd : (plug c t).ids.Nodup

theorem nodup_mid {a b c : List Nat} (h : (a ++ b ++ c).Nodup) : b.Nodup ∧ ∀ o ∈ b, o ∉ a ∧ o ∉ c := by
  rw [List.nodup_append, List.nodup_append] at h
  obtain ⟨⟨h1, h2, h3⟩, h4, h5⟩ := h
  exact ⟨h2, fun o ho => ⟨fun ha => h3 o ha o ho rfl, fun hc => h5 o (List.mem_append.2 (.inr ho)) o hc rfl⟩⟩
theorem apart_tree {c : List (Frm α)} {t : Rt α} (h : (plug c t).ids.Nodup) : t.ids.Nodup ∧ ∀ o ∈ t.ids, o ∉ cids c := by
  rw [plug_ids] at h
  obtain ⟨h1, h2⟩ := nodup_mid h
  refine ⟨h1, fun o ho hc => ?_⟩
  unfold cids at hc
  rcases List.mem_append.1 hc with hc | hc
  · exact (h2 o ho).1 hc
  · exact (h2 o ho).2 hc
theorem apart_node {o ht : Nat} {x : α} {l r : Rt α} (h : (Rt.node o ht x l r).ids.Nodup) : l.ids.Nodup ∧ r.ids.Nodup ∧ o ∉ l.ids ∧ o ∉ r.ids ∧ ∀ q ∈ l.ids, q ∉ r.ids := by
  rw [ids_node, List.nodup_append, List.nodup_cons] at h
  obtain ⟨h1, ⟨h2, h3⟩, h4⟩ := h
  exact ⟨h1, h3, fun ho => h4 o ho o (by simp) rfl, h2, fun q hq hr => h4 q hq q (by simp [hr]) rfl⟩

/-! ### in memory -/
def Rt.rs (t : Rt α) : List α := t.items.map (·.2)
variable (S : Sig α)
def nobj (up l r : AVal) (ht sz : Nat) (x : α) (all : List AVal) : AObj := .row 0 false ([up, l, r, .int .u64 ht, .int .i64 sz] ++ S.ic x ++ all)
def At (h : AHeap) : AVal → Rt α → Prop
  | _, .nil => True
  | up, .node o ht x l r => (∃ all, S.sm (Rt.node o ht x l r).rs all ∧ h.get o = some (nobj S up l.ptr r.ptr ht (l.items.length + 1 + r.items.length) x all)) ∧ At h (.ptr o 0) l ∧ At h (.ptr o 0) r
def upOf : List (Frm α) → AVal
  | [] => .nilp
  | f :: _ => .ptr f.o 0
def lptr (f : Frm α) (p : AVal) : AVal := match f.left with | true => p | false => f.sib.ptr
def rptr' (f : Frm α) (p : AVal) : AVal := match f.left with | true => f.sib.ptr | false => p
/-- a way up, whose sums may be stale -/
def CA (h : AHeap) : List (Frm α) → AVal → Prop
  | [], _ => True
  | f :: c, p => (∃ sz all, (∃ q : List α, S.sm q all) ∧ h.get f.o = some (nobj S (upOf c) (lptr f p) (rptr' f p) f.ht sz f.x all)) ∧ At S h (.ptr f.o 0) f.sib ∧ CA h c (.ptr f.o 0)
/-- where the root's pointer goes -/
def rootOf : List (Frm α) → AVal → AVal
  | [], p => p
  | f :: c, _ => rootOf c (.ptr f.o 0)

variable {S}
theorem At.congr {h h' : AHeap} : ∀ {t : Rt α} {up : AVal}, (∀ o ∈ t.ids, h'.get o = h.get o) → At S h up t → At S h' up t
  | .nil, _, _, _ => trivial
  | .node o ht x l r, up, hg, ha => by
    obtain ⟨⟨all, hs, h1⟩, h2, h3⟩ := ha
    rw [ids_node] at hg
    exact ⟨⟨all, hs, by rw [hg o (by simp)]; exact h1⟩, At.congr (fun q hq => hg q (by simp [hq])) h2, At.congr (fun q hq => hg q (by simp [hq])) h3⟩
theorem CA.congr {h h' : AHeap} : ∀ {c : List (Frm α)} {p : AVal}, (∀ o ∈ cids c, h'.get o = h.get o) → CA S h c p → CA S h' c p
  | [], _, _, _ => trivial
  | f :: c, p, hg, ha => by
    obtain ⟨⟨sz, all, h0, h1⟩, h2, h3⟩ := ha
    exact ⟨⟨sz, all, h0, by rw [hg f.o (cids_cons.2 (.inl rfl))]; exact h1⟩, At.congr (fun q hq => hg q (cids_cons.2 (.inr (.inl hq)))) h2, CA.congr (fun q hq => hg q (cids_cons.2 (.inr (.inr hq)))) h3⟩
theorem plug_ptr : ∀ (c : List (Frm α)) (t : Rt α), (plug c t).ptr = rootOf c t.ptr
  | [], t => rfl
  | f :: c, t => by
    rw [plug, plug_ptr c, rootOf]
    unfold plug1
    cases f.left <;> rfl
/-- a whole tree, at a place in it -/
theorem At.split {h : AHeap} : ∀ {c : List (Frm α)} {t : Rt α}, At S h .nilp (plug c t) → At S h (upOf c) t ∧ CA S h c t.ptr
  | [], t, ha => ⟨ha, trivial⟩
  | f :: c, t, ha => by
    obtain ⟨h1, h2⟩ := At.split (c := c) ha
    unfold plug1 at h1 h2
    cases hf : f.left with
    | true =>
      rw [hf] at h1 h2
      obtain ⟨⟨all, hs, a1⟩, a2, a3⟩ := h1
      have e1 : lptr f t.ptr = t.ptr := by simp only [lptr, hf]
      have e2 : rptr' f t.ptr = f.sib.ptr := by simp only [rptr', hf]
      refine ⟨a2, ⟨t.items.length + 1 + f.sib.items.length, all, ⟨_, hs⟩, ?_⟩, a3, h2⟩
      rw [e1, e2]; exact a1
    | false =>
      rw [hf] at h1 h2
      obtain ⟨⟨all, hs, a1⟩, a2, a3⟩ := h1
      have e1 : lptr f t.ptr = f.sib.ptr := by simp only [lptr, hf]
      have e2 : rptr' f t.ptr = t.ptr := by simp only [rptr', hf]
      refine ⟨a3, ⟨f.sib.items.length + 1 + t.items.length, all, ⟨_, hs⟩, ?_⟩, a2, h2⟩
      rw [e1, e2]; exact a1
end
@[simp] theorem same_self (v : AVal) : sameRes (.ok v) v = true := AVal.beq_refl v
end Go.Proofs.YtofnbldbggddmaaGreatDoor
set_option linter.all false
namespace Go.Proofs.YtofnbldbggddmaaGreatDoor
open Go Go.RowKit
def notSlc (v : AVal) : Prop := ∀ o f l q, v ≠ .slc o f l q
/-- a part of a slice -/
def cutV (v : AVal) (sz a b : Nat) : AVal :=
  match v with
  | .sl o off _ => .sl o (off + a * sz) (b - a)
  | .rsl r off _ => .rsl r (off + a * sz) (b - a)
  | v => v
theorem bd_to {n top at_ : Nat} (h : at_ ≤ top) (k : IntKind) : bounds2 n top none (some (.int k at_)) = .ok (0, at_) := by
  unfold bounds2
  simp only [bd_nat h, Res.ok_bind]
theorem bd_from {n top at_ : Nat} (h : at_ ≤ n) (k : IntKind) : bounds2 n top (some (.int k at_)) none = .ok (at_, n) := by
  unfold bounds2
  simp only [Res.ok_bind, bd_nat h]
theorem bd_both {n top a b : Nat} (h : b ≤ top) (h' : a ≤ b) (k k' : IntKind) : bounds2 n top (some (.int k a)) (some (.int k' b)) = .ok (a, b) := by
  unfold bounds2
  simp only [bd_nat h, Res.ok_bind, bd_nat h']
section
variable {c : Cfg} {h : AHeap} {sz : Nat} {v : AVal} {es : List (List AVal)}
theorem Sl.cut {lo hi : Option AVal} {a b : Nat} (s : Sl c h sz v es) (hz : sz ≠ 0) (hv : notSlc v) (hb : ∀ top, es.length ≤ top → bounds2 es.length top lo hi = .ok (a, b)) (hab : a ≤ b) (hbl : b ≤ es.length) :
    sliceSl h sz v lo hi none = .ok (cutV v sz a b) ∧ Sl c h sz (cutV v sz a b) ((es.take b).drop a) ∧ notSlc (cutV v sz a b) := by
  have hlen : ((es.take b).drop a).length = b - a := by rw [List.length_drop, List.length_take]; omega
  have hget : ∀ i e, ((es.take b).drop a)[i]? = some e → es[a + i]? = some e := by
    intro i e h1
    rw [List.getElem?_drop, List.getElem?_take] at h1
    split at h1
    · exact h1
    · cases h1
  have hne : ((es.take b).drop a) ≠ [] → es ≠ [] := by
    rintro h1 rfl; simp at h1
  have hl := s.len
  cases v <;> simp only [lenA] at hl <;> try (cases hl; done)
  · exact absurd rfl (s.noStr _)
  · injection hl with hl
    have : es = [] := List.length_eq_zero_iff.1 hl.symm
    subst this
    refine ⟨?_, by simpa [cutV] using Sl.nil, fun _ _ _ _ h => by cases h⟩
    unfold sliceSl
    have := hb 0 (by simp)
    simp only [List.length_nil] at this
    rw [this]; rfl
  · rename_i o off len
    injection hl with hl
    obtain ⟨z, vs, hg⟩ := s.room o off len rfl
    refine ⟨?_, ?_, fun _ _ _ _ h => by cases h⟩
    · have hr : roomOf h o off sz = .ok ((vs.length - off) / sz) := by
        unfold roomOf; rw [hg]; simp [hz]
      simp only [sliceSl]
      rw [hr, Res.ok_bind, hl, hb _ (Nat.le_max_left _ _)]; rfl
    · refine ⟨by rw [hlen]; rfl, (fun s h => by cases h), fun h1 => ?_, s.low, fun o' f n hv => ?_⟩
      · obtain ⟨vs', f, h2, h3⟩ := s.row (hne h1)
        refine ⟨vs', f + a * sz, ?_, fun i e he => ?_⟩
        · simp only [rowOf, cutV, hg] at h2 ⊢; injection h2 with h2; injection h2 with h4 h5; subst h4 h5; rfl
        · have := h3 (a + i) e (hget i e he)
          rw [Nat.add_mul, ← Nat.add_assoc] at this
          exact this
      · cases hv; exact ⟨z, vs, hg⟩
  · exact absurd rfl (hv _ _ _ _)
  · rename_i r off len
    injection hl with hl
    refine ⟨?_, ?_, fun _ _ _ _ h => by cases h⟩
    · simp only [sliceSl]
      rw [hl, hb _ (Nat.le_refl _)]; rfl
    · refine ⟨by rw [hlen]; rfl, (fun s h => by cases h), fun h1 => ?_, s.low, fun o' f n hv => by cases hv⟩
      obtain ⟨vs', f, h2, h3⟩ := s.row (hne h1)
      refine ⟨vs', f + a * sz, ?_, fun i e he => ?_⟩
      · simp only [rowOf, cutV] at h2 ⊢
        cases hr : c.ro r with
        | none => rw [hr] at h2; cases h2
        | some ws => rw [hr] at h2; simp at h2 ⊢; obtain ⟨rfl, rfl⟩ := h2; exact ⟨rfl, rfl⟩
      · have := h3 (a + i) e (hget i e he)
        rw [Nat.add_mul, ← Nat.add_assoc] at this
        exact this
theorem Sl.upto {at_ : Nat} (s : Sl c h sz v es) (hz : sz ≠ 0) (hv : notSlc v) (hle : at_ ≤ es.length) (k : IntKind) :
    sliceSl h sz v none (some (.int k at_)) none = .ok (cutV v sz 0 at_) ∧ Sl c h sz (cutV v sz 0 at_) (es.take at_) ∧ notSlc (cutV v sz 0 at_) := by
  have := s.cut (lo := none) (hi := some (.int k at_)) (a := 0) (b := at_) hz hv (fun top ht => bd_to (by omega) k) (Nat.zero_le _) hle
  simpa using this
theorem Sl.from_ {at_ : Nat} (s : Sl c h sz v es) (hz : sz ≠ 0) (hv : notSlc v) (hle : at_ ≤ es.length) (k : IntKind) :
    sliceSl h sz v (some (.int k at_)) none none = .ok (cutV v sz at_ es.length) ∧ Sl c h sz (cutV v sz at_ es.length) (es.drop at_) ∧ notSlc (cutV v sz at_ es.length) := by
  have := s.cut (lo := some (.int k at_)) (hi := none) (a := at_) (b := es.length) hz hv (fun top ht => bd_from (by omega) k) hle (Nat.le_refl _)
  simpa using this
theorem Mine.cells {h0 h : AHeap} {es : List (List AVal)} {v : AVal} (m : Mine h0 h sz es v) : cellsV v = .ok [v] := by
  obtain ⟨_, ⟨_, rfl⟩ | ⟨q, fz, rfl, _⟩⟩ := m <;> rfl
theorem Mine.notSlc {h0 h : AHeap} {es : List (List AVal)} {v : AVal} (m : Mine h0 h sz es v) : notSlc v := by
  obtain ⟨_, ⟨_, rfl⟩ | ⟨q, fz, rfl, _⟩⟩ := m <;> (intro o f l q h; cases h)
end
end Go.Proofs.YtofnbldbggddmaaGreatDoor
set_option linter.all false
namespace Go.Proofs.YtofnbldbggddmaaGreatDoor
open Go Ieee

/-- a datum that stands for a whole number -/
def Dz (d : Datum) (n : Int) : Prop := ∃ s m e, d = .number s m e ∧ e ≤ 0 ∧ m = n.natAbs * 2 ^ (-e).toNat ∧ (if s then n ≤ 0 else 0 ≤ n)
/-- a word that stands for a whole number -/
def Wh (b : Nat) (n : Int) : Prop := Dz (double.read b) n

theorem signed_dz {s : Bool} {m : Nat} {e base : Int} {n : Int} (he : e ≤ 0) (hm : m = n.natAbs * 2 ^ (-e).toNat) (hs : if s then n ≤ 0 else 0 ≤ n) (hb : base ≤ e) : signed s m (e - base).toNat = n * 2 ^ (-base).toNat := by
  have h1 : ((m <<< (e - base).toNat : Nat) : Int) = (n.natAbs : Int) * 2 ^ (-base).toNat := by
    rw [Nat.shiftLeft_eq, hm, Nat.mul_assoc, ← Nat.pow_add, show (-e).toNat + (e - base).toNat = (-base).toNat by omega]
    push_cast; rfl
  unfold signed
  cases s with
  | true =>
    simp only [if_true] at hs ⊢
    rw [h1, show (n.natAbs : Int) = -n by omega, Int.neg_mul, Int.neg_neg]
  | false =>
    simp only [Bool.false_eq_true, if_false] at hs ⊢
    rw [h1, show (n.natAbs : Int) = n by omega]

theorem pow_big : (2 : Nat) ^ 11 = 2048 := by decide
theorem double_sw : double.signWeight = 2 ^ 63 := by decide
theorem double_bi : double.binade = 2 ^ 52 := by decide
theorem double_inf : double.infRung = 2047 * 2 ^ 52 := by decide
theorem double_lp : double.leastPlace = -1074 := by decide

theorem read_word (s : Bool) {r : Nat} (hr : r < 2 ^ 63) : double.read (double.word s r) =
    if r < 2 ^ 52 then .number s r (-1074) else if r < 2047 * 2 ^ 52 then .number s (2 ^ 52 + r % 2 ^ 52) (-1074 + (r / 2 ^ 52 - 1 : Nat)) else if r = 2047 * 2 ^ 52 then .infinity s else .nan s (r - 2047 * 2 ^ 52) := by
  have h1 : double.word s r % 2 ^ 63 = r := by
    unfold Format.word
    rw [double_sw]
    cases s <;> simp <;> omega
  have h2 : (double.word s r / 2 ^ 63 % 2 == 1) = s := by
    unfold Format.word
    rw [double_sw]
    cases s with
    | true =>
      simp only [if_true]
      rw [show (2 ^ 63 + r) / 2 ^ 63 = 1 by omega]; rfl
    | false =>
      simp only [Bool.false_eq_true, if_false]
      rw [show r / 2 ^ 63 = 0 by omega]; rfl
  unfold Format.read
  simp only [double_sw, double_bi, double_inf, double_lp, h1, h2]

theorem cut_exact {neg : Bool} {q k : Nat} : Toward.even.cut neg (q * 2 ^ k) k = q := by
  unfold Toward.cut
  by_cases hq : q = 0
  · subst hq
    simp
  · have hk : k ≤ (q * 2 ^ k).log2 := by
      rw [Nat.le_log2 (by have := Nat.two_pow_pos k; exact Nat.mul_ne_zero hq (by omega))]
      exact Nat.le_mul_of_pos_left _ (by omega)
    have hg : 1 <<< min k ((q * 2 ^ k).log2 + 2) = 2 ^ k := by
      rw [Nat.min_eq_left (by omega), Nat.shiftLeft_eq, Nat.one_mul]
    simp only [hg]
    have h1 : q * 2 ^ k / 2 ^ k = q := Nat.mul_div_cancel _ (Nat.two_pow_pos k)
    have h2 : q * 2 ^ k % 2 ^ k = 0 := Nat.mul_mod_left _ _
    have hp := Nat.two_pow_pos k
    rw [h1, h2]
    have e1 : decide (2 ^ k < 2 * 0) = false := decide_eq_false (by omega)
    have e2 : (2 ^ k == 2 * 0) = false := by rw [beq_eq_false_iff_ne]; omega
    rw [e1, e2]; rfl

theorem log2_mul {a : Nat} (h : a ≠ 0) (k : Nat) : (a * 2 ^ k).log2 = a.log2 + k := by
  have hp := Nat.two_pow_pos k
  rw [Nat.log2_eq_iff (Nat.mul_ne_zero h (by omega))]
  constructor
  · rw [Nat.pow_add]; exact Nat.mul_le_mul_right _ (Nat.log2_self_le h)
  · rw [show a.log2 + k + 1 = (a.log2 + 1) + k by omega, Nat.pow_add]
    exact Nat.mul_lt_mul_of_pos_right Nat.lt_log2_self hp

/-- a whole number that is written is read again -/
theorem write_wh {s : Bool} {m : Nat} {p n : Int} (hp : p ≤ 0) (hm : m = n.natAbs * 2 ^ (-p).toNat) (hs : if s then n ≤ 0 else 0 ≤ n) (hn : n.natAbs < 2 ^ 53) : Wh (double.write (.number s m p)) n := by
  unfold Wh Format.write Format.nearest
  simp only
  by_cases h0 : n.natAbs = 0
  · have hm0 : m = 0 := by rw [hm, h0, Nat.zero_mul]
    rw [if_pos hm0, read_word s (by decide), if_pos (by decide)]
    exact ⟨s, 0, -1074, rfl, by decide, by rw [h0, Nat.zero_mul], hs⟩
  · have hmp : m ≠ 0 := by rw [hm]; exact Nat.mul_ne_zero h0 (by have := Nat.two_pow_pos (-p).toNat; omega)
    rw [if_neg hmp, double_lp]
    have hl : m.log2 = n.natAbs.log2 + (-p).toNat := by
      rw [hm]; exact log2_mul h0 _
    have hL : n.natAbs.log2 < 53 := (Nat.log2_lt h0).2 hn
    obtain ⟨L, hLL⟩ : ∃ L, L = n.natAbs.log2 := ⟨_, rfl⟩
    rw [← hLL] at hl hL
    have hfb : ((double.fractionBits : Nat) : Int) = 52 := rfl
    have hlast : max (p + (m.log2 : Int) - (double.fractionBits : Int)) (-1074) = (L : Int) - 52 := by
      rw [hfb, hl]; push_cast; omega
    rw [hlast]
    obtain ⟨K, hK⟩ : ∃ K, K = n.natAbs * 2 ^ (52 - L) := ⟨_, rfl⟩
    have hkept : Toward.even.cut s (m <<< (p - ((L : Int) - 52)).toNat) ((L : Int) - 52 - p).toNat = K := by
      have e1 : m <<< (p - ((L : Int) - 52)).toNat = K * 2 ^ ((L : Int) - 52 - p).toNat := by
        rw [Nat.shiftLeft_eq, hm, hK, Nat.mul_assoc, Nat.mul_assoc, ← Nat.pow_add, ← Nat.pow_add]
        congr 2; omega
      rw [e1]; exact cut_exact
    rw [hkept]
    have hK1 : 2 ^ 52 ≤ K := by
      have h1 : 2 ^ L ≤ n.natAbs := by rw [hLL]; exact Nat.log2_self_le h0
      rw [hK]
      calc 2 ^ 52 = 2 ^ L * 2 ^ (52 - L) := by rw [← Nat.pow_add]; congr 1; omega
        _ ≤ _ := Nat.mul_le_mul_right _ h1
    have hK2 : K < 2 ^ 53 := by
      have h1 : n.natAbs < 2 ^ (L + 1) := by rw [hLL]; exact Nat.lt_log2_self
      rw [hK]
      calc n.natAbs * 2 ^ (52 - L) < 2 ^ (L + 1) * 2 ^ (52 - L) := Nat.mul_lt_mul_of_pos_right h1 (Nat.two_pow_pos _)
        _ = 2 ^ 53 := by rw [← Nat.pow_add]; congr 1; omega
    obtain ⟨t, ht⟩ : ∃ t, t = ((L : Int) - 52 - -1074).toNat := ⟨_, rfl⟩
    have ht2 : t = L + 1022 := by omega
    rw [← ht, double_bi, double_inf]
    have r0 : t * 2 ^ 52 + K ≤ 2047 * 2 ^ 52 := by omega
    have r1 : t * 2 ^ 52 + K < 2 ^ 63 := by omega
    have r2 : ¬ t * 2 ^ 52 + K < 2 ^ 52 := by omega
    have r3 : t * 2 ^ 52 + K < 2047 * 2 ^ 52 := by omega
    rw [Nat.min_eq_left r0, read_word s r1, if_neg r2, if_pos r3]
    refine ⟨s, K, (L : Int) - 52, ?_, by omega, ?_, hs⟩
    · have e1 : 2 ^ 52 + (t * 2 ^ 52 + K) % 2 ^ 52 = K := by omega
      have e2 : (-1074 : Int) + ((t * 2 ^ 52 + K) / 2 ^ 52 - 1 : Nat) = (L : Int) - 52 := by omega
      rw [e1, e2]
    · rw [hK]; congr 2; omega

theorem nearest_wh {n : Int} (hn : n.natAbs < 2 ^ 53) : Wh (FloatKind.f64.nearest n) n := by
  unfold FloatKind.nearest FloatKind.encode
  refine write_wh (n := n) (Int.le_refl 0) (by simp) ?_ hn
  by_cases h : n < 0
  · simp [h]; omega
  · simp [h]; omega

theorem sum_dz {a b : Datum} {x y : Int} (ha : Dz a x) (hb : Dz b y) : ∃ s m p, a.sum b = some (.number s m p) ∧ p ≤ 0 ∧ m = (x + y).natAbs * 2 ^ (-p).toNat ∧ (if s then x + y ≤ 0 else 0 ≤ x + y) := by
  obtain ⟨s, m, i, rfl, hi, hm, hs⟩ := ha
  obtain ⟨t, n, j, rfl, hj, hn, ht⟩ := hb
  have e1 := signed_dz hi hm hs (base := min i j) (by omega)
  have e2 := signed_dz hj hn ht (base := min i j) (by omega)
  have htot : signed s m (i - min i j).toNat + signed t n (j - min i j).toNat = (x + y) * 2 ^ (-min i j).toNat := by
    rw [e1, e2, Int.add_mul]
  have hp : (0 : Int) < 2 ^ (-min i j).toNat := Int.pow_pos (by decide)
  refine ⟨_, _, _, rfl, by omega, ?_, ?_⟩
  · rw [htot, Int.natAbs_mul, Int.natAbs_pow]; rfl
  · rw [htot]
    by_cases h0 : x + y = 0
    · rw [h0]; simp
    · have hne : (x + y) * 2 ^ (-min i j).toNat ≠ 0 := Int.mul_ne_zero h0 (by omega)
      rw [if_neg hne]
      by_cases hlt : x + y < 0
      · have : (x + y) * 2 ^ (-min i j).toNat < 0 := Int.mul_neg_of_neg_of_pos hlt hp
        simp [this]; omega
      · have : ¬ (x + y) * 2 ^ (-min i j).toNat < 0 := by
          have := Int.mul_nonneg (show 0 ≤ x + y by omega) (Int.le_of_lt hp); omega
        simp [this]; omega
theorem opp_dz {a : Datum} {x : Int} (ha : Dz a x) : Dz a.opposite (-x) := by
  obtain ⟨s, m, i, rfl, hi, hm, hs⟩ := ha
  refine ⟨!s, m, i, rfl, hi, by rw [hm, Int.natAbs_neg], ?_⟩
  cases s <;> simp at hs ⊢ <;> omega
theorem add_wh {a b : Nat} {x y : Int} (ha : Wh a x) (hb : Wh b y) (h : (x + y).natAbs < 2 ^ 53) : ∃ r, double.add a b = some r ∧ Wh r (x + y) := by
  obtain ⟨s, m, p, e1, e2, e3, e4⟩ := sum_dz ha hb
  refine ⟨_, ?_, write_wh e2 e3 e4 h⟩
  unfold Format.add; rw [e1]; rfl
theorem sub_wh {a b : Nat} {x y : Int} (ha : Wh a x) (hb : Wh b y) (h : (x - y).natAbs < 2 ^ 53) : ∃ r, double.sub a b = some r ∧ Wh r (x - y) := by
  obtain ⟨s, m, p, e1, e2, e3, e4⟩ := sum_dz ha (opp_dz hb)
  rw [← Int.sub_eq_add_neg] at e3 e4
  refine ⟨_, ?_, write_wh e2 e3 e4 h⟩
  unfold Format.sub; rw [e1]; rfl
theorem mul_wh {a b : Nat} {x y : Int} (ha : Wh a x) (hb : Wh b y) (h : (x * y).natAbs < 2 ^ 53) : ∃ r, double.mul a b = some r ∧ Wh r (x * y) := by
  obtain ⟨s, m, i, ea, hi, hm, hs⟩ := ha
  obtain ⟨t, n, j, eb, hj, hn, ht⟩ := hb
  refine ⟨_, by unfold Format.mul; rw [ea, eb]; rfl, write_wh (s := s ^^ t) (m := m * n) (p := i + j) (n := x * y) (by omega) ?_ ?_ h⟩
  · rw [hm, hn, Int.natAbs_mul, show (-(i + j)).toNat = (-i).toNat + (-j).toNat by omega, Nat.pow_add]
    simp only [Nat.mul_assoc, Nat.mul_left_comm]
  · cases s <;> cases t <;> simp at hs ht ⊢
    · exact Int.mul_nonneg hs ht
    · exact Int.mul_nonpos_of_nonneg_of_nonpos hs ht
    · exact Int.mul_nonpos_of_nonpos_of_nonneg hs ht
    · exact Int.mul_nonneg_of_nonpos_of_nonpos hs ht
theorem cmp_lt {x y : Int} (h : x < y) : compare x y = .lt := by
  show compareOfLessAndEq x y = .lt
  unfold compareOfLessAndEq; rw [if_pos h]
theorem cmp_gt {x y : Int} (h : y < x) : compare x y = .gt := by
  show compareOfLessAndEq x y = .gt
  unfold compareOfLessAndEq; rw [if_neg (by omega), if_neg (by omega)]
theorem cmp_eq (x : Int) : compare x x = .eq := by
  show compareOfLessAndEq x x = .eq
  unfold compareOfLessAndEq; rw [if_neg (by omega), if_pos rfl]
theorem order_wh {a b : Nat} {x y : Int} (ha : Wh a x) (hb : Wh b y) : double.order a b = some (compare x y) := by
  obtain ⟨s, m, i, ea, hi, hm, hs⟩ := ha
  obtain ⟨t, n, j, eb, hj, hn, ht⟩ := hb
  unfold Format.order
  rw [ea, eb]
  unfold Datum.order
  simp only
  rw [signed_dz hi hm hs (base := min i j) (by omega), signed_dz hj hn ht (base := min i j) (by omega)]
  have hp : (0 : Int) < 2 ^ (-min i j).toNat := Int.pow_pos (by decide)
  congr 1
  rcases Int.lt_trichotomy x y with h | h | h
  · rw [cmp_lt h, cmp_lt (Int.mul_lt_mul_of_pos_right h hp)]
  · rw [h, cmp_eq, cmp_eq]
  · rw [cmp_gt h, cmp_gt (Int.mul_lt_mul_of_pos_right h hp)]
theorem toInt_wh {a : Nat} {x : Int} (ha : Wh a x) : (double.read a).toInt .zero = some x := by
  obtain ⟨s, m, i, ea, hi, hm, hs⟩ := ha
  rw [ea]
  unfold Datum.toInt Datum.integral
  simp only
  have h1 : m <<< i.toNat = m := by rw [show i.toNat = 0 by omega]; rfl
  have h2 : Toward.zero.cut s m (-i).toNat = x.natAbs := by
    rw [hm]
    unfold Toward.cut
    simp only [Bool.toNat_false, Nat.add_zero]
    by_cases hq : x.natAbs = 0
    · rw [hq]; simp
    · have hk : (-i).toNat ≤ (x.natAbs * 2 ^ (-i).toNat).log2 := by
        rw [Nat.le_log2 (by have := Nat.two_pow_pos (-i).toNat; exact Nat.mul_ne_zero hq (by omega))]
        exact Nat.le_mul_of_pos_left _ (by omega)
      rw [Nat.min_eq_left (by omega), Nat.shiftLeft_eq, Nat.one_mul]
      exact Nat.mul_div_cancel _ (Nat.two_pow_pos _)
  rw [h1, h2]
  congr 1
  have := signed_dz (s := s) (m := x.natAbs) (e := 0) (base := 0) (n := x) (by decide) (by simp) hs (by decide)
  simpa using this
theorem wh_inj {a : Nat} {x y : Int} (h : Wh a x) (k : Wh a y) : x = y := by
  have h1 := toInt_wh h
  rw [toInt_wh k] at h1
  cases h1; rfl
theorem cplx_mul {a b c d : Nat} {x y z t : Int} (ha : Wh a x) (hb : Wh b y) (hc : Wh c z) (hd : Wh d t) (h1 : (x * z).natAbs < 2 ^ 52) (h2 : (y * t).natAbs < 2 ^ 52) (h3 : (x * t).natAbs < 2 ^ 52) (h4 : (y * z).natAbs < 2 ^ 52) :
    ∃ r i, cplxBin .mul .f64 a b c d = .ok (.cplx .f64 r i) ∧ Wh r (x * z - y * t) ∧ Wh i (x * t + y * z) := by
  obtain ⟨p1, e1, w1⟩ := mul_wh ha hc (by omega)
  obtain ⟨p2, e2, w2⟩ := mul_wh hb hd (by omega)
  obtain ⟨p3, e3, w3⟩ := sub_wh w1 w2 (by omega)
  obtain ⟨p4, e4, w4⟩ := mul_wh ha hd (by omega)
  obtain ⟨p5, e5, w5⟩ := mul_wh hb hc (by omega)
  obtain ⟨p6, e6, w6⟩ := add_wh w4 w5 (by omega)
  refine ⟨p3, p6, ?_, w3, w6⟩
  unfold cplxBin
  simp only [show FloatKind.f64.format = Ieee.double from rfl, e1, e2, e3, e4, e5, e6, ofOpt, Res.ok_bind]
theorem cplx_add {a b c d : Nat} {x y z t : Int} (ha : Wh a x) (hb : Wh b y) (hc : Wh c z) (hd : Wh d t) (h1 : (x + z).natAbs < 2 ^ 53) (h2 : (y + t).natAbs < 2 ^ 53) :
    ∃ r i, cplxBin .add .f64 a b c d = .ok (.cplx .f64 r i) ∧ Wh r (x + z) ∧ Wh i (y + t) := by
  obtain ⟨p1, e1, w1⟩ := add_wh ha hc h1
  obtain ⟨p2, e2, w2⟩ := add_wh hb hd h2
  refine ⟨p1, p2, ?_, w1, w2⟩
  unfold cplxBin
  simp only [show FloatKind.f64.format = Ieee.double from rfl, e1, e2, ofOpt, Res.ok_bind]
end Go.Proofs.YtofnbldbggddmaaGreatDoor
set_option linter.all false
namespace Go.Proofs.YtofnbldbggddmaaGreatDoor
open Go Go.RowKit Go.Proofs

/-- as SureC, with a guard on the world at the entry -/
structure SureG (c : Cfg) (G : World → Prop) : Prop where
  eqs : ∀ t, c.eqOk t = true → c.P.stoodInHeld t = false ∧ c.P.eqGuardType c.P.depth t = false
  code : ∀ f fn code, (c.ann f).ok = true → c.P.funcs[f]? = some fn → fn.body = some code → codeOk c.P (c.ann f).locals code = true ∧ (fn.name == "runtime.NumGoroutine") = false
  prim : ∀ (F : Fix), F.c.P = c.P → F.Ok → G F.w0 → ∀ f g, c.prim f = some g → ∀ args h v h', g args h = .ok (v, h') → h.next ≤ h'.next ∧
    ∀ ι w (av : Array Value), Rel F ι h w → VRels ι F.ρ args av.toList → Fresh ι h.next h'.next → CallTo F.c.P f av w (Out F ι h w v h')
  mixed : c.P.follows .mixedOrders = true

theorem SureG.sure {c : Cfg} {G : World → Prop} (s : SureG c G) {W : World} (hG : G W) : Sure (fixW c W) :=
  ⟨fixW_ok s.eqs, s.code, s.prim (fixW c W) rfl (fixW_ok s.eqs) hG, draw_sound (fixW_ok s.eqs) s.mixed⟩

/-- a call from outside -/
theorem entryG {c : Cfg} {G : World → Prop} (s : SureG c G) {W : World} (hG : G W) {k f : Nat} {fn : Func} {code : Code} {args : Array Value} {v : AVal} {h' : AHeap} (hf : c.P.funcs[f]? = some fn) (hb : fn.body = some code) (hname : (fn.name == "runtime.NumGoroutine") = false)
    (hq : callF { c with ro := roW W } k f (args.toList.map absV) heap0 = .ok (v, h')) :
    Calls c.P f args W fun e w' => ∃ u ι, e = .returned u ∧ VRel ι rhoW v u ∧ Below W.heap.size W w' := by
  obtain ⟨_, _, hC⟩ := sound (s.sure hG) k
  obtain ⟨_, hc⟩ := hC f (args.toList.map absV) heap0 v h' hq
  have hrel : Rel (fixW c W) (fun _ => none) heap0 W := by
    have hno : ∀ o x, heap0.get o ≠ some x := by intro o x h; cases h
    exact ⟨Below.refl _ _, fun o x h => absurd h (hno o x), fun o o' x x' e e' h => absurd h (hno o x), fun o x h => absurd h (hno o x)⟩
  have hto := hc (fun _ => none) W args hrel (absVs_rel _) (fun _ _ _ => rfl)
  have hrun : (callFunc f args).run c.P W = .ok (.enter f args) W := by
    have hname' : ¬ fn.name = "runtime.NumGoroutine" := by simpa using hname
    simp [callFunc, hf, hname', hb]
  rcases hto with ⟨u, w', h1, _⟩ | ⟨_, h2⟩
  · have h1 : (callFunc f args).run c.P W = .ok (.value u) w' := h1
    rw [hrun] at h1; cases h1
  · refine Calls.mono h2 fun e w' he => ?_
    cases e with
    | returned u =>
      obtain ⟨ι, h3, h4, _⟩ := he
      exact ⟨u, ι, rfl, h3, h4.below⟩
    | panicked _ => exact he.elim
    | outgrown => exact he.elim

/-- what comes of a call that leaves all memory that was there -/
theorem out_below {F : Fix} {ι : Inj} {h : AHeap} {w w' : World} (r : Rel F ι h w) (hb : Below w.heap.size w w') {v : AVal} {u : Value} (hv : VRel ι F.ρ v u) : Out F ι h w v h u w' := by
  have hk : Keep (fun _ => False) w w' := ⟨hb.os, hb.tape, hb.output, hb.size, fun k hk _ => hb.block k hk⟩
  exact ⟨ι, hv, r.keep hk (fun _ h => h.elim) (fun b hb' => hb.block b (r.own_lt b hb')), ⟨Sub.refl _, fun _ => .inr (.inl rfl), Nat.le_refl _, hk.mono (fun _ _ h => h.elim), fun _ hb => .inl hb⟩⟩

end Go.Proofs.YtofnbldbggddmaaGreatDoor
set_option linter.all false
namespace Go.Proofs.YtofnbldbggddmaaGreatDoor
open Go Go.RowKit

/-- slices.overlaps, of a slice of one's own and another one -/
def ovlP : Prim := fun args h =>
  match args with
  | [.sl q x la, .slc o off lb cap] => if q = o then .err 400 else match h.get q, h.get o with
    | some (.row _ false _), some (.row _ _ us) => if us.length = 0 then .err 401 else .ok (.bool false, h)
    | _, _ => .err 402
  | _ => .err 403

theorem ovl_ok {F : Fix} {f tS tR e size : Nat} (hrun : ∀ args w, (callFunc f args).run F.c.P w = ((Extern.SlicesOverlaps.overlaps #[tS, tS] #[tR] args).run F.c.P w).andThen fun v w' => .ok (.value v) w')
    (ht : F.c.P.underlying tS = some (.slice e)) (hz : ∀ w, (Go.sizeOf e).run F.c.P w = .ok size w) :
    ∀ args h v h', ovlP args h = .ok (v, h') → h.next ≤ h'.next ∧
      ∀ ι w (av : Array Value), Rel F ι h w → VRels ι F.ρ args av.toList → Fresh ι h.next h'.next → CallTo F.c.P f av w (Out F ι h w v h') := by
  intro args h v h' hq
  unfold ovlP at hq
  split at hq
  rotate_left; · cases hq
  rename_i q x la o off lb cap
  split at hq
  · cases hq
  rename_i hne
  split at hq
  rotate_left; · cases hq
  rename_i ez vs ez' fz us hgq hgo
  split at hq
  · cases hq
  rename_i hl
  cases hq
  refine ⟨Nat.le_refl _, fun ι w av r ha fr => .inl ⟨.bool false, w, ?_, ι, rfl, r, Step.refl _ _ _⟩⟩
  obtain ⟨v1, _, hav, a1, v2, _, rfl, a2, a3⟩ := ha
  simp only [VRels] at a3
  subst a3
  have : av = #[v1, v2] := by apply Array.toList_inj.1; rw [hav]
  subst this
  obtain ⟨e1, x1, c1, i1, rfl, _⟩ := a1
  obtain ⟨e2, x2, i2, rfl, _⟩ := a2
  obtain ⟨e1', j1, _, cA, TA, fA, g1, _, _, _, g5, _⟩ := r.obj _ _ hgq
  rw [i1] at j1; cases j1
  obtain ⟨e2', j2, _, cB, TB, fB, k1, _, k3, k4, _⟩ := r.obj _ _ hgo
  rw [i2] at j2; cases j2
  have hf := g5 rfl
  subst hf
  have hb : e1.blk ≠ e2.blk := fun hh => hne (r.inj _ _ _ _ _ _ hgq hgo i1 i2 hh)
  rw [hrun, Lib.run_overlaps_apart w tS tR e ht size hz ⟨e1.blk, x1, none⟩ ⟨e2.blk, x2, none⟩ la c1 lb cap hb TA TB cA.size cB.size (by simp [World.shape?, g1]) (by simp [World.shape?, k1]) (by omega) (by simp [World.frozen?, g1]) (by simp [World.frozen?, g1])]
  rfl

def AHeap.bump (h : AHeap) (k : Nat) : AHeap := { h with next := h.next + k }
@[simp] theorem AHeap.get_bump (h : AHeap) (k o : Nat) : (h.bump k).get o = h.get o := rfl
@[simp] theorem AHeap.next_bump (h : AHeap) (k : Nat) : (h.bump k).next = h.next + k := rfl

def insRow (vs : List AVal) (i : Nat) (x : AVal) : List AVal := vs.take i ++ x :: vs.drop i

/-- slices.Insert(s, i, x) -/
def insP : Prim := fun args h =>
  match args with
  | [.nils, .int .i64 i, .sl q 0 1] => if i = 0 then match h.get q with
    | some (.row 1 false [x]) => .ok (.sl (h.next + 9) 0 1, (h.bump 9).push (.row 1 true [x]))
    | _ => .err 410
    else .err 411
  | [.sl o 0 n, .int .i64 i, .sl q 0 1] => if q = o ∨ i < 0 ∨ (n : Int) < i ∨ 2 ^ 40 ≤ n then .err 412 else match h.get o, h.get q with
    | some (.row 1 _ vs), some (.row 1 false [x]) => if n ≤ vs.length then .ok (.sl (h.next + 9) 0 (n + 1), ((h.bump 9).del o).push (.row 1 true (insRow (vs.take n) i.toNat x))) else .err 413
    | _, _ => .err 414
  | _ => .err 415

/-- what a run with a known capacity leads to -/
def InsQ (h : AHeap) (o n cap : Nat) (row : List AVal) (v : AVal) (h' : AHeap) : Prop :=
  h'.next ≤ h.next + 8 ∧ (∀ p, p < h.next → p ≠ o → h'.get p = h.get p) ∧
    ((∃ fz D, v = .slc o 0 (n + 1) cap ∧ n + 1 ≤ cap ∧ h'.get o = some (.row 1 fz (row ++ D))) ∨ ∃ p fz, h.next ≤ p ∧ v = .sl p 0 (n + 1) ∧ h'.get p = some (.row 1 fz row))

theorem SureC.sureF {c : Cfg} (s : SureC c) (F : Fix) (ok : F.Ok) (hP : F.c.P = c.P) : Sure { F with c := { c with ro := F.c.ro } } := by
  have ok' : Fix.Ok { F with c := { c with ro := F.c.ro } } := ⟨s.eqs, ok.glob, ok.ro⟩
  exact ⟨ok', s.code, fun f g hg => s.prim { F with c := { c with ro := F.c.ro } } rfl ok' f g hg, draw_sound ok' s.mixed⟩

theorem Rel.cast {F F' : Fix} {ι : Inj} {h : AHeap} {w : World} (h1 : F'.w0 = F.w0) (h2 : F'.ρ = F.ρ) (r : Rel F ι h w) : Rel F' ι h w := by
  obtain ⟨c, ρ, w0⟩ := F
  obtain ⟨c', ρ', w0'⟩ := F'
  simp only at h1 h2
  subst h1; subst h2
  exact ⟨r.below, r.obj, r.inj, r.lt⟩

theorem ObjRel.cut {ι : Inj} {ρ : RoMap} {w : World} {e : Ent} {ez : Nat} {fz : Bool} {vs D : List AVal} (hr : ObjRel ι ρ w e (.row ez fz (vs ++ D))) : ObjRel ι ρ w e (.row ez true vs) := by
  obtain ⟨c, T, fr, a1, a2, a3, a4, a5, a6, a7, a8⟩ := hr
  refine ⟨c, T, fr, a1, a2, a3, by simp at a4; omega, by simp, a6, a7, fun j a hj => a8 j a ?_⟩
  rw [List.getElem?_append_left (List.getElem?_eq_some_iff.1 hj).1]; exact hj

/-- the end of it: from the run's state to that which is told -/
theorem ins_end {F : Fix} {ι : Inj} {h h1 h1' : AHeap} {w w' : World} {o n cap : Nat} {row : List AVal} {v1 : AVal} {u : Value}
    (r : Rel F ι h w) (hown : ∀ b, Own ι h1 b → Own ι h b) (hnx : h1.next = h.next) (hfr : Fresh ι h.next (h.next + 10))
    (hsame : ∀ p, p ≠ o → h1.get p = h.get p) (hsl : ∀ a b c, v1 = .slc o a b c → ∃ e, ι o = some e ∧ e.K = cap)
    (hQ : InsQ h1 o n cap row v1 h1') (hout : Out F ι h1 w v1 h1' u w') {h' : AHeap} (hh' : ∀ p, h'.get p = if p = h.next + 9 then some (.row 1 true row) else if p = o then none else h.get p) (hn' : h'.next = h.next + 10) :
    Out F ι h w (.sl (h.next + 9) 0 (n + 1)) h' u w' := by
  obtain ⟨q1, q2, q3⟩ := hQ
  obtain ⟨ι', v2, r2, st⟩ := hout
  rw [hnx] at q1 q2 q3
  have hN : ι' (h.next + 9) = none := by
    rcases st.dom (h.next + 9) with h0 | h0 | ⟨_, h0⟩
    · exact h0
    · rw [← h0]; exact hfr _ (by omega) (by omega)
    · omega
  -- where the result lies
  obtain ⟨p, e, p1, p2, p3, p4, p5, p6⟩ : ∃ p e, (∃ y, h1'.get p = some y) ∧ ι' p = some e ∧ (p = o ∨ h.next ≤ p) ∧ F.N ≤ e.blk ∧ ObjRel ι' F.ρ w' e (.row 1 true row) ∧
      VRel (upd ι' (h.next + 9) e) F.ρ (.sl (h.next + 9) 0 (n + 1)) u := by
    rcases q3 with ⟨fz, D, rfl, hc, q4⟩ | ⟨p, fz, hp, rfl, q4⟩
    · obtain ⟨e, i1, i2, i3⟩ := r2.obj _ _ q4
      obtain ⟨e', x, j1, rfl, j3, j4⟩ := v2
      rw [i1] at j1; cases j1
      obtain ⟨e0, k1, k2⟩ := hsl _ _ _ rfl
      have := st.sub _ _ k1
      rw [i1] at this; cases this
      refine ⟨o, e, ⟨_, q4⟩, i1, .inl rfl, i2, i3.cut, ⟨e, x, cap, upd_self _ _ _, rfl, ?_, j3, by simpa using j4⟩⟩
      obtain ⟨_, _, _, _, g2, _⟩ := i3
      rw [g2, Nat.mul_one, Nat.add_zero]; exact k2.symm
    · obtain ⟨e, i1, i2, i3⟩ := r2.obj _ _ q4
      obtain ⟨e', x, cap', j1, rfl, j2, j3, j4⟩ := v2
      rw [i1] at j1; cases j1
      exact ⟨p, e, ⟨_, q4⟩, i1, .inr hp, i2, ObjRel.cut (D := []) (by rw [List.append_nil]; exact i3), ⟨e, x, cap', upd_self _ _ _, rfl, j2, j3, j4⟩⟩
  obtain ⟨y, p1⟩ := p1
  have hs := upd_sub e hN
  -- the objects
  have hobj : ∀ k z, h'.get k = some z → (k = h.next + 9 ∧ z = .row 1 true row) ∨ (k ≠ h.next + 9 ∧ k ≠ o ∧ k < h.next ∧ h.get k = some z ∧ h1'.get k = some z) := by
    intro k z hk
    rw [hh'] at hk
    split at hk
    · rename_i hk'; cases hk; exact .inl ⟨hk', rfl⟩
    · split at hk
      · cases hk
      · rename_i hk1 hk2
        have hlt := r.lt _ _ hk
        exact .inr ⟨hk1, hk2, hlt, hk, by rw [q2 k hlt hk2, hsame k hk2]; exact hk⟩
  refine ⟨upd ι' (h.next + 9) e, p6, ⟨r2.below, ?_, ?_, ?_⟩, ⟨st.sub.trans hs, ?_, by omega, ?_, ?_⟩⟩
  · intro k z hk
    rcases hobj k z hk with ⟨rfl, rfl⟩ | ⟨k1, k2, k3, k4, k5⟩
    · exact ⟨e, upd_self _ _ _, p4, p5.mono hs rfl⟩
    · obtain ⟨f, f1, f2, f3⟩ := r2.obj _ _ k5
      exact ⟨f, hs _ _ f1, f2, f3.mono hs rfl⟩
  · intro k k' z z' f f' hk hk' hf hf' hb
    rcases hobj k z hk with ⟨rfl, rfl⟩ | ⟨k1, k2, k3, k4, k5⟩ <;> rcases hobj k' z' hk' with ⟨h6, h7⟩ | ⟨j1, j2, j3, j4, j5⟩
    · exact h6.symm
    · exfalso
      rw [upd_self] at hf; cases hf
      obtain ⟨g, g1, _, _⟩ := r2.obj _ _ j5
      have := hs _ _ g1; rw [hf'] at this; cases this
      have := r2.inj _ _ _ _ _ _ p1 j5 p2 g1 hb
      rcases p3 with p3 | p3
      · exact j2 (by rw [← this, p3])
      · omega
    · exfalso
      subst h6
      rw [upd_self] at hf'; cases hf'
      obtain ⟨g, g1, _, _⟩ := r2.obj _ _ k5
      have := hs _ _ g1; rw [hf] at this; cases this
      have := r2.inj _ _ _ _ _ _ p1 k5 p2 g1 hb.symm
      rcases p3 with p3 | p3
      · exact k2 (by rw [← this, p3])
      · omega
    · obtain ⟨g, g1, _, _⟩ := r2.obj _ _ k5
      have e1 := hs _ _ g1; rw [hf] at e1; cases e1
      obtain ⟨g', g1', _, _⟩ := r2.obj _ _ j5
      have e2 := hs _ _ g1'; rw [hf'] at e2; cases e2
      exact r2.inj _ _ _ _ _ _ k5 j5 g1 g1' hb
  · intro k z hk
    rcases hobj k z hk with ⟨rfl, rfl⟩ | ⟨k1, k2, k3, k4, k5⟩
    · omega
    · omega
  · intro k
    by_cases hk : k = h.next + 9
    · subst hk; right; right; omega
    · unfold upd
      rw [if_neg hk]
      rcases st.dom k with h0 | h0 | ⟨h0, h2⟩
      · exact .inl h0
      · exact .inr (.inl h0)
      · exact .inr (.inr ⟨by omega, by omega⟩)
  · exact st.keep.mono fun j _ hj => hown j hj
  · rintro b ⟨k, z, f, hk, hf, rfl⟩
    have key : Own ι' h1' f.blk := by
      rcases hobj k z hk with ⟨rfl, rfl⟩ | ⟨k1, k2, k3, k4, k5⟩
      · rw [upd_self] at hf; cases hf; exact ⟨p, y, e, p1, p2, rfl⟩
      · obtain ⟨g, g1, _, _⟩ := r2.obj _ _ k5
        have e1 := hs _ _ g1; rw [hf] at e1; cases e1
        exact ⟨k, z, f, k5, g1, rfl⟩
    exact (st.own _ key).imp (hown _) id

/-- the primitive is sound -/
theorem ins_ok {cI : Cfg} (S : SureC cI) (F : Fix) (hP : F.c.P = cI.P) (ok : F.Ok) (f : Nat)
    (run : ∀ (h : AHeap) (o q n cap i : Nat) (vs D : List AVal) (x : AVal) (fz : Bool), h.get o = some (.row 1 fz (vs ++ D)) → vs.length = n → n + D.length = cap → h.get q = some (.row 1 false [x]) → q ≠ o → o < h.next → q < h.next → i ≤ n → n < 2 ^ 40 →
      Ev { cI with ro := F.c.ro } f [.slc o 0 n cap, .int .i64 i, .sl q 0 1] h (InsQ h o n cap (insRow vs i x)))
    (run0 : ∀ (h : AHeap) (q : Nat) (x : AVal), h.get q = some (.row 1 false [x]) → q < h.next →
      Ev { cI with ro := F.c.ro } f [.nils, .int .i64 0, .sl q 0 1] h (InsQ h (h.next + 8) 0 0 [x])) :
    ∀ args h v h', insP args h = .ok (v, h') → h.next ≤ h'.next ∧
      ∀ ι w (av : Array Value), Rel F ι h w → VRels ι F.ρ args av.toList → Fresh ι h.next h'.next → CallTo F.c.P f av w (Out F ι h w v h') := by
  intro args h v h' hq
  unfold insP at hq
  split at hq
  · rename_i i q
    split at hq
    rotate_left; · cases hq
    rename_i hi; subst hi
    split at hq
    rotate_left; · cases hq
    rename_i x hgq
    cases hq
    refine ⟨by simp; omega, fun ι w av r ha fr => ?_⟩
    obtain ⟨k, v1, h1', e1, e2⟩ := run0 h q x hgq (r.lt _ _ hgq)
    obtain ⟨_, _, hC⟩ := sound (S.sureF F ok hP) k
    obtain ⟨n1, hc⟩ := hC _ _ _ _ _ e1
    have fr' : Fresh ι h.next (h.next + 10) := fr
    have hto := hc ι w av (Rel.cast (F := F) rfl rfl r) ha (fr'.left (by have := e2.1; omega))
    have conv : ∀ u w', Out { F with c := { cI with ro := F.c.ro } } ι h w v1 h1' u w' → Out F ι h w (.sl (h.next + 9) 0 1) ((h.bump 9).push (.row 1 true [x])) u w' := by
      intro u w' ⟨ι', o1, o2, o3⟩
      refine ins_end (n := 0) (o := h.next + 8) (cap := 0) r (fun b hb => hb) rfl fr' (fun _ _ => rfl) (fun a b c hv => ?_) e2 ⟨ι', o1, Rel.cast (F := { F with c := { cI with ro := F.c.ro } }) (F' := F) rfl rfl o2, o3⟩ (fun p => ?_) rfl
      · exfalso
        rcases e2.2.2 with ⟨fz, D, _, hc0, _⟩ | ⟨p, fz, _, hv2, _⟩
        · omega
        · rw [hv2] at hv; cases hv
      · rw [AHeap.get_push]
        show (if p = h.next + 9 then some (AObj.row 1 true [x]) else h.get p) = _
        by_cases h9 : p = h.next + 9
        · rw [if_pos h9, if_pos h9]
        · rw [if_neg h9, if_neg h9]
          by_cases h8 : p = h.next + 8
          · rw [if_pos h8, h8]
            cases hg : h.get (h.next + 8) with
            | none => rfl
            | some z => have := r.lt _ _ hg; omega
          · rw [if_neg h8]
    rcases hto with ⟨u, w', c1, c2⟩ | ⟨c1, c2⟩
    · exact .inl ⟨u, w', by rw [hP]; exact c1, conv _ _ c2⟩
    · refine .inr ⟨by rw [hP]; exact c1, ?_⟩
      rw [hP]
      refine Calls.mono c2 fun e w' he => ?_
      cases e with
      | returned u => exact conv _ _ he
      | panicked _ => exact he.elim
      | outgrown => exact he.elim
  · rename_i o n i q
    split at hq
    · cases hq
    rename_i hcond
    obtain ⟨c1, c2, c3, c4⟩ : q ≠ o ∧ 0 ≤ i ∧ i ≤ n ∧ n < 2 ^ 40 := ⟨fun e => hcond (.inl e), by omega, by omega, by omega⟩
    obtain ⟨j, rfl⟩ : ∃ j : Nat, i = j := ⟨i.toNat, by omega⟩
    split at hq
    rotate_left; · cases hq
    rename_i fz vs x hgo hgq
    split at hq
    rotate_left; · cases hq
    rename_i hlen
    cases hq
    refine ⟨by simp; omega, fun ι w av r ha fr => ?_⟩
    obtain ⟨v1, _, hav, a1, v2, _, rfl, a2, v3, _, rfl, a3, a4⟩ := ha
    simp only [VRels] at a4; subst a4
    obtain ⟨en, xo, cap, hen, rfl, hcap, hlc, hxo⟩ := a1
    obtain ⟨en', g1, gN, g⟩ := r.obj _ _ hgo
    rw [hen] at g1; cases g1
    have hez : en.esz = 1 := by obtain ⟨_, _, _, _, g2, _⟩ := g; exact g2
    have hK : en.K = cap := by rw [hez] at hcap; omega
    have hvl : vs.length ≤ cap := by obtain ⟨_, _, _, _, _, _, g4, _⟩ := g; rw [← hK]; exact g4
    have hfill := g.fill
    rw [hK, ← List.take_append_drop n vs, List.append_assoc, List.take_append_drop] at hfill
    obtain ⟨D, hD⟩ : ∃ D, D = vs.drop n ++ List.replicate (cap - vs.length) AVal.dead := ⟨_, rfl⟩
    rw [← hD] at hfill
    have hDl : n + D.length = cap := by rw [hD]; simp; omega
    have htl : (vs.take n).length = n := by simp; omega
    obtain ⟨r1, st1⟩ := r.set (.row 1 fz (vs.take n ++ D)) hgo hen (Keep.refl _ w) hfill
    obtain ⟨h1, hh1⟩ : ∃ h1, h1 = h.set o (.row 1 fz (vs.take n ++ D)) := ⟨_, rfl⟩
    rw [← hh1] at r1 st1
    have hn1 : h1.next = h.next := by rw [hh1]; rfl
    have hg1o : h1.get o = some (.row 1 fz (vs.take n ++ D)) := by rw [hh1, AHeap.get_set, if_pos rfl]
    have hg1 : ∀ p, p ≠ o → h1.get p = h.get p := fun p hp => by rw [hh1, AHeap.get_set, if_neg hp]
    have hg1q := hg1 q c1
    rw [hgq] at hg1q
    obtain ⟨k, v1, h1', e1, e2⟩ := run h1 o q n cap j (vs.take n) D x fz hg1o htl hDl hg1q c1 (by rw [hn1]; exact r.lt _ _ hgo) (by rw [hn1]; exact r.lt _ _ hgq) (by omega) c4
    obtain ⟨_, _, hC⟩ := sound (S.sureF F ok hP) k
    obtain ⟨n1, hc⟩ := hC _ _ _ _ _ e1
    have fr' : Fresh ι h.next (h.next + 10) := fr
    have hown : ∀ b, Own ι h1 b → Own ι h b := by
      rintro b ⟨p, z, e, p1, p2, rfl⟩
      by_cases hp : p = o
      · subst hp; exact ⟨p, _, e, hgo, p2, rfl⟩
      · rw [hg1 p hp] at p1; exact ⟨p, z, e, p1, p2, rfl⟩
    have hto := hc ι w av (Rel.cast (F := F) rfl rfl r1) (by rw [hav]; exact ⟨_, _, rfl, ⟨en, xo, hen, rfl, hlc, by simpa using hxo⟩, _, _, rfl, a2, _, _, rfl, a3, rfl⟩) (by rw [hn1]; exact fr'.left (by have := e2.1; omega))
    have conv : ∀ u w', Out { F with c := { cI with ro := F.c.ro } } ι h1 w v1 h1' u w' → Out F ι h w (.sl (h.next + 9) 0 (n + 1)) (((h.bump 9).del o).push (.row 1 true (insRow (vs.take n) j x))) u w' := by
      intro u w' ⟨ι', o1, o2, o3⟩
      refine ins_end (o := o) (cap := cap) r hown hn1 fr' hg1 (fun a b c _ => ⟨en, hen, hK⟩) e2 ⟨ι', o1, Rel.cast (F := { F with c := { cI with ro := F.c.ro } }) (F' := F) rfl rfl o2, o3⟩ (fun p => ?_) rfl
      rw [AHeap.get_push]
      show (if p = h.next + 9 then some (AObj.row 1 true (insRow (vs.take n) j x)) else ((h.bump 9).del o).get p) = _
      rw [AHeap.get_del]
      rfl
    rw [Int.toNat_natCast]
    rcases hto with ⟨u, w', c1, c2⟩ | ⟨c1, c2⟩
    · exact .inl ⟨u, w', by rw [hP]; exact c1, conv _ _ c2⟩
    · refine .inr ⟨by rw [hP]; exact c1, ?_⟩
      rw [hP]
      refine Calls.mono c2 fun e w' he => ?_
      cases e with
      | returned u => exact conv _ _ he
      | panicked _ => exact he.elim
      | outgrown => exact he.elim
  · cases hq

/-- a call of a primitive -/
theorem Ev.prim {c : Cfg} {f : Nat} {args : List AVal} {h h' : AHeap} {Q : AVal → AHeap → Prop} {g : Prim} {v : AVal} (hp : c.prim f = some g) (hg : g args h = .ok (v, h')) (hq : Q v h') : Ev c f args h Q :=
  ⟨1, v, h', by unfold callF; rw [hp]; exact hg, hq⟩
end Go.Proofs.YtofnbldbggddmaaGreatDoor
set_option linter.all false
namespace Go.Proofs.YtofnbldbggddmaaGreatDoor
open Go Go.RowKit
abbrev Tab := Nat → List AVal → AHeap → Option (AVal × AHeap)
mutual
def execM (c : Cfg) (tb : Tab) : Nat → Nat → Code → List AVal → AHeap → Res (AExit × List AVal × AHeap)
  | 0, _, _, _, _ => .err 300
  | k + 1, f, code, env, h =>
    match code with
    | .skip | .label _ => .ok (.normal, env, h)
    | .seq a b => (execM c tb k f a env h).bind fun r => match r.1 with
      | .normal => execM c tb k f b r.2.1 r.2.2
      | e => .ok (e, r.2.1, r.2.2)
    | .cond x a b => (opnd (c.ann f).locals env x).bind fun v => match v with
      | .bool t => match t with
        | true => execM c tb k f a env h
        | false => execM c tb k f b env h
      | _ => .err 301
    | .block id a => (execM c tb k f a env h).bind fun r => match r.1 with
      | .exit id' => if id' = id then .ok (.normal, r.2.1, r.2.2) else .ok (.exit id', r.2.1, r.2.2)
      | e => .ok (e, r.2.1, r.2.2)
    | .loop a => (execM c tb k f a env h).bind fun r => match r.1 with
      | .normal => execM c tb k f (.loop a) r.2.1 r.2.2
      | e => .ok (e, r.2.1, r.2.2)
    | .scope a => scopeM c tb k f a a env h
    | .region id ops draw => regionK (ansR (callM c tb k) (AExit × List AVal × AHeap)) c (c.ann f) id ops draw env h fun env h => .ok (.normal, env, h)
    | .exit id => .ok (.exit id, env, h)
    | .goto l => .ok (.goto l, env, h)
    | .ret => .ok (.ret, env, h)
    | _ => .err 302
def scopeM (c : Cfg) (tb : Tab) : Nat → Nat → Code → Code → List AVal → AHeap → Res (AExit × List AVal × AHeap)
  | 0, _, _, _, _, _ => .err 303
  | k + 1, f, body, cur, env, h => (execM c tb k f cur env h).bind fun r => match r.1 with
    | .goto l => match findLabel body l with
      | some rest => scopeM c tb k f body rest r.2.1 r.2.2
      | none => .ok (.goto l, r.2.1, r.2.2)
    | e => .ok (e, r.2.1, r.2.2)
def callM (c : Cfg) (tb : Tab) : Nat → Nat → List AVal → AHeap → Res (AVal × AHeap)
  | 0, _, _, _ => .err 304
  | k + 1, f, args, h =>
    match tb f args h with
    | some r => .ok r
    | none =>
    match c.prim f with
    | some g => g args h
    | none => match (c.ann f).ok, c.P.funcs[f]? with
      | true, some fn => match fn.body with
        | some code => (execM c tb k f code (args ++ List.replicate (fn.ntmps - args.length) .dead) h).bind fun r => match r.1 with
          | .normal | .ret => (resultsR c (c.ann f).locals r.2.1 r.2.2 fn.results.toList).bind fun vs => .ok (packR vs, r.2.2)
          | _ => .err 305
        | none => .err 306
      | _, _ => .err 307
end
theorem callF_le {c : Cfg} {k k' : Nat} (h : k ≤ k') : CLe (callF c k) (callF c k') := by
  induction h with
  | refl => exact fun _ _ _ _ h => h
  | step _ ih => exact fun f a h r q => (mono c _).2.2 f a h r (ih f a h r q)
theorem memo (c : Cfg) (tb : Tab) (K : Nat) (ht : ∀ f args h r, tb f args h = some r → callF c K f args h = .ok r) : ∀ k, (∀ f code env h r, execM c tb k f code env h = .ok r → exec c (k + K) f code env h = .ok r) ∧
    (∀ f body cur env h r, scopeM c tb k f body cur env h = .ok r → scopeE c (k + K) f body cur env h = .ok r) ∧ CLe (callM c tb k) (callF c (k + K)) := by
  intro k
  induction k with
  | zero =>
    refine ⟨fun f code env h r hq => ?_, fun f body cur env h r hq => ?_, fun f args h r hq => ?_⟩
    · unfold execM at hq; cases hq
    · unfold scopeM at hq; cases hq
    · unfold callM at hq; cases hq
  | succ k ih =>
    obtain ⟨ihE, ihS, ihC⟩ := ih
    rw [show k + 1 + K = (k + K) + 1 by omega]
    refine ⟨fun f code env h r hq => ?_, fun f body cur env h r hq => ?_, fun f args h r hq => ?_⟩
    · unfold execM at hq
      unfold exec
      cases code with
      | seq a b =>
        simp only at hq ⊢
        obtain ⟨r1, h1, hq⟩ := Res.bind_ok hq
        rw [ihE _ _ _ _ _ h1, Res.ok_bind]
        cases he : r1.1 with
        | normal => rw [he] at hq; exact ihE _ _ _ _ _ hq
        | _ => rw [he] at hq; exact hq
      | cond x a b =>
        simp only at hq ⊢
        obtain ⟨v, h1, hq⟩ := Res.bind_ok hq
        rw [h1, Res.ok_bind]
        split at hq
        · split at hq
          · exact ihE _ _ _ _ _ hq
          · exact ihE _ _ _ _ _ hq
        · cases hq
      | block id a =>
        simp only at hq ⊢
        obtain ⟨r1, h1, hq⟩ := Res.bind_ok hq
        rw [ihE _ _ _ _ _ h1, Res.ok_bind]; exact hq
      | loop a =>
        simp only at hq ⊢
        obtain ⟨r1, h1, hq⟩ := Res.bind_ok hq
        rw [ihE _ _ _ _ _ h1, Res.ok_bind]
        cases he : r1.1 with
        | normal => rw [he] at hq; exact ihE _ _ _ _ _ hq
        | _ => rw [he] at hq; exact hq
      | scope a => exact ihS _ _ _ _ _ _ hq
      | region id ops draw => exact regionK_mono ihC hq
      | _ => exact hq
    · unfold scopeM at hq
      unfold scopeE
      obtain ⟨r1, h1, hq⟩ := Res.bind_ok hq
      rw [ihE _ _ _ _ _ h1, Res.ok_bind]
      cases he : r1.1 with
      | goto l =>
        rw [he] at hq
        simp only at hq ⊢
        split at hq
        · rename_i hl; rw [hl]; exact ihS _ _ _ _ _ _ hq
        · rename_i hl; rw [hl]; exact hq
      | _ => rw [he] at hq; exact hq
    · unfold callM at hq
      split at hq
      · rename_i r' hr
        cases hq
        exact callF_le (by omega) _ _ _ _ (ht _ _ _ _ hr)
      · unfold callF
        split at hq
        · rename_i hp; rw [hp]; exact hq
        · rename_i hp
          rw [hp]
          simp only
          split at hq
          · rename_i h2 h3
            rw [h2, h3]
            simp only
            split at hq
            · rename_i hb
              rw [hb]
              simp only
              obtain ⟨r1, h1, hq⟩ := Res.bind_ok hq
              rw [ihE _ _ _ _ _ h1, Res.ok_bind]; exact hq
            · cases hq
          · cases hq
mutual
def AObj.beq : AObj → AObj → Bool
  | .row a b vs, .row a' b' vs' => a == a' && (b == b' && AVal.beqs vs vs')
  | .map es, .map es' => AVal.beqs (es.map (·.1)) (es'.map (·.1)) && AVal.beqs (es.map (·.2)) (es'.map (·.2))
  | .bld T q, .bld T' q' => T == T' && q == q'
  | .buf T b, .buf T' b' => T == T' && b == b'
  | _, _ => false
end
theorem pair_ext : ∀ {a b : List (AVal × AVal)}, a.map (·.1) = b.map (·.1) → a.map (·.2) = b.map (·.2) → a = b
  | [], [], _, _ => rfl
  | [], _ :: _, h, _ => by cases h
  | _ :: _, [], h, _ => by cases h
  | (x, y) :: a, (z, w) :: b, h, k => by
    simp only [List.map_cons, List.cons.injEq] at h k
    obtain ⟨rfl, h⟩ := h
    obtain ⟨rfl, k⟩ := k
    rw [pair_ext h k]
theorem AObj.beq_eq {x y : AObj} (h : AObj.beq x y = true) : x = y := by
  cases x <;> cases y <;> simp [AObj.beq] at h
  · obtain ⟨rfl, rfl, h⟩ := h; rw [AVal.beqs_eq _ _ h]
  · rw [pair_ext (AVal.beqs_eq _ _ h.1) (AVal.beqs_eq _ _ h.2)]
  · obtain ⟨rfl, rfl⟩ := h; rfl
  · obtain ⟨rfl, rfl⟩ := h; rfl
def oBeq : Option AObj → Option AObj → Bool
  | none, none => true
  | some x, some y => AObj.beq x y
  | _, _ => false
def tBeq : Tr AObj → Tr AObj → Bool
  | .nil, .nil => true
  | .node v l r, .node v' l' r' => oBeq v v' && (tBeq l l' && tBeq r r')
  | _, _ => false
theorem oBeq_eq {x y : Option AObj} (h : oBeq x y = true) : x = y := by
  cases x <;> cases y <;> simp [oBeq] at h ⊢
  exact AObj.beq_eq h
theorem tBeq_eq : ∀ {x y : Tr AObj}, tBeq x y = true → x = y
  | .nil, .nil, _ => rfl
  | .nil, .node _ _ _, h => by simp [tBeq] at h
  | .node _ _ _, .nil, h => by simp [tBeq] at h
  | .node v l r, .node v' l' r', h => by
    simp [tBeq] at h
    rw [oBeq_eq h.1, tBeq_eq h.2.1, tBeq_eq h.2.2]
/-- a table of known calls -/
structure Known where
  f : Nat
  args : List AVal
  h : AHeap
  v : AVal
  h' : AHeap
def tabOf : List Known → Tab
  | [], _, _, _ => none
  | e :: l, f, args, h => match Nat.beq e.f f with
    | true => match AVal.beqs e.args args && (Nat.beq e.h.next h.next && tBeq e.h.objs h.objs) with
      | true => some (e.v, e.h')
      | false => tabOf l f args h
    | false => tabOf l f args h
theorem tabOf_ok {c : Cfg} {K : Nat} : ∀ {l : List Known}, (∀ e ∈ l, callF c K e.f e.args e.h = .ok (e.v, e.h')) → ∀ f args h r, tabOf l f args h = some r → callF c K f args h = .ok r
  | [], _, _, _, _, _, hq => by simp [tabOf] at hq
  | e :: l, hl, f, args, h, r, hq => by
    have ih := tabOf_ok (l := l) (fun x hx => hl x (by simp [hx])) f args h r
    unfold tabOf at hq
    split at hq
    · rename_i h1
      split at hq
      · rename_i h2
        simp only [Bool.and_eq_true] at h2
        have e1 := Nat.eq_of_beq_eq_true h1
        have e2 := AVal.beqs_eq _ _ h2.1
        have e3 := Nat.eq_of_beq_eq_true h2.2.1
        have e4 := tBeq_eq h2.2.2
        have e5 : e.h = h := by
          obtain ⟨o, n⟩ := h
          cases e with
          | mk ef ea eh ev eh' => cases eh; simp at e3 e4; simp [e3, e4]
        cases hq
        rw [← e1, ← e2, ← e5]
        exact hl e (by simp)
      · exact ih hq
    · exact ih hq
/-- what is reckoned with a table is so -/
theorem memo_ok {c : Cfg} {K k f : Nat} {l : List Known} {args : List AVal} {h h' : AHeap} {v : AVal} (hl : ∀ e ∈ l, callF c K e.f e.args e.h = .ok (e.v, e.h')) (hq : callM c (tabOf l) k f args h = .ok (v, h')) : callF c (k + K) f args h = .ok (v, h') :=
  (memo c (tabOf l) K (tabOf_ok hl) k).2.2 _ _ _ _ hq
end Go.Proofs.YtofnbldbggddmaaGreatDoor
set_option linter.all false
set_option maxRecDepth 100000
namespace Go.Proofs.YtofnbldbggddmaaGreatDoor
open Go Go.RowKit Go.Proofs
/-- numbers of a row of bytes -/
def u8s : List AVal → Option (List Int)
  | [] => some []
  | .int .u8 n :: l => match u8s l with
    | some xs => some (n :: xs)
    | none => none
  | _ :: _ => none
theorem u8s_get : ∀ {l : List AVal} {xs : List Int}, u8s l = some xs → l.length = xs.length ∧ ∀ i, i < xs.length → l[i]? = some (.int .u8 (xs.getD i 0))
  | [], xs, h => by simp [u8s] at h; subst h; simp
  | a :: l, xs, h => by
    cases a with
    | int k n =>
      cases k with
      | u8 =>
        simp only [u8s] at h
        split at h
        · rename_i ys hy
          cases h
          obtain ⟨h1, h2⟩ := u8s_get hy
          refine ⟨by simp [h1], fun i hi => ?_⟩
          cases i with
          | zero => simp
          | succ i => simpa using h2 i (by simpa using hi)
        · cases h
      | _ => simp [u8s] at h
    | _ => simp [u8s] at h
def cntP : Prim := fun a h => match a with
  | [.str s, .int .u8 c] => .ok (.int .i64 (Lib.countByte s c.toNat.toUInt8 : Nat), h)
  | _ => .err 901
def ixsP : Prim := fun a h => match a with
  | [.str s, .int .u8 c] => .ok (.int .i64 (Lib.indexByte s c.toNat.toUInt8), h)
  | _ => .err 902
def ixbP : Prim := fun a h => match a with
  | [.sl o f n, .int .u8 c] => match h.get o with
    | some (.row 1 _ vs) => if f + n ≤ vs.length then match u8s ((vs.drop f).take n) with
        | some xs => .ok (.int .i64 (Lib.indexByte (Lib.bytesOf xs) c.toNat.toUInt8), h)
        | none => .err 903
      else .err 904
    | _ => .err 905
  | _ => .err 906
theorem cntP_sound (F : Fix) (hP : F.c.P = Tryz.prog) (ok : F.Ok) : ∀ args h v h', cntP args h = .ok (v, h') → h.next ≤ h'.next ∧
    ∀ ι w (av : Array Value), Rel F ι h w → VRels ι F.ρ args av.toList → Fresh ι h.next h'.next → CallTo F.c.P 63 av w (Out F ι h w v h') := by
  intro args h v h' hq
  unfold cntP at hq
  split at hq
  rotate_left; · cases hq
  rename_i s c
  cases hq
  refine ⟨Nat.le_refl _, fun ι w av r ha fr => .inl ⟨_, w, ?_, ι, rfl, r, Step.refl _ _ _⟩⟩
  obtain ⟨v1, _, hav, a1, v2, _, rfl, a2, a3⟩ := ha
  simp only [VRels] at a3
  subst a3
  simp only [VRel] at a1 a2
  subst a1 a2
  have : av = #[.string ⟨s.toArray⟩, .int .u8 c] := by apply Array.toList_inj.1; rw [hav]
  subst this
  rw [hP, run_callFunc_extern Tryz.func63 (by kernel_rfl) (by kernel_rfl) (by kernel_rfl) (e := Extern.BytealgCount.count) (by kernel_rfl), Lib.run_countString]
  rfl
theorem ixsP_sound (F : Fix) (hP : F.c.P = Tryz.prog) (ok : F.Ok) : ∀ args h v h', ixsP args h = .ok (v, h') → h.next ≤ h'.next ∧
    ∀ ι w (av : Array Value), Rel F ι h w → VRels ι F.ρ args av.toList → Fresh ι h.next h'.next → CallTo F.c.P 105 av w (Out F ι h w v h') := by
  intro args h v h' hq
  unfold ixsP at hq
  split at hq
  rotate_left; · cases hq
  rename_i s c
  cases hq
  refine ⟨Nat.le_refl _, fun ι w av r ha fr => .inl ⟨_, w, ?_, ι, rfl, r, Step.refl _ _ _⟩⟩
  obtain ⟨v1, _, hav, a1, v2, _, rfl, a2, a3⟩ := ha
  simp only [VRels] at a3
  subst a3
  simp only [VRel] at a1 a2
  subst a1 a2
  have : av = #[.string ⟨s.toArray⟩, .int .u8 c] := by apply Array.toList_inj.1; rw [hav]
  subst this
  rw [hP, run_callFunc_extern Tryz.func105 (by kernel_rfl) (by kernel_rfl) (by kernel_rfl) (e := Extern.BytealgIndexByte.indexByte) (by kernel_rfl), Lib.run_indexByteString]
  rfl
theorem ixbP_sound (F : Fix) (hP : F.c.P = Tryz.prog) (ok : F.Ok) : ∀ args h v h', ixbP args h = .ok (v, h') → h.next ≤ h'.next ∧
    ∀ ι w (av : Array Value), Rel F ι h w → VRels ι F.ρ args av.toList → Fresh ι h.next h'.next → CallTo F.c.P 71 av w (Out F ι h w v h') := by
  intro args h v h' hq
  unfold ixbP at hq
  split at hq
  rotate_left; · cases hq
  rename_i o f n c
  split at hq
  rotate_left; · cases hq
  rename_i fz vs hgo
  split at hq
  rotate_left; · cases hq
  rename_i hfn
  split at hq
  rotate_left; · cases hq
  rename_i xs hxs
  cases hq
  refine ⟨Nat.le_refl _, fun ι w av r ha fr => .inl ⟨_, w, ?_, ι, rfl, r, Step.refl _ _ _⟩⟩
  obtain ⟨v1, _, hav, a1, v2, _, rfl, a2, a3⟩ := ha
  simp only [VRels] at a3
  subst a3
  simp only [VRel] at a2
  subst a2
  obtain ⟨e, x, cap, i1, rfl, i2, i3, i4⟩ := a1
  have : av = #[.slice (some ⟨e.blk, x, none⟩) n cap, .int .u8 c] := by apply Array.toList_inj.1; rw [hav]
  subst this
  obtain ⟨e', j1, _, cA, TA, fA, g1, _, g3, g4, _, _, _, g8⟩ := r.obj _ _ hgo
  rw [i1] at j1; cases j1
  obtain ⟨u1, u2⟩ := u8s_get hxs
  have hl : xs.length = n := by rw [← u1, List.length_take, List.length_drop]; omega
  rw [hP, run_callFunc_extern Tryz.func71 (by kernel_rfl) (by kernel_rfl) (by kernel_rfl) (e := Extern.BytealgIndexByte.indexByte) (by kernel_rfl)]
  rw [Lib.run_indexByteSlice w e.blk x n cap xs hl (fun i hi => ?_) c]
  · rfl
  · have hx : x = e.base + f := by
      rcases i4 with h | h
      · exact h
      · omega
    have h1 := u2 i (by omega)
    rw [List.getElem?_take, if_pos (by omega), List.getElem?_drop] at h1
    obtain ⟨v, hv, hr⟩ := g8 _ _ h1
    simp only [VRel] at hr
    subst hr
    rw [hx, Lib.cell_of_heap g1, Nat.add_assoc]
    exact hv
end Go.Proofs.YtofnbldbggddmaaGreatDoor
