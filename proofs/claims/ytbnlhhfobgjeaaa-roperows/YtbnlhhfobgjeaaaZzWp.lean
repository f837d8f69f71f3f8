/-
  What code leads to, worked out along its text; calls that have one answer.
-/
import Derived.Test.YtbnlhhfobgjeaaaZzRules
set_option linter.all false
namespace Go.Proofs.Ytbnlhhfobgjeaaa
open Go Go.RowKit

/-- a call's one answer -/
def Run (c : Cfg) (f : Nat) (args : List AVal) (h : AHeap) (v : AVal) (h' : AHeap) : Prop := ∃ k, callF c k f args h = .ok (v, h')

theorem Run.inj {c : Cfg} {f : Nat} {args : List AVal} {h : AHeap} {v w : AVal} {h1 h2 : AHeap} (a : Run c f args h v h1) (b : Run c f args h w h2) : v = w ∧ h1 = h2 := by
  obtain ⟨k, a⟩ := a
  obtain ⟨m, b⟩ := b
  have a' := call_le (Nat.le_max_left k m) f args h _ a
  have b' := call_le (Nat.le_max_right k m) f args h _ b
  rw [a'] at b'
  cases b'; exact ⟨rfl, rfl⟩

theorem Ev.run {c : Cfg} {f : Nat} {args : List AVal} {h : AHeap} {v : AVal} {h' : AHeap} (a : Run c f args h v h') (Q : AVal → AHeap → Prop) : Ev c f args h Q = Q v h' := by
  apply propext
  constructor
  · rintro ⟨k, w, h2, b, q⟩
    obtain ⟨rfl, rfl⟩ := Run.inj a ⟨k, b⟩
    exact q
  · intro q
    obtain ⟨k, a⟩ := a
    exact ⟨k, v, h', a, q⟩

theorem Run.of {c : Cfg} {f : Nat} {args : List AVal} {h : AHeap} {v : AVal} {h' : AHeap} (a : Ev c f args h fun w g => w = v ∧ g = h') : Run c f args h v h' := by
  obtain ⟨k, w, g, b, rfl, rfl⟩ := a
  exact ⟨k, b⟩


/-! ### steps, worked out -/
def bndW {α : Type} (r : Res α) (K : α → Prop) : Prop := ∃ a, r = .ok a ∧ K a
theorem bndW_ok {α : Type} (a : α) (K : α → Prop) : bndW (.ok a) K = K a := by unfold bndW; simp
theorem bndW_err {α : Type} (n : Nat) (K : α → Prop) : bndW (.err n) K = False := by unfold bndW; simp
theorem bndW_congr {α : Type} {r r' : Res α} {K : α → Prop} (h : r = r') : bndW r K = bndW r' K := by rw [h]
theorem bndW_bind {α β : Type} (r : Res α) (f : α → Res β) (K : β → Prop) : bndW (r.bind f) K = bndW r fun a => bndW (f a) K := by
  cases r with
  | ok a => simp [bndW_ok]
  | err n => simp [bndW_err]
theorem bndW_if {α : Type} (p : Prop) [Decidable p] (a b : Res α) (K : α → Prop) : bndW (if p then a else b) K = ((p → bndW a K) ∧ (¬p → bndW b K)) := by
  by_cases h : p <;> simp [h]
def orW (b : Bool) (yes no : Unit → Prop) : Prop := (b = true → yes ()) ∧ (b = false → no ())
theorem orW_t (yes no : Unit → Prop) : orW true yes no = yes () := by unfold orW; simp
theorem orW_f (yes no : Unit → Prop) : orW false yes no = no () := by unfold orW; simp
theorem orW_d (p : Prop) [Decidable p] (yes no : Unit → Prop) : orW (decide p) yes no = ((p → yes ()) ∧ (¬p → no ())) := by unfold orW; simp
theorem orW_n (b : Bool) (yes no : Unit → Prop) : orW (!b) yes no = orW b no yes := by unfold orW; cases b <;> simp
theorem orW_et (b : Bool) (yes no : Unit → Prop) : orW (b == true) yes no = orW b yes no := by cases b <;> rfl
theorem orW_ef (b : Bool) (yes no : Unit → Prop) : orW (b == false) yes no = orW b no yes := by cases b <;> simp [orW]

/-! what comes behind a step, by name -/
def skipK (o : Oper) (s : RS) (K : RS → Prop) (_ : Unit) : Prop := K { s with env := putD s.env o (.tuple []) }
def skipL (o : Oper) (s : RS) (K : RS → Prop) (_ : Unit) : Prop := K { s with env := putD s.env o (.loc 0 false) }
def resK (o : Oper) (s : RS) (K : RS → Prop) (v : AVal) (h : AHeap) : Prop := K { s with env := putD s.env o v, h := h }
def callK (o : Oper) (s : RS) (K : RS → Prop) (c : Cfg) (fa : Nat × List AVal) : Prop := Ev c fa.1 fa.2 s.h (resK o s K)
def callY (c : Cfg) (bad : List Nat) (o : Oper) (x : Call) (s : RS) (K : RS → Prop) (_ : Unit) : Prop := bndW (calleeR c bad s.env x) (callK o s K c)
def pairK (o : Oper) (s : RS) (K : RS → Prop) (r : AVal × AHeap) : Prop := K { s with env := putD s.env o r.1, h := r.2 }
def opY (c : Cfg) (bad : List Nat) (o : Oper) (s : RS) (K : RS → Prop) (_ : Unit) : Prop := bndW (opR c bad s.env s.h o) (pairK o s K)
def locK (o : Oper) (s : RS) (K : RS → Prop) (n : Nat × Bool) : Prop := K { s with env := putD s.env o (.loc n.1 n.2) }
def aliasY (c : Cfg) (bad : List Nat) (t sl : Nat) (o : Oper) (s : RS) (K : RS → Prop) (_ : Unit) : Prop := bndW (aliasR c.P bad s.env t sl o) (locK o s K)
def valK (o : Oper) (s : RS) (K : RS → Prop) (v : AVal) : Prop := K { s with env := putD s.env o v }
def loadY (c : Cfg) (t sl : Nat) (o : Oper) (s : RS) (K : RS → Prop) (_ : Unit) : Prop := bndW (loadCell c.P s.env t sl o) (valK o s K)
def makeK (al : List (Nat × Nat)) (d : Nat) (s : RS) (K : RS → Prop) (vs : List AVal) : Prop := K { s with env := setN (clearAll (aliasTo al d) s.env) d (.cell vs) }
def storeK (sl : Nat) (s : RS) (K : RS → Prop) (vs : List AVal) : Prop := K { s with env := setN s.env sl (.cell vs) }

def orK (yes no : Unit → Prop) (b : Bool) : Prop := orW b yes no
def gW (ops : Array Oper) (env : List AVal) (o : Oper) (yes no : Unit → Prop) : Prop :=
  match o.guard with
  | none => yes ()
  | some _ => bndW (wantedR ops env o) (orK yes no)

def stepW (c : Cfg) (loc : List Nat) (al : List (Nat × Nat)) (bad : List Nat) (ops : Array Oper) (o : Oper) (s : RS) (K : RS → Prop) : Prop :=
  match callOf o with
  | some x => gW ops s.env o (callY c bad o x s K) (skipK o s K)
  | none => match how loc al o with
    | .plain => gW ops s.env o (opY c bad o s K) (skipK o s K)
    | .alias_ t sl => gW ops s.env o (aliasY c bad t sl o s K) (skipL o s K)
    | .make d => match o.guard with
      | none => bndW (makeCells c.P bad s.env o) (makeK al d s K)
      | some _ => False
    | .load_ t sl => gW ops s.env o (loadY c t sl o s K) (skipK o s K)
    | .store_ t sl => match o.guard, o.dst with
      | none, none => bndW (storeCell c.P bad s.env t sl o) (storeK sl s K)
      | _, _ => False

theorem gW_ifG {α : Type} {c : Cfg} {ops : Array Oper} {env : List AVal} {o : Oper} {other : α} {r : Res α} {K : α → Prop} {yes no : Unit → Prop} (hy : yes () → bndW r K) (hn : no () → K other) (h : gW ops env o yes no) : (ansP c).bnd (ifG ops env o other r) K := by
  unfold gW at h
  unfold ifG
  cases hg : o.guard with
  | none => rw [hg] at h; exact hy h
  | some g =>
    rw [hg] at h
    obtain ⟨b, h1, h2, h3⟩ := h
    simp only [h1, Res.ok_bind]
    cases b with
    | true => exact hy (h2 rfl)
    | false => exact ⟨other, rfl, hn (h3 rfl)⟩

theorem stepW_P {c : Cfg} {loc : List Nat} {al : List (Nat × Nat)} {bad : List Nat} {ops : Array Oper} {o : Oper} {s : RS} {K : RS → Prop} (h : stepW c loc al bad ops o s K) : stepK (ansP c) c loc al bad ops o s K := by
  unfold stepW at h
  unfold stepK
  cases hc : callOf o with
  | some x =>
    rw [hc] at h
    simp only at h ⊢
    unfold gW at h
    cases hg : o.guard with
    | none => rw [hg] at h; exact h
    | some g =>
      rw [hg] at h
      obtain ⟨b, h1, h2, h3⟩ := h
      refine ⟨b, h1, ?_⟩
      cases b with
      | true => exact h2 rfl
      | false => exact ⟨_, rfl, h3 rfl⟩
  | none =>
    rw [hc] at h
    simp only at h ⊢
    cases hh : how loc al o with
    | plain => rw [hh] at h; exact gW_ifG (other := (AVal.tuple [], s.h)) id id h
    | alias_ t sl => rw [hh] at h; exact gW_ifG (other := ((0, false) : Nat × Bool)) id id h
    | load_ t sl => rw [hh] at h; exact gW_ifG (other := AVal.tuple []) id id h
    | make d =>
      rw [hh] at h
      simp only at h ⊢
      cases hg : o.guard with
      | none => rw [hg] at h; exact h
      | some g => rw [hg] at h; exact h.elim
    | store_ t sl =>
      rw [hh] at h
      simp only at h ⊢
      cases hg : o.guard with
      | some g => rw [hg] at h; exact h.elim
      | none =>
        cases hd : o.dst with
        | some d => rw [hg, hd] at h; exact h.elim
        | none => rw [hg, hd] at h; exact h

def textW (c : Cfg) (loc : List Nat) (al : List (Nat × Nat)) (bad : List Nat) (ops : Array Oper) : List Oper → RS → (RS → Prop) → Prop
  | [], s, K => K s
  | o :: l, s, K => stepW c loc al bad ops o s (fun s' => textW c loc al bad ops l s' K)

theorem stepKP_mono {c : Cfg} {loc : List Nat} {al : List (Nat × Nat)} {bad : List Nat} {ops : Array Oper} {o : Oper} {s : RS} {K K' : RS → Prop} (hk : ∀ s, K s → K' s) (h : stepK (ansP c) c loc al bad ops o s K) : stepK (ansP c) c loc al bad ops o s K' := by
  have hb : ∀ {α : Type} {r : Res α} {A B : α → Prop}, (∀ a, A a → B a) → (ansP c).bnd r A → (ansP c).bnd r B := fun hab ⟨a, h1, h2⟩ => ⟨a, h1, hab a h2⟩
  have hcl : ∀ {b : Bool} {f : Nat} {args : List AVal} {h : AHeap} {A B : AVal → AHeap → Prop}, (∀ v h, A v h → B v h) → (ansP c).call b f args h A → (ansP c).call b f args h B := by
    intro b f args h A B hab hx
    cases b with
    | true => exact Ev.mono hx hab
    | false => exact hab _ _ hx
  unfold stepK at *
  cases hc : callOf o with
  | some x =>
    rw [hc] at h
    simp only at h ⊢
    cases hg : o.guard with
    | none => rw [hg] at h; exact hb (fun fa hx => hcl (fun v h q => hk _ q) hx) h
    | some g => rw [hg] at h; exact hb (fun b hx => hb (fun fa hx => hcl (fun v h q => hk _ q) hx) hx) h
  | none =>
    rw [hc] at h
    simp only at h ⊢
    cases hh : how loc al o with
    | plain => rw [hh] at h; exact hb (fun _ => hk _) h
    | alias_ t sl => rw [hh] at h; exact hb (fun _ => hk _) h
    | load_ t sl => rw [hh] at h; exact hb (fun _ => hk _) h
    | make d =>
      rw [hh] at h
      simp only at h ⊢
      cases hgd : o.guard with
      | none => rw [hgd] at h; exact hb (fun _ => hk _) h
      | some g => rw [hgd] at h; obtain ⟨_, h1, _⟩ := h; cases h1
    | store_ t sl =>
      rw [hh] at h
      simp only at h ⊢
      cases hgd : o.guard with
      | some g => rw [hgd] at h; obtain ⟨_, h1, _⟩ := h; cases h1
      | none =>
        cases hd : o.dst with
        | some d => rw [hgd, hd] at h; obtain ⟨_, h1, _⟩ := h; cases h1
        | none => rw [hgd, hd] at h; exact hb (fun _ => hk _) h

def textK (c : Cfg) (loc : List Nat) (al : List (Nat × Nat)) (bad : List Nat) (ops : Array Oper) (l : List Oper) (K : RS → Prop) (s : RS) : Prop := textW c loc al bad ops l s K
theorem textW_nil (c : Cfg) (loc : List Nat) (al : List (Nat × Nat)) (bad : List Nat) (ops : Array Oper) (s : RS) (K : RS → Prop) : textW c loc al bad ops [] s K = K s := rfl
theorem textW_cons (c : Cfg) (loc : List Nat) (al : List (Nat × Nat)) (bad : List Nat) (ops : Array Oper) (o : Oper) (l : List Oper) (s : RS) (K : RS → Prop) : textW c loc al bad ops (o :: l) s K = stepW c loc al bad ops o s (textK c loc al bad ops l K) := rfl

theorem textW_P {c : Cfg} {loc : List Nat} {al : List (Nat × Nat)} {bad : List Nat} {ops : Array Oper} {K : RS → Prop} : ∀ (l : List Oper) (s : RS), textW c loc al bad ops l s K → runText (ansP c) c loc al bad ops l s K
  | [], s, h => h
  | o :: l, s, h => stepKP_mono (fun s' => textW_P l s') (stepW_P h)

/-- does a reading give the same at each heap that was there, where it may come ahead? -/
def histW (bef : Array Nat) (i : Nat) (rd : AHeap → Res AVal) (v : AVal) : List (Nat × AHeap) → Prop
  | [] => True
  | (j, h) :: l => (befB bef j i = true ∨ sameRes (rd h) v = true) ∧ histW bef i rd v l
def readsW (bef : Array Nat) (i : Nat) (h : AHeap) : List (Nat × (AHeap → Res AVal) × AVal) → Prop
  | [] => True
  | (j, rd, v) :: l => (befB bef j i = true ∨ sameRes (rd h) v = true) ∧ readsW bef i h l

theorem histW_P {c : Cfg} {bef : Array Nat} {i : Nat} {rd : AHeap → Res AVal} {v : AVal} {K : Prop} (hK : K) : ∀ {l : List (Nat × AHeap)}, histW bef i rd v l → chkHist (ansP c) bef i rd v l K
  | [], _ => hK
  | (j, g) :: l, h => by
    unfold chkHist
    cases hb : befB bef j i with
    | true => exact histW_P hK h.2
    | false =>
      obtain ⟨h1, h2⟩ := h
      rcases h1 with h1 | h1
      · rw [hb] at h1; cases h1
      · exact ⟨h1, histW_P hK h2⟩
theorem readsW_P {c : Cfg} {bef : Array Nat} {i : Nat} {g : AHeap} {K : Prop} (hK : K) : ∀ {l : List (Nat × (AHeap → Res AVal) × AVal)}, readsW bef i g l → chkReads (ansP c) bef i g l K
  | [], _ => hK
  | (j, rd, v) :: l, h => by
    unfold chkReads
    cases hb : befB bef j i with
    | true => exact readsW_P hK h.2
    | false =>
      obtain ⟨h1, h2⟩ := h
      rcases h1 with h1 | h1
      · rw [hb] at h1; cases h1
      · exact ⟨h1, readsW_P hK h2⟩

def readK (c : Cfg) (bad : List Nat) (ops : Array Oper) (bef : Array Nat) (i : Nat) (o : Oper) (s : RS) (K : RS → Prop) (v : AVal) : Prop :=
  histW bef i (readAt c bad ops s.env o) v s.hist ∧ K { s with env := putD s.env o v, reads := (i, readAt c bad ops s.env o, v) :: s.reads }
def readOne (c : Cfg) (bad : List Nat) (s : RS) (o : Oper) : Res AVal := (opR c bad s.env s.base o).bind fun r => .ok r.1
def readY (c : Cfg) (bad : List Nat) (ops : Array Oper) (bef : Array Nat) (i : Nat) (o : Oper) (s : RS) (K : RS → Prop) (_ : Unit) : Prop := bndW (readOne c bad s o) (readK c bad ops bef i o s K)
def readN (c : Cfg) (bad : List Nat) (ops : Array Oper) (bef : Array Nat) (i : Nat) (o : Oper) (s : RS) (K : RS → Prop) (_ : Unit) : Prop := readK c bad ops bef i o s K (.tuple [])
def impK (bef : Array Nat) (i : Nat) (s : RS) (K : RS → Prop) (s' : RS) : Prop := readsW bef i s'.h s'.reads ∧ K { s' with hist := (i, s.base) :: s'.hist, base := s'.h }

def stepDW (c : Cfg) (loc : List Nat) (al : List (Nat × Nat)) (bad : List Nat) (ops : Array Oper) (bef : Array Nat) (i : Nat) (o : Oper) (s : RS) (K : RS → Prop) : Prop :=
  match kindOf c.P loc al o with
  | .read => gW ops s.env o (readY c bad ops bef i o s K) (readN c bad ops bef i o s K)
  | .imp => stepW c loc al bad ops o s (impK bef i s K)
  | .pure => stepW c loc al bad ops o s K
  | .alloc => match o.guard with
    | none => stepW c loc al bad ops o s K
    | some _ => False

theorem stepDW_P {c : Cfg} {loc : List Nat} {al : List (Nat × Nat)} {bad : List Nat} {ops : Array Oper} {bef : Array Nat} {i : Nat} {o : Oper} {s : RS} {K : RS → Prop} (h : stepDW c loc al bad ops bef i o s K) : stepD (ansP c) c loc al bad ops bef i o s K := by
  unfold stepDW at h
  unfold stepD
  cases hk : kindOf c.P loc al o with
  | read =>
    rw [hk] at h
    simp only at h ⊢
    have conv : ∀ v, readK c bad ops bef i o s K v → chkHist (ansP c) bef i (readAt c bad ops s.env o) v s.hist (K { s with env := putD s.env o v, reads := (i, readAt c bad ops s.env o, v) :: s.reads }) := fun v q => histW_P q.2 q.1
    exact gW_ifG (other := AVal.tuple []) (fun ⟨v, h1, h2⟩ => ⟨v, h1, conv v h2⟩) (fun q => conv _ q) h
  | imp =>
    rw [hk] at h
    exact stepKP_mono (fun s' q => readsW_P q.2 q.1) (stepW_P h)
  | pure => rw [hk] at h; exact stepW_P h
  | alloc =>
    rw [hk] at h
    simp only at h ⊢
    cases hg : o.guard with
    | none => rw [hg] at h; exact stepW_P h
    | some g => rw [hg] at h; exact h.elim

theorem stepDP_mono {c : Cfg} {loc : List Nat} {al : List (Nat × Nat)} {bad : List Nat} {ops : Array Oper} {bef : Array Nat} {i : Nat} {o : Oper} {s : RS} {K K' : RS → Prop} (hk : ∀ s, K s → K' s) (h : stepD (ansP c) c loc al bad ops bef i o s K) : stepD (ansP c) c loc al bad ops bef i o s K' := by
  have hch : ∀ {rd : AHeap → Res AVal} {v : AVal} {A B : Prop}, (A → B) → ∀ l, chkHist (ansP c) bef i rd v l A → chkHist (ansP c) bef i rd v l B := by
    intro rd v A B hab l
    induction l with
    | nil => exact hab
    | cons x l ih =>
      intro hx
      unfold chkHist at hx ⊢
      cases hb : befB bef x.1 i with
      | true => rw [hb] at hx; exact ih hx
      | false => rw [hb] at hx; exact ⟨hx.1, ih hx.2⟩
  have hcr : ∀ {g : AHeap} {A B : Prop}, (A → B) → ∀ l, chkReads (ansP c) bef i g l A → chkReads (ansP c) bef i g l B := by
    intro g A B hab l
    induction l with
    | nil => exact hab
    | cons x l ih =>
      intro hx
      unfold chkReads at hx ⊢
      cases hb : befB bef x.1 i with
      | true => rw [hb] at hx; exact ih hx
      | false => rw [hb] at hx; exact ⟨hx.1, ih hx.2⟩
  unfold stepD at *
  cases hkk : kindOf c.P loc al o with
  | read => rw [hkk] at h; obtain ⟨v, h1, h2⟩ := h; exact ⟨v, h1, hch (hk _) _ h2⟩
  | imp => rw [hkk] at h; exact stepKP_mono (fun s' q => hcr (hk _) _ q) h
  | pure => rw [hkk] at h; exact stepKP_mono hk h
  | alloc =>
    rw [hkk] at h
    simp only at h ⊢
    cases hg : o.guard with
    | none => rw [hg] at h; exact stepKP_mono hk h
    | some g => rw [hg] at h; obtain ⟨_, h1, _⟩ := h; cases h1

def drawW (c : Cfg) (loc : List Nat) (al : List (Nat × Nat)) (bad : List Nat) (ops : Array Oper) (bef : Array Nat) : Nat → List Oper → RS → (RS → Prop) → Prop
  | _, [], s, K => K s
  | i, o :: l, s, K => stepDW c loc al bad ops bef i o s fun s' => drawW c loc al bad ops bef (i + 1) l s' K

def drawK (c : Cfg) (loc : List Nat) (al : List (Nat × Nat)) (bad : List Nat) (ops : Array Oper) (bef : Array Nat) (i : Nat) (l : List Oper) (K : RS → Prop) (s : RS) : Prop := drawW c loc al bad ops bef i l s K
theorem drawW_nil (c : Cfg) (loc : List Nat) (al : List (Nat × Nat)) (bad : List Nat) (ops : Array Oper) (bef : Array Nat) (i : Nat) (s : RS) (K : RS → Prop) : drawW c loc al bad ops bef i [] s K = K s := rfl
theorem drawW_cons (c : Cfg) (loc : List Nat) (al : List (Nat × Nat)) (bad : List Nat) (ops : Array Oper) (bef : Array Nat) (i : Nat) (o : Oper) (l : List Oper) (s : RS) (K : RS → Prop) : drawW c loc al bad ops bef i (o :: l) s K = stepDW c loc al bad ops bef i o s (drawK c loc al bad ops bef (i + 1) l K) := rfl

theorem drawW_P {c : Cfg} {loc : List Nat} {al : List (Nat × Nat)} {bad : List Nat} {ops : Array Oper} {bef : Array Nat} {K : RS → Prop} : ∀ (l : List Oper) (i : Nat) (s : RS), drawW c loc al bad ops bef i l s K → runDraw (ansP c) c loc al bad ops bef i l s K
  | [], i, s, h => h
  | o :: l, i, s, h => stepDP_mono (fun s' => drawW_P l (i + 1) s') (stepDW_P h)

/-- slots that point into cells of the frame -/
def aliasAdd (p : Option (Nat × Nat)) (d : Option Nat) (acc : List (Nat × Nat)) : List (Nat × Nat) :=
  match p, d with
  | some ts, some d => (d, ts.2) :: acc
  | _, _ => acc
def aliasOne (loc : List Nat) (acc : List (Nat × Nat)) (o : Oper) : Option (Nat × Nat) :=
  match o.op with | .move x | .nilCheck x | .fieldAddr _ x _ | .indexAddr _ x _ => slotOf loc acc x | _ => none
theorem aliasPairs_nil (loc : List Nat) (acc : List (Nat × Nat)) : aliasPairs loc [] acc = acc := rfl
theorem aliasPairs_cons (loc : List Nat) (o : Oper) (l : List Oper) (acc : List (Nat × Nat)) : aliasPairs loc (o :: l) acc = aliasPairs loc l (aliasAdd (aliasOne loc acc o) o.dst acc) := by
  show (match aliasOne loc acc o, o.dst with
    | some ts, some d => aliasPairs loc l ((d, ts.2) :: acc)
    | _, _ => aliasPairs loc l acc) = _
  unfold aliasAdd
  cases aliasOne loc acc o <;> cases o.dst <;> rfl
theorem aliasPairs_none (l : List Oper) : aliasPairs [] l [] = [] := by
  induction l with
  | nil => rfl
  | cons o l ih =>
    rw [aliasPairs_cons]
    have h : aliasOne [] [] o = none := by
      unfold aliasOne slotOf
      split
      all_goals first | rfl | (split <;> rfl)
    rw [h]; exact ih

def finK (an : FnAnn) (id : Nat) (als : List Nat) (K : List AVal → AHeap → Prop) (s : RS) : Prop := K (clearAll (clearOf an id) (clearAll als s.env)) s.h
def keysOf : List (Nat × Nat) → List Nat
  | [] => []
  | p :: l => p.1 :: keysOf l
theorem keysOf_map : ∀ l : List (Nat × Nat), l.map (·.1) = keysOf l
  | [] => rfl
  | p :: l => by simp [keysOf, keysOf_map l]
def joinN : List Nat → List Nat → List Nat
  | [], b => b
  | x :: a, b => x :: joinN a b
theorem joinN_eq : ∀ a b : List Nat, a ++ b = joinN a b
  | [], b => rfl
  | x :: a, b => by simp [joinN, joinN_eq a b]
def regW (c : Cfg) (an : FnAnn) (id : Nat) (ops : Array Oper) (draw : Bool) (al : List (Nat × Nat)) (env : List AVal) (h : AHeap) (K : List AVal → AHeap → Prop) : Prop :=
  match draw with
  | false => textW c an.locals al (joinN (keysOf al) an.locals) ops ops.toList (rs0 env h) (finK an id (keysOf al) K)
  | true => drawW c an.locals al (joinN (keysOf al) an.locals) ops (Region.before ops) 0 ops.toList (rs0 env h) (finK an id (keysOf al) K)
def regionW (c : Cfg) (an : FnAnn) (id : Nat) (ops : Array Oper) (draw : Bool) (env : List AVal) (h : AHeap) (K : List AVal → AHeap → Prop) : Prop :=
  regW c an id ops draw (aliasPairs an.locals ops.toList []) env h K

theorem regionW_P {c : Cfg} {an : FnAnn} {id : Nat} {ops : Array Oper} {draw : Bool} {env : List AVal} {h : AHeap} {K : List AVal → AHeap → Prop} (q : regionW c an id ops draw env h K) : regionK (ansP c) c an id ops draw env h K := by
  unfold regionW regW at q
  unfold regionK
  cases draw with
  | false => simp only [keysOf_map, joinN_eq]; exact textW_P _ _ q
  | true => simp only [keysOf_map, joinN_eq]; exact drawW_P _ _ _ q

/-- a branch -/
def condW (r : Res AVal) (yes no : Unit → Prop) : Prop := ∃ t, r = .ok (.bool t) ∧ (t = true → yes ()) ∧ (t = false → no ())
theorem condW_ok (b : Bool) (yes no : Unit → Prop) : condW (.ok (.bool b)) yes no = orW b yes no := by unfold condW orW; simp

/-- the ends of code -/
def ends (K : List AVal → AHeap → Prop) (E : Nat → List AVal → AHeap → Prop) (R : List AVal → AHeap → Prop) (G : Nat → List AVal → AHeap → Prop) : AExit → List AVal → AHeap → Prop
  | .normal => K
  | .exit id => E id
  | .ret => R
  | .goto l => G l

def wp (c : Cfg) (f : Nat) : Code → (List AVal → AHeap → Prop) → (Nat → List AVal → AHeap → Prop) → (List AVal → AHeap → Prop) → (Nat → List AVal → AHeap → Prop) → List AVal → AHeap → Prop
  | .skip, K, _, _, _, env, h => K env h
  | .label _, K, _, _, _, env, h => K env h
  | .seq a b, K, E, R, G, env, h => wp c f a (fun env h => wp c f b K E R G env h) E R G env h
  | .cond x a b, K, E, R, G, env, h => condW (opnd (c.ann f).locals env x) (fun _ => wp c f a K E R G env h) (fun _ => wp c f b K E R G env h)
  | .block id a, K, E, R, G, env, h => wp c f a K (fun id' env h => if id' = id then K env h else E id' env h) R G env h
  | .region id ops draw, K, _, _, _, env, h => regionW c (c.ann f) id ops draw env h K
  | .exit id, _, E, _, _, env, h => E id env h
  | .goto l, _, _, _, G, env, h => G l env h
  | .ret, _, _, R, _, env, h => R env h
  | .loop a, K, E, R, G, env, h => Xv c f (.loop a) env h (ends K E R G)
  | .scope a, K, E, R, G, env, h => wp c f a K E R (fun l env h => match findLabel a l with
      | some rest => Xs c f a rest env h (ends K E R G)
      | none => G l env h) env h
  | _, _, _, _, _, _, _ => False

section
variable (c : Cfg) (f : Nat) (K : List AVal → AHeap → Prop) (E : Nat → List AVal → AHeap → Prop) (R : List AVal → AHeap → Prop) (G : Nat → List AVal → AHeap → Prop)
def seqK (b : Code) (env : List AVal) (h : AHeap) : Prop := wp c f b K E R G env h
def wpT (a : Code) (env : List AVal) (h : AHeap) (_ : Unit) : Prop := wp c f a K E R G env h
def blkE (id id' : Nat) (env : List AVal) (h : AHeap) : Prop := if id' = id then K env h else E id' env h
def scpG (a : Code) (l : Nat) (env : List AVal) (h : AHeap) : Prop := match findLabel a l with
      | some rest => Xs c f a rest env h (ends K E R G)
      | none => G l env h
variable (env : List AVal) (h : AHeap)
theorem wp_skip : wp c f .skip K E R G env h = K env h := rfl
theorem wp_label (l : Nat) : wp c f (.label l) K E R G env h = K env h := rfl
theorem wp_exit (id : Nat) : wp c f (.exit id) K E R G env h = E id env h := rfl
theorem wp_goto (l : Nat) : wp c f (.goto l) K E R G env h = G l env h := rfl
theorem wp_ret : wp c f .ret K E R G env h = R env h := rfl
theorem wp_seq (a b : Code) : wp c f (.seq a b) K E R G env h = wp c f a (seqK c f K E R G b) E R G env h := rfl
theorem wp_cond (x : Operand) (a b : Code) : wp c f (.cond x a b) K E R G env h = condW (opnd (c.ann f).locals env x) (wpT c f K E R G a env h) (wpT c f K E R G b env h) := rfl
theorem wp_block (id : Nat) (a : Code) : wp c f (.block id a) K E R G env h = wp c f a K (blkE K E id) R G env h := rfl
theorem wp_region (id : Nat) (ops : Array Oper) (draw : Bool) : wp c f (.region id ops draw) K E R G env h = regionW c (c.ann f) id ops draw env h K := rfl
theorem wp_loop (a : Code) : wp c f (.loop a) K E R G env h = Xv c f (.loop a) env h (ends K E R G) := rfl
theorem wp_scope (a : Code) : wp c f (.scope a) K E R G env h = wp c f a K E R (scpG c f K E R G a) env h := rfl
end

theorem wp_Xv {c : Cfg} {f : Nat} : ∀ (a : Code) {K : List AVal → AHeap → Prop} {E : Nat → List AVal → AHeap → Prop} {R : List AVal → AHeap → Prop} {G : Nat → List AVal → AHeap → Prop} {env : List AVal} {h : AHeap}, wp c f a K E R G env h → Xv c f a env h (ends K E R G)
  | .skip, _, _, _, _, _, _, q => .skip q
  | .label _, _, _, _, _, _, _, q => .label q
  | .exit _, _, _, _, _, _, _, q => .exit q
  | .goto _, _, _, _, _, _, _, q => .goto q
  | .ret, _, _, _, _, _, _, q => .ret q
  | .region _ _ _, _, _, _, _, _, _, q => .region (regionW_P q)
  | .loop _, _, _, _, _, _, _, q => q
  | .seq a b, _, _, _, _, _, _, q => by
    refine .seq ((wp_Xv a q).mono fun e env h q => ?_)
    cases e with
    | normal => exact wp_Xv b q
    | _ => exact q
  | .cond x a b, _, _, _, _, _, _, q => by
    obtain ⟨t, h1, h2, h3⟩ := q
    refine .cond h1 ?_
    cases t with
    | true => exact wp_Xv a (h2 rfl)
    | false => exact wp_Xv b (h3 rfl)
  | .block id a, _, _, _, _, _, _, q => by
    refine .block ((wp_Xv a q).mono fun e env h q => ?_)
    cases e with
    | exit id' =>
      simp only [ends] at q
      simp only [Xblock]
      split <;> rename_i hh
      · rw [if_pos hh] at q; exact q
      · rw [if_neg hh] at q; exact q
    | _ => exact q
  | .scope a, _, _, _, _, _, _, q => by
    refine .scope (.of ((wp_Xv a q).mono fun e env h q => ?_))
    cases e with
    | goto l => exact q
    | _ => exact q
  | .refuse .., _, _, _, _, _, _, q => q.elim
  | .rangeFunc .., _, _, _, _, _, _, q => q.elim

section
variable {c : Cfg} {f : Nat} {K : List AVal → AHeap → Prop} {E : Nat → List AVal → AHeap → Prop} {R : List AVal → AHeap → Prop} {G : Nat → List AVal → AHeap → Prop}

def headK (I : Nat → List AVal → AHeap → Prop) (n : Nat) (env : List AVal) (h : AHeap) : Prop := ∃ m, m < n ∧ I m env h

/-- a loop, by what holds at its head; the number goes down -/
theorem loop_of {a : Code} (I : Nat → List AVal → AHeap → Prop) (hI : ∀ n env h, I n env h → wp c f a (headK I n) E R G env h) (n : Nat) {env : List AVal} {h : AHeap} (h0 : I n env h) :
    Xv c f (.loop a) env h (ends K E R G) := by
  refine Xv.loop I (fun n env h hi => (wp_Xv a (hI n env h hi)).mono fun e env' h' q => ?_) n env h h0
  cases e with
  | normal => exact q
  | _ => exact q

/-- from a label on -/
theorem label_of {body rest : Code} {env : List AVal} {h : AHeap} (q : wp c f rest K E R (scpG c f K E R G body) env h) : Xs c f body rest env h (ends K E R G) := by
  refine .of ((wp_Xv rest q).mono fun e env h q => ?_)
  cases e with
  | goto l => exact q
  | _ => exact q

/-- a loop by a label; the number goes down -/
theorem goto_of {body rest : Code} (I : Nat → List AVal → AHeap → Prop) (hI : ∀ n env h, (∀ m, m < n → ∀ env h, I m env h → Xs c f body rest env h (ends K E R G)) → I n env h → wp c f rest K E R (scpG c f K E R G body) env h) : ∀ (n : Nat) {env : List AVal} {h : AHeap}, I n env h → Xs c f body rest env h (ends K E R G) := by
  intro n
  induction n using Nat.strongRecOn with
  | _ n ih => intro env h h0; exact label_of (hI n env h (fun m hm env h q => ih m hm q) h0)

def retK (c : Cfg) (f : Nat) (rs : List ResultVar) (Q : AVal → AHeap → Prop) (env : List AVal) (h : AHeap) : Prop := bndW (resultsR c (c.ann f).locals env h rs) fun vs => Q (packR vs) h
def noE (_ : Nat) (_ : List AVal) (_ : AHeap) : Prop := False

theorem Ev.wp {args : List AVal} {h : AHeap} {Q : AVal → AHeap → Prop} {fn : Func} {code : Code} (hp : c.prim f = none) (hok : (c.ann f).ok = true) (hf : c.P.funcs[f]? = some fn) (hb : fn.body = some code)
    (hq : Ytbnlhhfobgjeaaa.wp c f code (retK c f fn.results.toList Q) noE (retK c f fn.results.toList Q) noE (args ++ List.replicate (fn.ntmps - args.length) .dead) h) : Ev c f args h Q := by
  refine Ev.of hp hok hf hb ((wp_Xv code hq).mono fun e env h q => ?_)
  cases e with
  | normal => exact q
  | ret => exact q
  | exit => exact q.elim
  | goto => exact q.elim
end

end Go.Proofs.Ytbnlhhfobgjeaaa
