/-
  More fuel does no harm.
-/
import Derived.Test.YtbnlhhfobgjeaaaZzAnn
set_option linter.all false
namespace Go.Proofs.Ytbnlhhfobgjeaaa
open Go Go.RowKit

def CLe (C C' : CallR) : Prop := ∀ f args h r, C f args h = .ok r → C' f args h = .ok r

section
variable {C C' : CallR} {c : Cfg} {loc : List Nat} {al : List (Nat × Nat)} {bad : List Nat} {ops : Array Oper} {bef : Array Nat}

theorem step1_mono (hC : CLe C C') {o : Oper} {s s' : RS} (hq : step1 C c loc al bad ops o s = .ok s') : step1 C' c loc al bad ops o s = .ok s' := by
  unfold step1 stepK at hq ⊢
  split at hq
  · split at hq
    · simp only [ansR] at hq ⊢
      obtain ⟨fa, h1, hq⟩ := Res.bind_ok hq
      obtain ⟨r, h2, hq⟩ := Res.bind_ok hq
      rw [h1, Res.ok_bind, hC _ _ _ _ h2]; exact hq
    · simp only [ansR] at hq ⊢
      obtain ⟨b, h0, hq⟩ := Res.bind_ok hq
      obtain ⟨fa, h1, hq⟩ := Res.bind_ok hq
      rw [h0, Res.ok_bind, h1, Res.ok_bind]
      cases b with
      | true =>
        simp only at hq ⊢
        obtain ⟨r, h2, hq⟩ := Res.bind_ok hq
        rw [hC _ _ _ _ h2]; exact hq
      | false => exact hq
  · exact hq

theorem stepK_mono (hC : CLe C C') {α : Type} {o : Oper} {s : RS} {K K' : RS → Res α} {r : α} (hK : ∀ s', K s' = .ok r → K' s' = .ok r) (hq : stepK (ansR C α) c loc al bad ops o s K = .ok r) :
    stepK (ansR C' α) c loc al bad ops o s K' = .ok r := by
  rw [stepK_eq] at hq ⊢
  obtain ⟨s', h1, h2⟩ := Res.bind_ok hq
  rw [step1_mono hC h1]; exact hK s' h2

theorem runText_mono (hC : CLe C C') {α : Type} {K : RS → Res α} {r : α} : ∀ (l : List Oper) (s : RS), runText (ansR C α) c loc al bad ops l s K = .ok r → runText (ansR C' α) c loc al bad ops l s K = .ok r
  | [], _, h => h
  | o :: l, s, h => by
    simp only [runText] at h ⊢
    exact stepK_mono hC (fun s' h' => runText_mono hC l s' h') h

theorem chkHist_mono {α : Type} {i : Nat} {rd : AHeap → Res AVal} {v : AVal} {K K' : Res α} {r : α} (hK : K = .ok r → K' = .ok r) : ∀ (l : List (Nat × AHeap)), chkHist (ansR C α) bef i rd v l K = .ok r → chkHist (ansR C' α) bef i rd v l K' = .ok r
  | [], h => hK h
  | (j, g) :: l, h => by
    unfold chkHist at h ⊢
    split at h
    · exact chkHist_mono hK l h
    · simp only [ansR] at h ⊢
      split at h
      · exact chkHist_mono hK l h
      · cases h

theorem chkReads_mono {α : Type} {i : Nat} {g : AHeap} {K K' : Res α} {r : α} (hK : K = .ok r → K' = .ok r) : ∀ (l : List (Nat × (AHeap → Res AVal) × AVal)), chkReads (ansR C α) bef i g l K = .ok r → chkReads (ansR C' α) bef i g l K' = .ok r
  | [], h => hK h
  | (j, rd, v) :: l, h => by
    unfold chkReads at h ⊢
    split at h
    · exact chkReads_mono hK l h
    · simp only [ansR] at h ⊢
      split at h
      · exact chkReads_mono hK l h
      · cases h

theorem stepD_mono (hC : CLe C C') {α : Type} {i : Nat} {o : Oper} {s : RS} {K K' : RS → Res α} {r : α} (hK : ∀ s', K s' = .ok r → K' s' = .ok r) (hq : stepD (ansR C α) c loc al bad ops bef i o s K = .ok r) :
    stepD (ansR C' α) c loc al bad ops bef i o s K' = .ok r := by
  unfold stepD at hq ⊢
  split at hq
  · simp only [ansR] at hq ⊢
    obtain ⟨v, h1, hq⟩ := Res.bind_ok hq
    rw [h1, Res.ok_bind]
    exact chkHist_mono (C := C) (C' := C') (hK _) _ hq
  · exact stepK_mono hC (fun s' h' => chkReads_mono (hK _) _ h') hq
  · exact stepK_mono hC hK hq
  · split at hq
    · exact stepK_mono hC hK hq
    · cases hq

theorem runDraw_mono (hC : CLe C C') {α : Type} {K : RS → Res α} {r : α} : ∀ (l : List Oper) (i : Nat) (s : RS), runDraw (ansR C α) c loc al bad ops bef i l s K = .ok r → runDraw (ansR C' α) c loc al bad ops bef i l s K = .ok r
  | [], _, _, h => h
  | o :: l, i, s, h => by
    simp only [runDraw] at h ⊢
    exact stepD_mono hC (fun s' h' => runDraw_mono hC l (i + 1) s' h') h

theorem regionK_mono (hC : CLe C C') {α : Type} {an : FnAnn} {id : Nat} {ops : Array Oper} {draw : Bool} {env : List AVal} {h : AHeap} {K : List AVal → AHeap → Res α} {r : α} (hq : regionK (ansR C α) c an id ops draw env h K = .ok r) :
    regionK (ansR C' α) c an id ops draw env h K = .ok r := by
  unfold regionK at hq ⊢
  cases draw with
  | false => exact runText_mono hC _ _ hq
  | true => exact runDraw_mono hC _ _ _ hq

end

theorem mono (c : Cfg) : ∀ k, (∀ f code env h r, exec c k f code env h = .ok r → exec c (k + 1) f code env h = .ok r) ∧
    (∀ f body cur env h r, scopeE c k f body cur env h = .ok r → scopeE c (k + 1) f body cur env h = .ok r) ∧ CLe (callF c k) (callF c (k + 1)) := by
  intro k
  induction k with
  | zero =>
    refine ⟨fun f code env h r hq => ?_, fun f body cur env h r hq => ?_, fun f args h r hq => ?_⟩
    · unfold exec at hq; cases hq
    · unfold scopeE at hq; cases hq
    · unfold callF at hq; cases hq
  | succ k ih =>
    obtain ⟨ihE, ihS, ihC⟩ := ih
    refine ⟨fun f code env h r hq => ?_, fun f body cur env h r hq => ?_, fun f args h r hq => ?_⟩
    · unfold exec at hq ⊢
      cases code with
      | seq a b =>
        simp only at hq ⊢
        obtain ⟨r1, h1, hq⟩ := Res.bind_ok hq
        rw [ihE _ _ _ _ _ h1, Res.ok_bind]
        cases he : r1.1 with
        | normal => rw [he] at hq; exact ihE _ _ _ _ _ hq
        | _ => rw [he] at hq; exact hq
      | cond x a b =>
        simp only at hq ⊢
        obtain ⟨v, h1, hq⟩ := Res.bind_ok hq
        rw [h1, Res.ok_bind]
        split at hq
        · split at hq
          · exact ihE _ _ _ _ _ hq
          · exact ihE _ _ _ _ _ hq
        · cases hq
      | block id a =>
        simp only at hq ⊢
        obtain ⟨r1, h1, hq⟩ := Res.bind_ok hq
        rw [ihE _ _ _ _ _ h1, Res.ok_bind]; exact hq
      | loop a =>
        simp only at hq ⊢
        obtain ⟨r1, h1, hq⟩ := Res.bind_ok hq
        rw [ihE _ _ _ _ _ h1, Res.ok_bind]
        cases he : r1.1 with
        | normal => rw [he] at hq; exact ihE _ _ _ _ _ hq
        | _ => rw [he] at hq; exact hq
      | scope a => exact ihS _ _ _ _ _ _ hq
      | region id ops draw => exact regionK_mono ihC hq
      | _ => exact hq
    · unfold scopeE at hq ⊢
      obtain ⟨r1, h1, hq⟩ := Res.bind_ok hq
      rw [ihE _ _ _ _ _ h1, Res.ok_bind]
      cases he : r1.1 with
      | goto l =>
        rw [he] at hq
        simp only at hq ⊢
        split at hq
        · exact ihS _ _ _ _ _ _ hq
        · exact hq
      | _ => rw [he] at hq; exact hq
    · unfold callF at hq ⊢
      split at hq
      · exact hq
      · split at hq
        · split at hq
          · obtain ⟨r1, h1, hq⟩ := Res.bind_ok hq
            rw [ihE _ _ _ _ _ h1, Res.ok_bind]; exact hq
          · cases hq
        · cases hq

end Go.Proofs.Ytbnlhhfobgjeaaa
