/-
  A part of the proof of GossipBytes, over the seat Ytomhcjiefmaopaa: for every input the law returns true, and the input reads as it did.
-/
import Derived.Test.YtomhcjiefmaopaaR3Base
set_option linter.all false
set_option maxRecDepth 100000
set_option maxHeartbeats 4000000
namespace Go.Proofs.Ytomhcjiefmaopaa
open Go Go.RowKit Go.Proofs

/-- a writer, at a place that was there at hb -/
def WrAt (hb h : AHeap) (w : Nat) (bs : List UInt8) : Prop := ∃ v, h.get w = some (.row 0 false [v]) ∧ BM hb h v bs ∧ w < hb.next ∧ hb.next ≤ h.next
/-- what writing leaves -/
def Wst (hb : AHeap) (w : Nat) (h h' : AHeap) : Prop := h.next ≤ h'.next ∧ ∀ o, o < hb.next → o ≠ w → h'.get o = h.get o
theorem Wst.refl {hb : AHeap} {w : Nat} {h : AHeap} : Wst hb w h h := ⟨Nat.le_refl _, fun _ _ _ => rfl⟩
theorem Wst.trans {hb : AHeap} {w : Nat} {a b c : AHeap} (h : Wst hb w a b) (k : Wst hb w b c) : Wst hb w a c := ⟨Nat.le_trans h.1 k.1, fun o h1 h2 => (k.2 o h1 h2).trans (h.2 o h1 h2)⟩

/-- one byte more -/
theorem wr_one {hb h : AHeap} {w : Nat} {bs : List UInt8} {b : UInt8} {v : AVal} (hv : h.get w = some (.row 0 false [v])) (hm : BM hb h v bs) (hw : w < hb.next) (hn : hb.next ≤ h.next) (hl : bs.length ≤ 2 ^ 40) (x : AObj) :
    ∃ v' h', appCore 1 1 (h.push x) v 1 [bcell b] = .ok (v', h') ∧ cellsV v' = .ok [v'] ∧ h'.get w = some (.row 0 false [v]) ∧ WrAt hb (h'.set w (.row 0 false [v'])) w (bs ++ [b]) ∧ Wst hb w h (h'.set w (.row 0 false [v'])) := by
  have hm' : BM hb (h.push x) v bs := hm.keep ((Old.refl h).push x)
  obtain ⟨v', h', h1, h2, h3, h4⟩ := Mine.append1G (bytes := 1) (e := [bcell b]) hm' (by omega) rfl (by rw [bes_len]; omega) (by simp; omega)
  refine ⟨v', h', h1, by obtain ⟨_, ⟨_, rfl⟩ | ⟨_, _, rfl, _⟩⟩ := h2 <;> rfl, ?_, ⟨v', by rw [AHeap.get_set]; simp, ?_, hw, by simp at h3 ⊢; omega⟩, by simp at h3 ⊢; omega, fun o ho hne => ?_⟩
  · rw [h4 w hw, AHeap.get_push, if_neg (by omega)]; exact hv
  · unfold BM
    rw [bes_append]
    obtain ⟨e1, e2⟩ := h2
    refine ⟨e1, ?_⟩
    rcases e2 with e2 | ⟨q, fz, e2, e3, e4, e5⟩
    · exact .inl e2
    · exact .inr ⟨q, fz, e2, e3, by simpa using e4, by rw [AHeap.get_set, if_neg (by omega)]; exact e5⟩
  · rw [AHeap.get_set, if_neg (by omega), h4 o ho, AHeap.get_push, if_neg (by omega)]

section
variable {ro : Nat → Option (List AVal)}

theorem byte30 {hb h : AHeap} {w : Nat} {bs : List UInt8} {b : UInt8} (hw : WrAt hb h w bs) (hl : bs.length ≤ 2 ^ 40) {Q : AVal → AHeap → Prop}
    (hq : ∀ h', WrAt hb h' w (bs ++ [b]) → Wst hb w h h' → Q (.tuple []) h') : Ev (cfgR ro) 30 [.ptr w 0, .int .u8 b.toNat] h Q := by
  obtain ⟨v, hv, hm, hwl, hn⟩ := hw
  refine Ev.wp rfl rfl Try.func30 rfl ?_
  obtain ⟨v', h', h1, hc, h2, h3, h4⟩ := wr_one (b := b) hv hm hwl hn hl (.row 1 false [.int .u8 b.toNat])
  simp only [bcell] at h1
  simp [Try.f30, hv, buildSliceR, reps, h1, hc, h2]
  exact hq _ h3 h4

theorem num31 {hb h : AHeap} {w : Nat} {bs : List UInt8} {n : Nat} (hn : n < 2 ^ 63) (hw : WrAt hb h w bs) (hl : bs.length ≤ 2 ^ 39) {Q : AVal → AHeap → Prop}
    (hq : ∀ h', WrAt hb h' w (bs ++ numS n) → Wst hb w h h' → Q (.tuple []) h') : Ev (cfgR ro) 31 [.ptr w 0, .int .u64 n] h Q := by
  refine Ev.wp rfl rfl Try.func31 rfl ?_
  have e0 : IntKind.u64.wrap (n : Int) = n := by rw [wrap64]; omega
  simp [Try.f31, and63 hn]
  obtain ⟨I, hI⟩ : ∃ I : Nat → List AVal → AHeap → Prop, I = fun m env h' => ∃ (bs' : List UInt8), m < 2 ^ 63 ∧ WrAt hb h' w bs' ∧ Wst hb w h h' ∧ bs ++ numS n = bs' ++ numS m ∧ bs'.length + (numS m).length = bs.length + (numS n).length ∧ env = (.ptr w 0 :: .int .u64 m :: .dead :: .dead :: .dead :: .dead :: .dead :: .dead :: .dead :: .dead :: .dead :: .dead :: .dead :: .dead :: .dead :: .dead :: .dead :: .dead :: .dead :: .dead :: .dead :: .dead :: .dead :: .dead :: .dead :: .dead :: .dead :: .dead :: .dead :: .dead :: .dead :: .dead :: .dead :: []) := ⟨_, rfl⟩
  have hnl := numS_len 8 n (by omega)
  refine label_loop I (fun _ _ => rfl) rfl ?_ n (by rw [hI]; exact ⟨bs, hn, hw, Wst.refl, rfl, rfl, rfl⟩)
  rintro m env h' hrec hi
  have hi' := hi
  rw [hI] at hi'
  obtain ⟨bs', hm, hw', hs', he, hle, rfl⟩ := hi'
  obtain ⟨v, hv, hbm, hwl, hnx⟩ := hw'
  simp
  refine orD (fun h1 => ?_) (fun h1 => ?_)
  · have h1 : m < 128 := by omega
    rw [numS_lo h1] at he hle
    have e1 : IntKind.u8.wrap (m : Int) = m := by rw [wrap8]; omega
    obtain ⟨v', h2, k1, kc, k2, k3, k4⟩ := wr_one (b := UInt8.ofNat m) hv hbm hwl hnx (by omega) (.row 1 false [.int .u8 m])
    simp only [bcell, toNat_ofNat (show m < 256 by omega)] at k1
    simp [hv, buildSliceR, reps, e1, k1, kc, k2]
    exact hq _ (by rw [he]; exact k3) (hs'.trans k4)
  · have h1 : ¬ m < 128 := by omega
    rw [numS_hi h1] at he hle
    have e1 : IntKind.u8.wrap (m : Int) = ((m % 256 : Nat) : Int) := by rw [wrap8]; omega
    have e3 : ior .u8 (IntKind.u8.wrap (m : Int)) 128 = ((m % 128 + 128 : Nat) : Int) := by rw [e1, or128 (m % 256) (Nat.mod_lt _ (by omega))]; omega
    obtain ⟨v', h2, k1, kc, k2, k3, k4⟩ := wr_one (b := UInt8.ofNat (m % 128 + 128)) hv hbm hwl hnx (by simp at hle; omega) (.row 1 false [.int .u8 ((m % 128 + 128 : Nat) : Int)])
    simp only [bcell, toNat_ofNat (show m % 128 + 128 < 256 by omega)] at k1
    obtain ⟨x, hx⟩ : ∃ x : Int, x = ((m % 128 + 128 : Nat) : Int) := ⟨_, rfl⟩
    rw [← hx] at k1 e3
    simp [hv, buildSliceR, reps, e3, k1, kc, k2, shr7]
    refine hrec (m / 128) (by omega) _ _ ?_
    rw [hI]
    exact ⟨_, by omega, k3, hs'.trans k4, by rw [he]; simp, by simp at hle ⊢; omega, rfl⟩
end
end Go.Proofs.Ytomhcjiefmaopaa
