/-
  A part of the proof of GossipBytes, over the seat Ytomhcjiefmaopaa: for every input the law returns true, and the input reads as it did.
-/
import Derived.Test.YtomhcjiefmaopaaR3K
import Derived.Test.YtomhcjiefmaopaaRows
import Derived.ProofKit
set_option linter.all false
set_option maxRecDepth 100000
set_option maxHeartbeats 4000000
namespace Go.Proofs.Ytomhcjiefmaopaa
open Go Go.RowKit Go.Proofs Go.ChangeShapes Go.WideShapes Go.ChangeAt

theorem en_of {ro n} {x : List AVal} (h : Rdg Try.prog ro n 88 x) : ∃ e : En, x = ecells e ∧ enOk e := by
  obtain ⟨hl, m, hf⟩ := rdg_struct Try.underlying88 h
  rw [co88] at hl
  obtain ⟨a, b, rfl⟩ : ∃ a b, x = [a, b] := by
    match x, hl with
    | [a, b], _ => exact ⟨a, b, rfl⟩
  obtain ⟨i0, h0, l0, u0⟩ := rdg_int Try.underlying38 (hf 0 _ rfl)
  obtain ⟨i1, h1, l1, u1⟩ := rdg_int Try.underlying40 (hf 1 _ rfl)
  simp at h0 h1
  have m0 : IntKind.u16.min = 0 := by decide
  have m1 : IntKind.u32.min = 0 := by decide
  have x0 : IntKind.u16.max = 65535 := by decide
  have x1 : IntKind.u32.max = 4294967295 := by decide
  rw [m0] at l0
  rw [m1] at l1
  rw [x0] at u0
  rw [x1] at u1
  obtain ⟨a, rfl⟩ := Int.eq_ofNat_of_zero_le l0
  obtain ⟨b, rfl⟩ := Int.eq_ofNat_of_zero_le l1
  exact ⟨(a, b), by simp [ecells, h0, h1], by omega, by omega⟩
theorem ens_of : ∀ {ess : List (List AVal)}, (∀ x ∈ ess, ∃ e : En, x = ecells e ∧ enOk e) → ∃ l : List En, ess = l.map ecells ∧ ∀ e ∈ l, enOk e
  | [], _ => ⟨[], rfl, by simp⟩
  | x :: ess, h => by
    obtain ⟨e, rfl, h1⟩ := h x (by simp)
    obtain ⟨l, rfl, h2⟩ := ens_of (ess := ess) (fun y hy => h y (by simp [hy]))
    exact ⟨e :: l, rfl, fun y hy => by rcases List.mem_cons.1 hy with rfl | hy; exact h1; exact h2 y hy⟩
theorem byte_of {ro n} {x : List AVal} (h : Rdg Try.prog ro n 5 x) : ∃ b : UInt8, x = [bcell b] := by
  obtain ⟨i, h0, l0, u0⟩ := rdg_int Try.underlying5 h
  have m0 : IntKind.u8.min = 0 := by decide
  have x0 : IntKind.u8.max = 255 := by decide
  rw [m0] at l0
  rw [x0] at u0
  obtain ⟨a, rfl⟩ := Int.eq_ofNat_of_zero_le l0
  exact ⟨UInt8.ofNat a, by rw [h0]; unfold bcell; rw [toNat_ofNat (by omega)]⟩
theorem bytes_of : ∀ {ess : List (List AVal)}, (∀ x ∈ ess, ∃ b : UInt8, x = [bcell b]) → ∃ bs : List UInt8, ess = bes bs
  | [], _ => ⟨[], rfl⟩
  | x :: ess, h => by
    obtain ⟨b, rfl⟩ := h x (by simp)
    obtain ⟨bs, rfl⟩ := bytes_of (ess := ess) (fun y hy => h y (by simp [hy]))
    exact ⟨b :: bs, rfl⟩
theorem absV_noSlc {v : Value} : ∀ o f l q, absV v ≠ .slc o f l q := by
  intro o f l q
  unfold absV
  split
  · split <;> simp
  · unfold absC
    split <;> (try split) <;> simp

theorem own : ownKnob Try.prog.godebug = none := by kernel_rfl
theorem laidOut : laidOutB Try.prog = true := by kernel_rfl

theorem bytes_lifted (os : Os) (started : os.Started) (H : Type) (enc : TypeId × Value → H) :
    ReturnsInHanded {} Try.checked os 3 .any (Ytomhcjiefmaopaa.Rows.gossipBytesSpec.pre6 enc Try.prog Try.f3 Ytomhcjiefmaopaa.Rows.gossipBytesRow.domain false) (Ytomhcjiefmaopaa.Rows.gossipBytesSpec.post enc Try.prog Try.f3 false true false false) := by
  refine returnsInHanded_of_change (C := Try.checked) own started (by kernel_rfl) Try.func3
    (ChangeSpec.witness6 (enc := enc) (C := Try.checked) false ⟨#[], #[.slice none 0 0, .slice none 0 0], []⟩ 8 (by kernel_rfl) (by kernel_rfl) (by kernel_rfl) (by kernel_rfl)) ?_
  intro W base args ds gs before hval0 hW hcnd _
  have hval : ∀ (j : Nat) t v, Try.f3.params[j]? = some t → args[j]? = some v → Value.okWide Try.prog W .any base t v := hval0
  have hW' := hW
  have hlt := hW.lt
  obtain ⟨p, q, hA0, hV, rfl, hfz, hnd⟩ := hW
  have hA : DataW.TrodAll enc Try.prog W 0 (fun _ => true) true Try.f3.params.toList args.toList ds p := hA0
  have hA1 := hA
  rw [Try.params3] at hA hval
  obtain ⟨v0, v1, d0, d1, p0, p1, rfl, rfl, rfl, h0, h1⟩ := trodAll_two hA
  obtain ⟨rfl, rfl⟩ := trodVars_none hV
  obtain ⟨ess, n, hx, hn, hsl⟩ := argSlice covAll (of_decide_eq_true (by kernel_rfl)) Try.underlying23 (by rw [co88]; decide) (hval 0 23 v0 rfl rfl) h0
  obtain ⟨l, rfl, hok⟩ := ens_of (fun x hm => en_of (hx x hm).2)
  obtain ⟨ess2, n2, hx2, hn2, hsl2⟩ := argSlice covAll (of_decide_eq_true (by kernel_rfl)) Try.underlying24 (by rw [co5]; decide) (hval 1 24 v1 rfl rfl) h1
  obtain ⟨bs, rfl⟩ := bytes_of (fun x hm => byte_of (hx2 x hm).2)
  have hE : ∀ h, Ens (cfgR (roW W)) h (absV v0) l := fun h => by
    have := hsl (cfgR (roW W)) h rfl
    rw [co88] at this
    exact this
  have hB : ∀ h, BS (cfgR (roW W)) h (absV v1) bs := fun h => by
    have := hsl2 (cfgR (roW W)) h rfl
    rw [co5] at this
    exact this
  obtain ⟨k, v, h', hq, rfl⟩ := law3 hE hok hB absV_noSlc
  refine (entry (c := cfg) sureC (W := W) (args := #[v0, v1]) (k := k) (v := .bool true) (h' := h') Try.func3 rfl rfl hq).mono fun e W' ⟨u, ι, he, hv, hb⟩ => ?_
  have hu : u = .bool true := hv
  subst hu
  refine ⟨_, he, post_below hW' (fun b sp hd => trodAll_mk1 (shut_bool Try.underlying4 true)) (trodAll_below laidOut hb (by kernel_rfl) hA1 (fun x hx => hlt x (by simpa using hx))) (by exact rfl) hb⟩

theorem gossip_bytes_holds : Ytomhcjiefmaopaa.Rows.GossipBytesSaid :=
  OpenClaim.holds_of_wide 3 Try.f3 rfl rfl rfl rfl rfl rfl rfl ⟨rfl, rfl, rfl, rfl, rfl⟩ rfl rfl rfl rfl rfl (by kernel_rfl) Try.func3 (by kernel_rfl)
    (of_decide_eq_true (by kernel_rfl)) (by unfold Func.isWrapper; first | (rw [if_pos (by decide +kernel)]; kernel_rfl) | (rw [if_neg (by decide +kernel)]; exact ⟨rfl, rfl⟩))
    (fun os started H enc _ => bytes_lifted os started H enc)
end Go.Proofs.Ytomhcjiefmaopaa
