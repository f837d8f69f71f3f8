/-
  A part of the proof of GossipBytes, over the seat Ytomhcjiefmaopaa: for every input the law returns true, and the input reads as it did.
-/
import Derived.Test.YtomhcjiefmaopaaR3C
set_option linter.all false
set_option maxRecDepth 100000
set_option maxHeartbeats 4000000
namespace Go.Proofs.Ytomhcjiefmaopaa
open Go Go.RowKit Go.Proofs

/-- a reader -/
def RdAt (h : AHeap) (r : Nat) (b : List UInt8) (a : Nat) (e : Int) : Prop := h.get r = some (.row 0 false [.str b, .int .i64 a, .int .i64 e]) ∧ r < h.next
/-- what reading leaves -/
def Rst (r : Nat) (h h' : AHeap) : Prop := h'.next = h.next ∧ ∀ o, o ≠ r → h'.get o = h.get o
theorem Rst.refl {r : Nat} {h : AHeap} : Rst r h h := ⟨rfl, fun _ _ => rfl⟩
theorem Rst.trans {r : Nat} {a b c : AHeap} (h : Rst r a b) (k : Rst r b c) : Rst r a c := ⟨k.1.trans h.1, fun o ho => (k.2 o ho).trans (h.2 o ho)⟩
theorem Rst.set {r : Nat} {h : AHeap} {x : AObj} : Rst r h (h.set r x) := ⟨rfl, fun o ho => by rw [AHeap.get_set, if_neg (by omega)]⟩
theorem RdAt.mk {h : AHeap} {r : Nat} {b : List UInt8} {a : Nat} {e : Int} (hr : r < h.next) : RdAt (h.set r (.row 0 false [.str b, .int .i64 a, .int .i64 e])) r b a e := ⟨by rw [AHeap.get_set]; simp, hr⟩

section
variable {ro : Nat → Option (List AVal)}

theorem left68 {h : AHeap} {r : Nat} {b : List UInt8} {a : Nat} {e : Int} (hr : RdAt h r b a e) (hl : b.length ≤ 2 ^ 40) (ha : a ≤ b.length) {Q : AVal → AHeap → Prop} (hq : Q (.int .i64 ((b.length - a : Nat) : Int)) h) : Ev (cfgR ro) 68 [.ptr r 0] h Q := by
  refine Ev.wp rfl rfl Try.func68 rfl ?_
  have e1 : IntKind.i64.wrap ((b.length : Int) - a) = ((b.length - a : Nat) : Int) := by rw [w64 (by omega) (by omega)]; omega
  obtain ⟨x, hx⟩ : ∃ x : Int, x = ((b.length - a : Nat) : Int) := ⟨_, rfl⟩
  rw [← hx] at e1 hq
  simp [Try.f68, hr.1, e1]
  exact hq

theorem fail69 {h : AHeap} {r : Nat} {b : List UInt8} {a : Nat} {e x : Int} (hr : RdAt h r b a e) {Q : AVal → AHeap → Prop} (hq : ∀ h', RdAt h' r b a (if e = 0 then x else e) → Rst r h h' → Q (.int .u64 0) h') : Ev (cfgR ro) 69 [.ptr r 0, .int .i64 x] h Q := by
  refine Ev.wp rfl rfl Try.func69 rfl ?_
  simp [Try.f69, hr.1]
  refine orD (fun h1 => ?_) (fun h1 => ?_)
  · subst h1
    simp [hr.1]
    exact hq _ (.mk hr.2) .set
  · simp
    exact hq _ (by rw [if_neg h1]; exact hr) .refl

theorem err38 {h : AHeap} {r : Nat} {b : List UInt8} {a : Nat} {e : Int} (hr : RdAt h r b a e) {Q : AVal → AHeap → Prop} (hq : Q (.int .i64 e) h) : Ev (cfgR ro) 38 [.ptr r 0] h Q := by
  refine Ev.wp rfl rfl Try.func38 rfl ?_
  simp [Try.f38, hr.1]
  exact hq

theorem done39 {h : AHeap} {r : Nat} {b : List UInt8} {a : Nat} {e : Int} (hr : RdAt h r b a e) (hl : b.length ≤ 2 ^ 40) (ha : a ≤ b.length) {Q : AVal → AHeap → Prop} (hq : Q (.int .i64 (if e = 0 ∧ a < b.length then 15 else e)) h) : Ev (cfgR ro) 39 [.ptr r 0] h Q := by
  refine Ev.wp rfl rfl Try.func39 rfl ?_
  simp [Try.f39, hr.1]
  refine orD (fun h1 => ?_) (fun h1 => ?_)
  · subst h1
    simp
    refine left68 hr hl ha ?_
    simp [hr.1]
    obtain ⟨x, hx⟩ : ∃ x, x = b.length - a := ⟨_, rfl⟩
    refine orD (fun h2 => ?_) (fun h2 => ?_)
    · simp
      rw [if_pos ⟨rfl, by omega⟩] at hq; exact hq
    · simp [hr.1]
      rw [if_neg (by omega)] at hq; exact hq
  · simp [hr.1, h1]
    rw [if_neg (by omega)] at hq; exact hq

theorem from35 {h : AHeap} {v : AVal} {bs : List UInt8} (hv : BS (cfgR ro) h v bs) {Q : AVal → AHeap → Prop} (hq : ∀ h' r, r = h.next → RdAt h' r bs 0 0 → Old h h' → h'.next = h.next + 1 → Q (.ptr r 0) h') : Ev (cfgR ro) 35 [v] h Q := by
  refine Ev.wp rfl rfl Try.func35 rfl ?_
  have hc : convR (cfgR ro) h 24 9 v = .ok (.str bs) := hv.conv un24 un9 un5
  simp [Try.f35, -convR, hc]
  exact hq _ _ rfl ⟨by simp, by simp⟩ ((Old.refl h).push _) (by simp)

theorem byte36 {h : AHeap} {r : Nat} {b : List UInt8} {a : Nat} {e : Int} (hr : RdAt h r b a e) (hl : b.length ≤ 2 ^ 40) (ha : a ≤ b.length) {Q : AVal → AHeap → Prop}
    (hq1 : e = 0 → ∀ (hlt : a < b.length) h', RdAt h' r b (a + 1) 0 → Rst r h h' → Q (.int .u8 b[a].toNat) h') (hq2 : e = 0 → ¬ a < b.length → ∀ h', RdAt h' r b a 14 → Rst r h h' → Q (.int .u8 0) h') (hq3 : e ≠ 0 → Q (.int .u8 0) h) :
    Ev (cfgR ro) 36 [.ptr r 0] h Q := by
  refine Ev.wp rfl rfl Try.func36 rfl ?_
  simp [Try.f36, hr.1]
  refine orD (fun h1 => ?_) (fun h1 => ?_)
  · subst h1
    simp
    refine left68 hr hl ha ?_
    simp
    refine orD (fun h2 => ?_) (fun h2 => ?_)
    · simp
      refine fail69 hr (fun h' hr' hs' => ?_)
      simp
      exact hq2 rfl (by omega) _ hr' hs'
    · have hlt : a < b.length := by omega
      have e1 : IntKind.i64.wrap ((a : Int) + 1) = ((a + 1 : Nat) : Int) := by rw [w64 (by omega) (by omega)]; omega
      have e2 : IntKind.i64.wrap (((a + 1 : Nat) : Int) - 1) = (a : Int) := by rw [w64 (by omega) (by omega)]; omega
      obtain ⟨x, hx⟩ : ∃ x : Int, x = ((a + 1 : Nat) : Int) := ⟨_, rfl⟩
      rw [← hx] at e1 e2
      simp [hr.1, e1, e2, ix_nat hlt, List.getElem?_eq_getElem hlt]
      exact hq1 rfl hlt _ ⟨by rw [AHeap.get_set]; simp [hx], hr.2⟩ .set
  · simp [h1]
    exact hq3 h1

theorem wpow {k : Nat} (hk : k < 9) {n c : Nat} (hn : n < 128 ^ k) (hc : c < 128) : ior .u64 (n : Int) (ishl .u64 (c : Int) ((7 * k : Nat) : Int)) = ((n + c * 128 ^ k : Nat) : Int) ∧ n + c * 128 ^ k < 128 ^ (k + 1) := by
  have h1 : (128 : Nat) ^ k = 2 ^ (7 * k) := by rw [Nat.pow_mul]
  have h4 : n + c * 128 ^ k < 128 ^ (k + 1) := by
    rw [Nat.pow_succ]
    have : c * 128 ^ k ≤ 127 * 128 ^ k := Nat.mul_le_mul_right _ (by omega)
    omega
  have h5 : (128 : Nat) ^ (k + 1) ≤ 128 ^ 9 := Nat.pow_le_pow_right (by decide) (by omega)
  have h6 : (128 : Nat) ^ 9 = 2 ^ 63 := by decide
  refine ⟨?_, h4⟩
  have h2 : ishl .u64 (c : Int) ((7 * k : Nat) : Int) = ((c * 2 ^ (7 * k) : Nat) : Int) := by
    unfold ishl
    show IntKind.u64.wrap ((c : Int) * 2 ^ (min ((7 * k : Nat) : Int).toNat 64)) = _
    have hm : min ((7 * k : Nat) : Int).toNat 64 = 7 * k := by simp; omega
    rw [hm, wrap64]
    rw [h1] at h4
    have : ((c * 2 ^ (7 * k) : Nat) : Int) = (c : Int) * 2 ^ (7 * k) := by simp
    rw [← this]; omega
  rw [h2]
  unfold ior
  show IntKind.u64.wrap ((BitVec.ofInt 64 (n : Int) ||| BitVec.ofInt 64 ((c * 2 ^ (7 * k) : Nat) : Int)).toNat : Int) = _
  have t : ∀ m : Nat, m < 2 ^ 63 → (BitVec.ofInt 64 (m : Int)).toNat = m := fun m hm => by simp; omega
  rw [h1] at hn h4 ⊢
  rw [BitVec.toNat_or, t _ (by omega), t _ (by omega), Nat.or_comm, Nat.mul_comm c, ← Nat.two_pow_add_eq_or_of_lt hn, wrap64]
  rw [Nat.mul_comm c] at h4
  generalize 2 ^ (7 * k) * c = X at h4 ⊢
  omega

theorem num37 {h : AHeap} {r : Nat} {b : List UInt8} {a limit : Nat} {e : Int} (hr : RdAt h r b a e) (hl : b.length ≤ 2 ^ 40) (ha : a ≤ b.length) (hlim : limit < 2 ^ 63) {Q : AVal → AHeap → Prop}
    (hq1 : e = 0 → ∀ v p x h', rdNum b a limit = (v, p, x) → RdAt h' r b p x → Rst r h h' → Q (.int .u64 v) h') (hq3 : e ≠ 0 → Q (.int .u64 0) h) :
    Ev (cfgR ro) 37 [.ptr r 0, .int .u64 limit] h Q := by
  refine Ev.wp rfl rfl Try.func37 rfl ?_
  simp [Try.f37, hr.1]
  refine orD (fun h1 => ?_) (fun h1 => ?_)
  · subst h1
    simp
    obtain ⟨I, hI⟩ : ∃ I : Nat → List AVal → AHeap → Prop, I = fun m env h' => ∃ (k n : Nat) (z z6 z12 : AVal), k + m = 10 ∧ k ≤ 9 ∧ n < 128 ^ k ∧ h' = h ∧ rdGo b a limit (9 - k) k n = rdNum b a limit ∧ env = (.ptr r 0 :: .int .u64 limit :: .dead :: .dead :: .dead :: .int .u64 n :: z6 :: .int .i64 k :: .dead :: .dead :: .dead :: .dead :: z12 :: .dead :: .dead :: .dead :: .dead :: .dead :: .dead :: .dead :: .dead :: .dead :: .dead :: .dead :: .dead :: .dead :: .dead :: .dead :: .dead :: .dead :: .dead :: .dead :: .dead :: .dead :: .dead :: .dead :: .dead :: .dead :: .dead :: .dead :: .dead :: .dead :: .dead :: .dead :: .dead :: .dead :: z :: .dead :: .dead :: .dead :: .dead :: .dead :: .dead :: .dead :: .dead :: .dead :: .dead :: .dead :: .dead :: .dead :: .dead :: .dead :: .dead :: .dead :: .dead :: .dead :: .dead :: .dead :: .dead :: .dead :: .dead :: []) := ⟨_, rfl⟩
    refine label_loop I (fun _ _ => rfl) rfl ?_ 10 (by rw [hI]; exact ⟨0, 0, _, _, _, rfl, by decide, by decide, rfl, rfl, rfl⟩)
    rintro m env h' hrec hi
    rw [hI] at hi
    obtain ⟨k, n, z, z6, z12, hkm, hk, hn, rfl, hgo, rfl⟩ := hi
    have hq1 := hq1 rfl
    simp
    refine orD (fun h2 => ?_) (fun h2 => ?_)
    · have h2 : k = 9 := by omega
      subst h2
      simp
      refine fail69 hr (fun h2 hr2 hs2 => ?_)
      simp
      exact hq1 0 a 11 h2 hgo.symm hr2 hs2
    · simp
      refine left68 hr hl ha ?_
      simp
      rw [show 9 - k = (9 - (k + 1)) + 1 by omega, rdGo] at hgo
      refine orD (fun h3 => ?_) (fun h3 => ?_)
      · simp
        rw [List.getElem?_eq_none (by omega)] at hgo
        refine fail69 hr (fun h2 hr2 hs2 => ?_)
        simp
        exact hq1 0 a 14 h2 hgo.symm hr2 hs2
      · have hak : a + k < b.length := by omega
        rw [List.getElem?_eq_getElem hak] at hgo
        simp only at hgo
        obtain ⟨d, hd⟩ : ∃ d, d = b[a + k].toNat := ⟨_, rfl⟩
        have hd256 : d < 256 := by rw [hd]; exact b[a + k].toNat_lt
        have e1 : IntKind.i64.wrap ((a : Int) + k) = ((a + k : Nat) : Int) := by rw [w64 (by omega) (by omega)]; omega
        obtain ⟨ak, hak'⟩ : ∃ ak, ak = a + k := ⟨_, rfl⟩
        have hix : idxNat (.int .i64 ((a + k : Nat) : Int)) b.length = .ok (a + k) := ix_nat hak
        have hbe : b[a + k]? = some b[a + k] := List.getElem?_eq_getElem hak
        obtain ⟨p1, p2⟩ := wpow (k := k) (by omega) hn (show d % 128 < 128 from Nat.mod_lt _ (by decide))
        have e2 : iand .u8 (d : Int) 127 = ((d % 128 : Nat) : Int) := and127 d hd256
        have e3 : IntKind.u64.wrap ((d % 128 : Nat) : Int) = ((d % 128 : Nat) : Int) := by rw [wrap64]; omega
        have e4 : IntKind.i64.wrap (7 * (k : Int)) = ((7 * k : Nat) : Int) := by rw [w64 (by omega) (by omega)]; omega
        have e5 : IntKind.i64.wrap ((k : Int) + 1) = ((k + 1 : Nat) : Int) := by rw [w64 (by omega) (by omega)]; omega
        obtain ⟨q1, hq1'⟩ : ∃ x : Int, x = ((a + k : Nat) : Int) := ⟨_, rfl⟩
        obtain ⟨q2, hq2'⟩ : ∃ x : Int, x = ((d % 128 : Nat) : Int) := ⟨_, rfl⟩
        obtain ⟨q3, hq3'⟩ : ∃ x : Int, x = ((7 * k : Nat) : Int) := ⟨_, rfl⟩
        obtain ⟨q4, hq4'⟩ : ∃ x : Int, x = ((k + 1 : Nat) : Int) := ⟨_, rfl⟩
        obtain ⟨n', hn'⟩ : ∃ x : Nat, x = n + d % 128 * 128 ^ k := ⟨_, rfl⟩
        rw [← hq1'] at e1 hix
        rw [← hq2'] at e2 e3 p1
        rw [← hq3'] at e4 p1
        rw [← hq4'] at e5
        rw [← hn'] at p1 p2
        rw [← hd, ← hn'] at hgo
        have e6 : IntKind.u64.wrap q3 = q3 := by rw [wrap64]; omega
        have hq3n : 0 ≤ q3 := by omega
        have hk1 : 9 - (k + 1) + 1 + k = 9 := by omega
        simp [hr.1, e1, hix, hbe, ← hd, e2, e3, e4, e5, e6, p1, hq3n]
        refine orD (fun h4 => ?_) (fun h4 => ?_)
        · rw [if_neg (by omega)] at hgo
          simp
          exact hrec (m - 1) (by omega) _ _ (by rw [hI]; exact ⟨k + 1, n', _, _, _, by omega, by omega, p2, rfl, hgo, by rw [hq4']⟩)
        · rw [if_pos (by omega)] at hgo
          simp
          refine orD (fun h5 => ?_) (fun h5 => ?_)
          · simp [h5]
            refine orD (fun h6 => ?_) (fun h6 => ?_)
            · simp
              rw [if_pos ⟨by omega, by omega⟩] at hgo
              refine fail69 hr (fun h2 hr2 hs2 => ?_)
              simp
              exact hq1 0 a 11 h2 hgo.symm hr2 hs2
            · rw [if_neg (by omega)] at hgo
              simp
              refine orD (fun h7 => ?_) (fun h7 => ?_)
              · simp
                rw [if_pos (by omega)] at hgo
                refine fail69 hr (fun h2 hr2 hs2 => ?_)
                simp
                exact hq1 0 a 10 h2 hgo.symm hr2 hs2
              · rw [if_neg (by omega)] at hgo
                have e7 : IntKind.i64.wrap ((a : Int) + q4) = ((a + k + 1 : Nat) : Int) := by rw [w64 (by omega) (by omega)]; omega
                obtain ⟨q5, hq5'⟩ : ∃ x : Int, x = ((a + k + 1 : Nat) : Int) := ⟨_, rfl⟩
                rw [← hq5'] at e7
                simp [hr.1, e7]
                exact hq1 n' (a + k + 1) 0 _ hgo.symm ⟨by rw [get_set_self, hq5']; rfl, hr.2⟩ .set
          · rw [if_neg (by omega)] at hgo
            simp [h5]
            refine orD (fun h7 => ?_) (fun h7 => ?_)
            · simp
              rw [if_pos (by omega)] at hgo
              refine fail69 hr (fun h2 hr2 hs2 => ?_)
              simp
              exact hq1 0 a 10 h2 hgo.symm hr2 hs2
            · rw [if_neg (by omega)] at hgo
              have e7 : IntKind.i64.wrap ((a : Int) + q4) = ((a + k + 1 : Nat) : Int) := by rw [w64 (by omega) (by omega)]; omega
              obtain ⟨q5, hq5'⟩ : ∃ x : Int, x = ((a + k + 1 : Nat) : Int) := ⟨_, rfl⟩
              rw [← hq5'] at e7
              simp [hr.1, e7]
              exact hq1 n' (a + k + 1) 0 _ hgo.symm ⟨by rw [get_set_self, hq5']; rfl, hr.2⟩ .set
  · simp [h1]
    exact hq3 h1
end
end Go.Proofs.Ytomhcjiefmaopaa
