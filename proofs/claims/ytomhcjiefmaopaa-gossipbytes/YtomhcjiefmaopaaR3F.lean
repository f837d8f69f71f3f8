/-
  A part of the proof of GossipBytes, over the seat Ytomhcjiefmaopaa: for every input the law returns true, and the input reads as it did.
-/
import Derived.Test.YtomhcjiefmaopaaR3E
set_option linter.all false
set_option maxRecDepth 100000
set_option maxHeartbeats 4000000
namespace Go.Proofs.Ytomhcjiefmaopaa
open Go Go.RowKit Go.Proofs

abbrev En := Nat × Nat
def ecells (e : En) : List AVal := [.int .u16 e.1, .int .u32 e.2]
def enOk (e : En) : Prop := e.1 < 65536 ∧ e.2 < 4294967296
def okB (l : List En) (i : Nat) : Bool := decide (1 ≤ (l.getD i (0, 0)).2) && decide ((l.getD i (0, 0)).2 ≤ 268435456) && (decide (i = 0) || decide ((l.getD (i - 1) (0, 0)).1 < (l.getD i (0, 0)).1))
def rightB (l : List En) : Bool := (List.range l.length).all (okB l)
theorem right_false {l : List En} {i : Nat} (hi : i < l.length) (h : okB l i = false) : rightB l = false := by
  unfold rightB; rw [List.all_eq_false]; exact ⟨i, List.mem_range.2 hi, by simp [h]⟩
theorem right_true {l : List En} {i : Nat} (hi : l.length ≤ i) (h : ∀ j, j < i → j < l.length → okB l j = true) : rightB l = true := by
  unfold rightB; rw [List.all_eq_true]; intro j hj; have := List.mem_range.1 hj; exact h j (by omega) this

def Ens (c : Cfg) (h : AHeap) (v : AVal) (l : List En) : Prop := Sl c h 2 v (l.map ecells)
theorem Ens.at {l : List En} {i : Nat} (hi : i < l.length) : (l.map ecells)[i]? = some (ecells (l.getD i (0, 0))) := by simp [hi]

section
variable {ro : Nat → Option (List AVal)}

theorem readnum43 {h : AHeap} {v : AVal} {b : List UInt8} {a limit : Nat} (hv : BS (cfgR ro) h v b) (hl : b.length ≤ 2 ^ 40) (ha : a ≤ 2 ^ 40) (hlim : limit < 2 ^ 63) {Q : AVal → AHeap → Prop}
    (hq : ∀ w p x : Nat, rdNum b a limit = (w, p, x) → Q (.tuple [.int .u64 w, .int .i64 p, .int .i64 x]) h) : Ev (cfgR ro) 43 [v, .int .i64 a, .int .u64 limit] h Q := by
  refine Ev.wp rfl rfl Try.func43 rfl ?_
  have hL : lenR (cfgR ro) h 24 v = .ok (.int .i64 b.length) := hv.lenR un24
  have hX : ∀ i, i < b.length → indexAddrR Try.prog 24 v (.int .i64 (i : Int)) = .ok (elp v 1 i) := fun i hi => hv.idx un24 sz5 hi
  have hA : ∀ i (hi : i < b.length), loadR (cfgR ro) h 5 (elp v 1 i) = .ok (.int .u8 b[i].toNat) := fun i hi => hv.load hi ag5
  simp [Try.f43]
  obtain ⟨I, hI⟩ : ∃ I : Nat → List AVal → AHeap → Prop, I = fun m env h' => ∃ (k n u : Nat) (z : AVal), k + m = 9 ∧ n < 128 ^ k ∧ u = 128 ^ k ∧ h' = h ∧ rdGo b a limit (9 - k) k n = rdNum b a limit ∧ env = (v :: .int .i64 a :: .int .u64 limit :: .dead :: .dead :: .dead :: .dead :: .dead :: .dead :: .int .u64 n :: .int .u64 u :: .int .i64 k :: .dead :: .dead :: .dead :: .dead :: .dead :: .dead :: .dead :: .dead :: .dead :: .dead :: .dead :: .dead :: .dead :: .dead :: .dead :: .dead :: .dead :: .dead :: .dead :: .dead :: .dead :: .dead :: .dead :: .dead :: .dead :: .dead :: .dead :: .dead :: .dead :: .dead :: .dead :: .dead :: .dead :: .dead :: .dead :: .dead :: .dead :: .dead :: .dead :: .dead :: .dead :: .dead :: .dead :: .dead :: .dead :: .dead :: []) := ⟨_, rfl⟩
  refine loop_of I ?_ 9 (by rw [hI]; exact ⟨0, 0, 1, .dead, rfl, by decide, rfl, rfl, rfl, rfl⟩)
  rintro m env h' hi
  rw [hI] at hi
  obtain ⟨k, n, u, z, hkm, hn, hu, rfl, hgo, rfl⟩ := hi
  simp
  refine orD (fun h1 => ?_) (fun h1 => ?_)
  · rw [show 9 - k = (9 - (k + 1)) + 1 by omega, rdGo] at hgo
    have e1 : IntKind.i64.wrap ((a : Int) + k) = ((a + k : Nat) : Int) := by rw [w64 (by omega) (by omega)]; omega
    obtain ⟨ak, hak'⟩ : ∃ x : Int, x = ((a + k : Nat) : Int) := ⟨_, rfl⟩
    rw [← hak'] at e1
    simp [e1, hL]
    refine orD (fun h2 => ?_) (fun h2 => ?_)
    · rw [List.getElem?_eq_none (by omega)] at hgo
      simp
      exact hq 0 a 14 hgo.symm
    · have hak : a + k < b.length := by omega
      rw [List.getElem?_eq_getElem hak] at hgo
      simp only at hgo
      obtain ⟨d, hd⟩ : ∃ d, d = b[a + k].toNat := ⟨_, rfl⟩
      have hd256 : d < 256 := by rw [hd]; exact b[a + k].toNat_lt
      have hx := hX (a + k) hak
      have hy := hA (a + k) hak
      rw [← hd] at hy hgo
      rw [← hak'] at hx
      obtain ⟨p1, p2⟩ := wpow (k := k) (by omega) hn (show d % 128 < 128 from Nat.mod_lt _ (by decide))
      have h5 : (128 : Nat) ^ (k + 1) ≤ 128 ^ 9 := Nat.pow_le_pow_right (by decide) (by omega)
      have h6 : (128 : Nat) ^ 9 = 2 ^ 63 := by decide
      obtain ⟨n', hn'⟩ : ∃ x : Nat, x = n + d % 128 * 128 ^ k := ⟨_, rfl⟩
      rw [← hn'] at hgo p2
      have hu2 : u * 128 = 128 ^ (k + 1) := by rw [hu, Nat.pow_succ]
      have f0 : d % 128 * u < 2 ^ 63 := by rw [hu]; omega
      obtain ⟨mu, hmu⟩ : ∃ x : Nat, x = d % 128 * u := ⟨_, rfl⟩
      have f1 : IntKind.u64.wrap ((d : Int) % 128) = ((d % 128 : Nat) : Int) := by rw [wrap64]; omega
      obtain ⟨dm, hdm⟩ : ∃ x : Nat, x = d % 128 := ⟨_, rfl⟩
      have f2 : IntKind.u64.wrap ((dm : Int) * (u : Int)) = (mu : Int) := by
        have : ((dm : Int) * (u : Int)) = ((d % 128 * u : Nat) : Int) := by rw [hdm]; simp
        rw [this, ← hmu, wrap64]; omega
      have f3 : IntKind.u64.wrap ((n : Int) + (mu : Int)) = (n' : Int) := by rw [wrap64, hn', hmu, hu] ; rw [hmu, hu] at *; omega
      have f4 : IntKind.u64.wrap ((u : Int) * 128) = ((u * 128 : Nat) : Int) := by rw [wrap64]; omega
      have f5 : IntKind.i64.wrap ((k : Int) + 1) = ((k + 1 : Nat) : Int) := by rw [w64 (by omega) (by omega)]; omega
      have f6 : Int.tmod (d : Int) 128 = ((d % 128 : Nat) : Int) := by rw [Int.tmod_eq_emod_of_nonneg (by omega)]; omega
      have f7 : IntKind.u64.wrap (dm : Int) = (dm : Int) := by rw [wrap64]; omega
      rw [← hdm] at f1 f6
      obtain ⟨u2, hu2'⟩ : ∃ x : Nat, x = u * 128 := ⟨_, rfl⟩
      rw [← hu2'] at f4
      obtain ⟨k1, hk1⟩ : ∃ x : Int, x = ((k + 1 : Nat) : Int) := ⟨_, rfl⟩
      rw [← hk1] at f5
      simp [e1, hx, hy, f1, f2, f3, f4, f6, f7]
      refine orD (fun h4 => ?_) (fun h4 => ?_)
      · rw [if_pos (by omega)] at hgo
        simp
        have fin : ¬ (d = 0 ∧ 0 < k) → wp (cfgR ro) 43 .skip (fun _ _ => True) noE (fun _ _ => True) noE [] h' := fun _ => trivial
        refine orD (fun h6 => ?_) (fun h6 => ?_)
        · simp [h6]
          refine orD (fun h7 => ?_) (fun h7 => ?_)
          · rw [if_pos ⟨by omega, by omega⟩] at hgo
            simp
            exact hq 0 a 11 hgo.symm
          · rw [if_neg (by omega)] at hgo
            simp
            refine orD (fun h8 => ?_) (fun h8 => ?_)
            · rw [if_pos (by omega)] at hgo
              simp
              exact hq 0 a 10 hgo.symm
            · rw [if_neg (by omega)] at hgo
              have g1 : IntKind.i64.wrap (ak + 1) = ((a + k + 1 : Nat) : Int) := by rw [w64 (by omega) (by omega)]; omega
              simp [e1, g1]
              exact hq n' (a + k + 1) 0 hgo.symm
        · rw [if_neg (by omega)] at hgo
          simp [h6]
          refine orD (fun h8 => ?_) (fun h8 => ?_)
          · rw [if_pos (by omega)] at hgo
            simp
            exact hq 0 a 10 hgo.symm
          · rw [if_neg (by omega)] at hgo
            have g1 : IntKind.i64.wrap (ak + 1) = ((a + k + 1 : Nat) : Int) := by rw [w64 (by omega) (by omega)]; omega
            simp [e1, g1]
            exact hq n' (a + k + 1) 0 hgo.symm
      · rw [if_neg (by omega)] at hgo
        simp [f5]
        exact .mk (m := m - 1) (by omega) (by rw [hI]; exact ⟨k + 1, n', u2, .dead, by omega, p2, by rw [hu2', hu2], rfl, hgo, by rw [hk1]⟩)
  · have hk : k = 9 := by omega
    subst hk
    simp
    exact hq 0 a 11 hgo.symm
end
end Go.Proofs.Ytomhcjiefmaopaa
