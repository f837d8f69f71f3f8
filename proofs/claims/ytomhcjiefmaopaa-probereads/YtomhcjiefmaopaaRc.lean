/-
  A part of the proof of ProbeReads, over the seat Ytomhcjiefmaopaa: for every input the law returns true, and the input reads as it did.
-/
import Derived.Test.YtomhcjiefmaopaaRb
set_option linter.all false
set_option linter.all false
set_option maxRecDepth 100000
set_option maxHeartbeats 4000000
namespace Go.Proofs.Ytomhcjiefmaopaa
open Go Go.RowKit Go.Proofs
section
variable {ro : Nat → Option (List AVal)}

theorem right8 {h : AHeap} {v : AVal} {l : List En} (hv : Ens (cfgR ro) h v l) (hn : l.length ≤ 2 ^ 40) {Q : AVal → AHeap → Prop} (hq : Q (.bool (rightB l)) h) : Ev (cfgR ro) 8 [v] h Q := by
  refine Ev.wp rfl rfl Try.func8 rfl ?_
  have hL : lenR (cfgR ro) h 26 v = .ok (.int .i64 l.length) := by have := hv.lenR (t := 26) un26; simpa using this
  have hX : ∀ i, i < l.length → indexAddrR Try.prog 26 v (.int .i64 (i : Int)) = .ok (elp v 2 i) := fun i hi => hv.idx un26 sz89 (by simpa using hi)
  have hO : ∀ i d, i < l.length → addOff (elp v 2 i) d = .ok (elpo v 2 i d) := fun i d hi => elp_off hv (by simpa using hi)
  have hA0 : ∀ i (hi : i < l.length), loadR (cfgR ro) h 38 (elpo v 2 i 0) = .ok (.int .u16 (l.getD i (0, 0)).1) := fun i hi => hv.loadF (Ens.at hi) rfl ag38
  have hA1 : ∀ i (hi : i < l.length), loadR (cfgR ro) h 40 (elpo v 2 i 1) = .ok (.int .u32 (l.getD i (0, 0)).2) := fun i hi => hv.loadF (Ens.at hi) rfl ag40
  simp [Try.f8]
  obtain ⟨I, hI⟩ : ∃ I : Nat → List AVal → AHeap → Prop, I = fun m env h' => ∃ (i : Nat), i + m = l.length ∧ h' = h ∧ (∀ j, j < i → j < l.length → okB l j = true) ∧ env = (v :: .dead :: .dead :: .int .i64 i :: .dead :: .dead :: .dead :: .dead :: .dead :: .dead :: .dead :: .dead :: .dead :: .dead :: .dead :: .dead :: .dead :: .dead :: .dead :: .dead :: .dead :: .dead :: .dead :: .dead :: .dead :: .dead :: .dead :: .dead :: .dead :: .dead :: .dead :: .dead :: .dead :: .dead :: .dead :: .dead :: .dead :: .dead :: .dead :: .dead :: []) := ⟨_, rfl⟩
  refine loop_of I ?_ l.length (by rw [hI]; exact ⟨0, by simp, rfl, by simp, rfl⟩)
  rintro m env h' hi
  rw [hI] at hi
  obtain ⟨i, hin, rfl, hok, rfl⟩ := hi
  have hw : IntKind.i64.wrap ((i : Int) + 1) = ((i + 1 : Nat) : Int) := by rw [w64 (by omega) (by omega)]; omega
  simp [hL]
  refine orD (fun h1 => ?_) (fun h1 => ?_)
  · obtain ⟨i1, hi1⟩ : ∃ x : Int, x = ((i + 1 : Nat) : Int) := ⟨_, rfl⟩
    rw [← hi1] at hw
    have good : okB l i = true → I (m - 1) (v :: .dead :: .dead :: .int .i64 i1 :: .dead :: .dead :: .dead :: .dead :: .dead :: .dead :: .dead :: .dead :: .dead :: .dead :: .dead :: .dead :: .dead :: .dead :: .dead :: .dead :: .dead :: .dead :: .dead :: .dead :: .dead :: .dead :: .dead :: .dead :: .dead :: .dead :: .dead :: .dead :: .dead :: .dead :: .dead :: .dead :: .dead :: .dead :: .dead :: .dead :: []) h' := by
      intro hb
      rw [hI]
      refine ⟨i + 1, by omega, rfl, fun j hj hl => ?_, by rw [hi1]⟩
      by_cases hji : j = i
      · subst hji; exact hb
      · exact hok j (by omega) hl
    have bad : okB l i = false → Q (.bool false) h' := fun hb => by rw [right_false h1 hb] at hq; exact hq
    have hx := hX i h1
    have ho0 := hO i 0 h1
    have ho1 := hO i 1 h1
    have ha0 := hA0 i h1
    have ha1 := hA1 i h1
    have hprev : 0 < i → ∃ p, p = (l.getD (i - 1) (0, 0)).1 ∧ IntKind.i64.wrap ((i : Int) - 1) = ((i - 1 : Nat) : Int) := fun h0 => ⟨_, rfl, by rw [w64 (by omega) (by omega)]; omega⟩
    unfold okB at good bad
    obtain ⟨s, hs⟩ : ∃ s, s = (l.getD i (0, 0)).2 := ⟨_, rfl⟩
    obtain ⟨r, hr⟩ : ∃ r, r = (l.getD i (0, 0)).1 := ⟨_, rfl⟩
    obtain ⟨p, hp⟩ : ∃ r, r = (l.getD (i - 1) (0, 0)).1 := ⟨_, rfl⟩
    rw [← hs, ← hr, ← hp] at good bad
    rw [← hr] at ha0
    rw [← hs] at ha1
    simp [hx, ho1, ha1]
    refine orD (fun h2 => ?_) (fun h2 => ?_)
    · simp [h2]
      exact bad (by simp; intro h3; omega)
    simp [h2, hx, ho1, ha1]
    refine orD (fun h3 => ?_) (fun h3 => ?_)
    · simp
      exact bad (by simp; intro _ h4; omega)
    simp [h2, h3]
    refine orD (fun h4 => ?_) (fun h4 => ?_)
    · have h4' : 0 < i := by omega
      have hwp : IntKind.i64.wrap ((i : Int) - 1) = ((i - 1 : Nat) : Int) := by rw [w64 (by omega) (by omega)]; omega
      have hxp := hX (i - 1) (by omega)
      have hop := hO (i - 1) 0 (by omega)
      have hap := hA0 (i - 1) (by omega)
      rw [← hp] at hap
      obtain ⟨ip, hip⟩ : ∃ x : Int, x = ((i - 1 : Nat) : Int) := ⟨_, rfl⟩
      rw [← hip] at hwp hxp
      simp [h4', hwp, hxp, hop, hap, hx, ho0, ha0]
      refine orD (fun h5 => ?_) (fun h5 => ?_)
      · simp
        exact bad (by simp; intro _ _; omega)
      · simp [hw]
        exact .mk (m := m - 1) (by omega) (good (by simp; omega))
    · simp [h4, hw]
      exact .mk (m := m - 1) (by omega) (good (by simp; omega))
  · simp
    rw [right_true (by omega) hok] at hq; exact hq

theorem right40 {h : AHeap} {v : AVal} {l : List En} (hv : Ens (cfgR ro) h v l) (hn : l.length ≤ 2 ^ 40) {Q : AVal → AHeap → Prop} (hq : Q (.bool (rightB l)) h) : Ev (cfgR ro) 40 [v] h Q := by
  refine Ev.wp rfl rfl Try.func40 rfl ?_
  have hL : lenR (cfgR ro) h 23 v = .ok (.int .i64 l.length) := by have := hv.lenR (t := 23) un23; simpa using this
  have hX : ∀ i, i < l.length → indexAddrR Try.prog 23 v (.int .i64 (i : Int)) = .ok (elp v 2 i) := fun i hi => hv.idx un23 sz88 (by simpa using hi)
  have hO : ∀ i d, i < l.length → addOff (elp v 2 i) d = .ok (elpo v 2 i d) := fun i d hi => elp_off hv (by simpa using hi)
  have hA : ∀ i (hi : i < l.length), loadR (cfgR ro) h 88 (elp v 2 i) = .ok (.agg (ecells (l.getD i (0, 0)))) := fun i hi => hv.load (Ens.at hi) ag88 sz88
  have hA0 : ∀ i (hi : i < l.length), loadR (cfgR ro) h 38 (elpo v 2 i 0) = .ok (.int .u16 (l.getD i (0, 0)).1) := fun i hi => hv.loadF (Ens.at hi) rfl ag38
  simp [Try.f40, hL]
  obtain ⟨I, hI⟩ : ∃ I : Nat → List AVal → AHeap → Prop, I = fun m env h' => ∃ (i : Nat), i + m = l.length ∧ h' = h ∧ (∀ j, j < i → j < l.length → okB l j = true) ∧ env = (v :: .dead :: .dead :: .dead :: .dead :: v :: .int .i64 l.length :: .int .i64 i :: .dead :: .dead :: .dead :: .dead :: .dead :: .dead :: .dead :: .dead :: .dead :: .dead :: .dead :: .dead :: .dead :: .dead :: .dead :: .dead :: .dead :: .dead :: .dead :: .dead :: .dead :: .dead :: .dead :: .dead :: .dead :: .dead :: .dead :: .dead :: []) := ⟨_, rfl⟩
  refine loop_of I ?_ l.length (by rw [hI]; exact ⟨0, by simp, rfl, by simp, rfl⟩)
  rintro m env h' hi
  rw [hI] at hi
  obtain ⟨i, hin, rfl, hok, rfl⟩ := hi
  have hw : IntKind.i64.wrap ((i : Int) + 1) = ((i + 1 : Nat) : Int) := by rw [w64 (by omega) (by omega)]; omega
  simp
  refine orD (fun h1 => ?_) (fun h1 => ?_)
  · obtain ⟨i1, hi1⟩ : ∃ x : Int, x = ((i + 1 : Nat) : Int) := ⟨_, rfl⟩
    rw [← hi1] at hw
    have good : okB l i = true → I (m - 1) (v :: .dead :: .dead :: .dead :: .dead :: v :: .int .i64 l.length :: .int .i64 i1 :: .dead :: .dead :: .dead :: .dead :: .dead :: .dead :: .dead :: .dead :: .dead :: .dead :: .dead :: .dead :: .dead :: .dead :: .dead :: .dead :: .dead :: .dead :: .dead :: .dead :: .dead :: .dead :: .dead :: .dead :: .dead :: .dead :: .dead :: .dead :: []) h' := by
      intro hb
      rw [hI]
      refine ⟨i + 1, by omega, rfl, fun j hj hl => ?_, by rw [hi1]⟩
      by_cases hji : j = i
      · subst hji; exact hb
      · exact hok j (by omega) hl
    have bad : okB l i = false → Q (.bool false) h' := fun hb => by rw [right_false h1 hb] at hq; exact hq
    have hx := hX i h1
    have ha := hA i h1
    unfold okB at good bad
    obtain ⟨s, hs⟩ : ∃ s, s = (l.getD i (0, 0)).2 := ⟨_, rfl⟩
    obtain ⟨r, hr⟩ : ∃ r, r = (l.getD i (0, 0)).1 := ⟨_, rfl⟩
    obtain ⟨p, hp⟩ : ∃ r, r = (l.getD (i - 1) (0, 0)).1 := ⟨_, rfl⟩
    rw [← hs, ← hr, ← hp] at good bad
    simp only [ecells, ← hs, ← hr] at ha
    simp [hx, ha]
    refine orD (fun h2 => ?_) (fun h2 => ?_)
    · simp [h2]
      exact bad (by simp; intro h3; omega)
    simp [h2]
    refine orD (fun h3 => ?_) (fun h3 => ?_)
    · simp [h3]
      exact bad (by simp; intro _ h4; omega)
    simp [h3]
    refine orD (fun h4 => ?_) (fun h4 => ?_)
    · have h4' : 0 < i := by omega
      have hwp : IntKind.i64.wrap ((i : Int) - 1) = ((i - 1 : Nat) : Int) := by rw [w64 (by omega) (by omega)]; omega
      have hxp := hX (i - 1) (by omega)
      have hop := hO (i - 1) 0 (by omega)
      have hap := hA0 (i - 1) (by omega)
      rw [← hp] at hap
      obtain ⟨ip, hip⟩ : ∃ x : Int, x = ((i - 1 : Nat) : Int) := ⟨_, rfl⟩
      rw [← hip] at hwp hxp
      simp [h3, h4', hwp, hxp, hop, hap]
      refine orD (fun h5 => ?_) (fun h5 => ?_)
      · simp
        exact bad (by simp; intro _ _; omega)
      · simp [hw]
        exact .mk (m := m - 1) (by omega) (good (by simp; omega))
    · simp [h3, h4, hw]
      exact .mk (m := m - 1) (by omega) (good (by simp; omega))
  · simp
    rw [right_true (by omega) hok] at hq; exact hq

theorem vec7 {h : AHeap} {v : AVal} {l : List En} (hv : Ens (cfgR ro) h v l) (hn : l.length ≤ 2 ^ 40) {Q : AVal → AHeap → Prop}
    (hq : ∀ v' h', Old h h' → Mine h h' 2 (l.map ecells) v' → Q v' h') : Ev (cfgR ro) 7 [v] h Q := by
  refine Ev.wp rfl rfl Try.func7 rfl ?_
  have hL : lenR (cfgR ro) h 23 v = .ok (.int .i64 l.length) := by have := hv.lenR (t := 23) un23; simpa using this
  have hX : ∀ i, i < l.length → indexAddrR Try.prog 23 v (.int .i64 (i : Int)) = .ok (elp v 2 i) := fun i hi => hv.idx un23 sz88 (by simpa using hi)
  have hA : ∀ h', Old h h' → ∀ i (hi : i < l.length), loadR (cfgR ro) h' 88 (elp v 2 i) = .ok (.agg (ecells (l.getD i (0, 0)))) := fun h' ho i hi => (hv.old ho).load (Ens.at hi) ag88 sz88
  simp [Try.f7, hL]
  obtain ⟨I, hI⟩ : ∃ I : Nat → List AVal → AHeap → Prop, I = fun m env h' => ∃ (i : Nat) (o : AVal), i + m = l.length ∧ Old h h' ∧ Mine h h' 2 ((l.take i).map ecells) o ∧ env = (.dead :: .dead :: .dead :: o :: .dead :: .dead :: v :: .int .i64 l.length :: .int .i64 i :: .dead :: .dead :: .dead :: .dead :: .dead :: .dead :: .dead :: .dead :: .dead :: []) := ⟨_, rfl⟩
  refine loop_of I ?_ l.length (by rw [hI]; exact ⟨0, .nils, by simp, Old.refl h, by simpa using Mine.nil h h 2, rfl⟩)
  rintro m env h' hi
  rw [hI] at hi
  obtain ⟨i, o, hin, ho, hm, rfl⟩ := hi
  simp
  refine orD (fun h3 => ?_) (fun h3 => ?_)
  · obtain ⟨v', h2, e1, m2, o2⟩ := (hm.keep ((Old.refl h').push (.row 2 false (ecells (l.getD i (0, 0)))))).append1 (bytes := 8) (e := ecells (l.getD i (0, 0))) (by omega) rfl (by simp; omega) (ho.push _)
    have ha := hA h' ho i h3
    have hcells : l.getD i (0, 0) = l[i] := by simp [h3]
    obtain ⟨e, he⟩ : ∃ e, e = l.getD i (0, 0) := ⟨_, rfl⟩
    rw [← he] at ha e1
    simp only [ecells] at e1 ha
    simp [hX i h3, ha, buildSliceR, reps, e1]
    rw [w64 (n := (i : Int) + 1) (by omega) (by omega)]
    refine .mk (m := m - 1) (by omega) (by rw [hI]; exact ⟨i + 1, v', by omega, o2, by rw [List.take_succ_eq_append_getElem h3, List.map_append, ← hcells]; exact m2, rfl⟩)
  · simp
    rw [List.take_of_length_le (by omega)] at hm
    exact hq _ _ ho hm

theorem eq89 (h : AHeap) (a b c d : Nat) : eqIn (cfgR ro) h 10000 89 (.agg [.int .u16 a, .int .u32 b]) (.agg [.int .u16 c, .int .u32 d]) = (match (a : Int) == (c : Int) with | true => (match (b : Int) == (d : Int) with | true => .ok true | false => .ok false) | false => .ok false) := by kernel_rfl

theorem same12 {h : AHeap} {v x : AVal} {l k : List En} (hv : Ens (cfgR ro) h v l) (hx : Ens (cfgR ro) h x k) (hn : l.length ≤ 2 ^ 40) {Q : AVal → AHeap → Prop} (hq : Q (.bool (decide (l = k))) h) : Ev (cfgR ro) 12 [v, x] h Q := by
  refine Ev.wp rfl rfl Try.func12 rfl ?_
  have hL : lenR (cfgR ro) h 23 v = .ok (.int .i64 l.length) := by have := hv.lenR (t := 23) un23; simpa using this
  have hL2 : lenR (cfgR ro) h 26 x = .ok (.int .i64 k.length) := by have := hx.lenR (t := 26) un26; simpa using this
  have hX : ∀ i, i < l.length → indexAddrR Try.prog 23 v (.int .i64 (i : Int)) = .ok (elp v 2 i) := fun i hi => hv.idx un23 sz88 (by simpa using hi)
  have hX2 : ∀ i, i < k.length → indexAddrR Try.prog 26 x (.int .i64 (i : Int)) = .ok (elp x 2 i) := fun i hi => hx.idx un26 sz89 (by simpa using hi)
  have hA : ∀ i (hi : i < l.length), loadR (cfgR ro) h 88 (elp v 2 i) = .ok (.agg (ecells (l.getD i (0, 0)))) := fun i hi => hv.load (Ens.at hi) ag88 sz88
  have hA2 : ∀ i (hi : i < k.length), loadR (cfgR ro) h 89 (elp x 2 i) = .ok (.agg (ecells (k.getD i (0, 0)))) := fun i hi => hx.load (Ens.at hi) ag89 sz89
  have hg : eqL 89 = true := by decide
  simp [Try.f12, hL, hL2]
  refine orD (fun h1 => ?_) (fun h1 => ?_)
  · have h1 : l.length = k.length := by omega
    simp [hL]
    obtain ⟨I, hI⟩ : ∃ I : Nat → List AVal → AHeap → Prop, I = fun m env h' => ∃ (i : Nat), i + m = l.length ∧ h' = h ∧ (∀ j, j < i → l.getD j (0, 0) = k.getD j (0, 0)) ∧ env = (v :: x :: .dead :: .dead :: .dead :: .dead :: .dead :: .dead :: .dead :: .dead :: .dead :: .dead :: .int .i64 l.length :: .int .i64 i :: .dead :: .dead :: .dead :: .dead :: .dead :: .dead :: .dead :: .dead :: .dead :: .dead :: .dead :: .dead :: []) := ⟨_, rfl⟩
    refine loop_of I ?_ l.length (by rw [hI]; exact ⟨0, by simp, rfl, by simp, by rw [h1]; rfl⟩)
    rintro m env h' hi
    rw [hI] at hi
    obtain ⟨i, hin, rfl, hok, rfl⟩ := hi
    have hw : IntKind.i64.wrap ((i : Int) + 1) = ((i + 1 : Nat) : Int) := by rw [w64 (by omega) (by omega)]; omega
    simp
    refine orD (fun h3 => ?_) (fun h3 => ?_)
    · have ha := hA i h3
      have ha2 := hA2 i (by omega)
      obtain ⟨⟨a, b⟩, he⟩ : ∃ e, e = l.getD i (0, 0) := ⟨_, rfl⟩
      obtain ⟨⟨c, d⟩, hf⟩ : ∃ e, e = k.getD i (0, 0) := ⟨_, rfl⟩
      rw [← he] at ha
      rw [← hf] at ha2
      simp only [ecells] at ha ha2
      have heq := eq89 (ro := ro) h' a b c d
      obtain ⟨i1, hi1⟩ : ∃ x : Int, x = ((i + 1 : Nat) : Int) := ⟨_, rfl⟩
      rw [← hi1] at hw
      have no : (a, b) ≠ (c, d) → Q (.bool false) h' := by
        intro hne
        have : decide (l = k) = false := by
          rw [decide_eq_false_iff_not]; intro hlk; subst hlk; exact hne (he.trans hf.symm)
        rw [this] at hq; exact hq
      by_cases e1 : (a : Int) = (c : Int)
      · by_cases e2 : (b : Int) = (d : Int)
        · have heq : eqIn (cfgR ro) h' 10000 89 (.agg [.int .u16 a, .int .u32 b]) (.agg [.int .u16 c, .int .u32 d]) = .ok true := by rw [heq]; simp [e1, e2]
          simp [hX i h3, hX2 i (by omega), ha, ha2, hg, heq, hw]
          refine .mk (m := m - 1) (by omega) (by
            rw [hI]
            refine ⟨i + 1, by omega, rfl, fun j hj => ?_, by rw [hi1]⟩
            by_cases hji : j = i
            · subst hji; rw [← he, ← hf]; have e1 : a = c := by omega
              have e2 : b = d := by omega
              rw [e1, e2]
            · exact hok j (by omega))
        · have heq : eqIn (cfgR ro) h' 10000 89 (.agg [.int .u16 a, .int .u32 b]) (.agg [.int .u16 c, .int .u32 d]) = .ok false := by
            rw [heq]
            have q1 : ((a : Int) == (c : Int)) = true := by simpa using e1
            have q2 : ((b : Int) == (d : Int)) = false := by simpa using e2
            rw [q1, q2]
          simp [hX i h3, hX2 i (by omega), ha, ha2, hg, heq]
          exact no (fun h => e2 (by injection h with _ h; omega))
      · have heq : eqIn (cfgR ro) h' 10000 89 (.agg [.int .u16 a, .int .u32 b]) (.agg [.int .u16 c, .int .u32 d]) = .ok false := by
          rw [heq]
          have q1 : ((a : Int) == (c : Int)) = false := by simpa using e1
          rw [q1]
        simp [hX i h3, hX2 i (by omega), ha, ha2, hg, heq]
        exact no (fun h => e1 (by injection h with h _; omega))
    · simp
      have : l = k := by
        apply List.ext_getElem h1
        intro j h4 h5
        have := hok j (by omega)
        simpa [h4, h5] using this
      simpa [this] using hq
  · simp
    have : decide (l = k) = false := by
      rw [decide_eq_false_iff_not]; intro hlk; subst hlk; exact h1 rfl
    rw [this] at hq; exact hq
end
end Go.Proofs.Ytomhcjiefmaopaa
set_option linter.all false
set_option maxRecDepth 100000
set_option maxHeartbeats 4000000
namespace Go.Proofs.Ytomhcjiefmaopaa
open Go Go.RowKit Go.Proofs

def bodyS : List En → List UInt8
  | [] => []
  | e :: l => numS e.1 ++ (numS e.2 ++ bodyS l)
def encS (mark : UInt8) (l : List En) : List UInt8 := mark :: (numS l.length ++ bodyS l)
theorem bodyS_append : ∀ a b : List En, bodyS (a ++ b) = bodyS a ++ bodyS b
  | [], b => rfl
  | e :: a, b => by simp [bodyS, bodyS_append a b]
theorem body_len : ∀ {l : List En}, (∀ e ∈ l, enOk e) → (bodyS l).length ≤ 18 * l.length
  | [], _ => by simp [bodyS]
  | e :: l, h => by
    have h1 := h e (by simp)
    have h2 := body_len (l := l) (fun x hx => h x (by simp [hx]))
    have h3 := numS_len 8 e.1 (by have := h1.1; omega)
    have h4 := numS_len 8 e.2 (by have := h1.2; omega)
    simp [bodyS]; omega

/-- the reading of entries: so many are left -/
def lpS (cs : List UInt8) : Nat → Nat → List En → List En × Nat × Nat
  | 0, p, acc => (acc, p, 0)
  | m + 1, p, acc =>
    if (rdNum cs p 65535).2.2 ≠ 0 then (acc, (rdNum cs p 65535).2.1, (rdNum cs p 65535).2.2) else
    if (rdNum cs (rdNum cs p 65535).2.1 268435456).2.2 ≠ 0 then (acc, (rdNum cs (rdNum cs p 65535).2.1 268435456).2.1, (rdNum cs (rdNum cs p 65535).2.1 268435456).2.2) else
    lpS cs m (rdNum cs (rdNum cs p 65535).2.1 268435456).2.1 (acc ++ [((rdNum cs p 65535).1, (rdNum cs (rdNum cs p 65535).2.1 268435456).1)])
theorem lpS_step {cs : List UInt8} {m p : Nat} {acc : List En} {r p1 e1 s p2 e2 : Nat} (h1 : rdNum cs p 65535 = (r, p1, e1)) (h2 : rdNum cs p1 268435456 = (s, p2, e2)) :
    lpS cs (m + 1) p acc = if e1 ≠ 0 then (acc, p1, e1) else if e2 ≠ 0 then (acc, p2, e2) else lpS cs m p2 (acc ++ [(r, s)]) := by
  rw [lpS, h1]; simp only []; rw [h2]
def listS (cs : List UInt8) : List En × Nat × Nat :=
  if (rdNum cs 1 65536).2.2 ≠ 0 then ([], (rdNum cs 1 65536).2.1, (rdNum cs 1 65536).2.2) else lpS cs (rdNum cs 1 65536).1 (rdNum cs 1 65536).2.1 []
/-- the vector that bytes are, and an error -/
def decS (mark : Nat) (bs : List UInt8) : List En × Nat :=
  match openS bs with
  | none => ([], 31)
  | some cs => if (cs.getD 0 0).toNat ≠ mark ∨ cs.length = 0 then ([], 30) else
    if (listS cs).2.2 ≠ 0 then ([], (listS cs).2.2) else if (listS cs).2.1 < cs.length then ([], 15) else if rightB (listS cs).1 = false then ([], 11) else ((listS cs).1, 0)

section
variable {ro : Nat → Option (List AVal)}

theorem wr_new {h0 h : AHeap} : WrAt (h0.push (.row 0 false [.nils])) (h0.push (.row 0 false [.nils])) h0.next [] := ⟨.nils, by simp, BM.nil, by simp, Nat.le_refl _⟩

theorem enc9 {h : AHeap} {v : AVal} {l : List En} (hv : Ens (cfgR ro) h v l) (hn : l.length ≤ 100) (hok : ∀ e ∈ l, enOk e) {Q : AVal → AHeap → Prop}
    (hq : ∀ v' h', Old h h' → BM h h' v' (sealS (encS 210 l)) → Q v' h') : Ev (cfgR ro) 9 [v] h Q := by
  refine Ev.wp rfl rfl Try.func9 rfl ?_
  have hL : ∀ h', Old h h' → lenR (cfgR ro) h' 23 v = .ok (.int .i64 l.length) := fun h' ho => by have := (hv.old ho).lenR (t := 23) un23; simpa using this
  have hX : ∀ i, i < l.length → indexAddrR Try.prog 23 v (.int .i64 (i : Int)) = .ok (elp v 2 i) := fun i hi => hv.idx un23 sz88 (by simpa using hi)
  have hA : ∀ h', Old h h' → ∀ i (hi : i < l.length), loadR (cfgR ro) h' 88 (elp v 2 i) = .ok (.agg (ecells (l.getD i (0, 0)))) := fun h' ho i hi => (hv.old ho).load (Ens.at hi) ag88 sz88
  obtain ⟨hb, hhb⟩ : ∃ hb, hb = h.push (.row 0 false [.nils]) := ⟨_, rfl⟩
  have k0 : Old h hb := by rw [hhb]; exact (Old.refl h).push _
  have w0 : WrAt hb hb h.next [] := by rw [hhb]; exact wr_new (h := h)
  have old : ∀ h', Wst hb h.next hb h' → Old h h' := fun h' k => ⟨Nat.le_trans k0.1 k.1, fun o ho => by rw [k.2 o (Nat.lt_of_lt_of_le ho k0.1) (by omega)]; exact k0.2 o ho⟩
  simp [Try.f9]
  rw [← hhb]
  refine byte30 (b := 210) w0 (by simp) (fun h1 w1 s1 => ?_)
  have hl1 := hL h1 (old _ s1)
  have e1 : IntKind.u64.wrap (l.length : Int) = (l.length : Int) := by rw [wrap64]; omega
  simp [hl1, e1]
  refine num31 (by omega) w1 (by simp) (fun h2 w2 s2 => ?_)
  have s2 := s1.trans s2
  have hl2 := hL h2 (old _ s2)
  simp [hl2]
  have nl := numS_len 8 l.length (by omega)
  obtain ⟨I, hI⟩ : ∃ I : Nat → List AVal → AHeap → Prop, I = fun m env h' => ∃ (i : Nat), i + m = l.length ∧ Wst hb h.next hb h' ∧ WrAt hb h' h.next (([] ++ [210]) ++ numS l.length ++ bodyS (l.take i)) ∧ env = (.dead :: .dead :: .dead :: .ptr h.next 0 :: .dead :: .dead :: .dead :: .dead :: .dead :: .dead :: .dead :: v :: .int .i64 l.length :: .int .i64 i :: .dead :: .dead :: .dead :: .dead :: .dead :: .dead :: .dead :: .dead :: .dead :: .dead :: .dead :: .dead :: .dead :: .dead :: []) := ⟨_, rfl⟩
  refine loop_of I ?_ l.length (by rw [hI]; exact ⟨0, by simp, s2, by simpa [bodyS] using w2, rfl⟩)
  rintro m env h' hi
  rw [hI] at hi
  obtain ⟨i, hin, hs, hw, rfl⟩ := hi
  have hwi : IntKind.i64.wrap ((i : Int) + 1) = ((i + 1 : Nat) : Int) := by rw [w64 (by omega) (by omega)]; omega
  simp
  refine orD (fun h3 => ?_) (fun h3 => ?_)
  · have ha := hA h' (old _ hs) i h3
    have hcells : l.getD i (0, 0) = l[i] := by simp [h3]
    obtain ⟨⟨r, s⟩, he⟩ : ∃ e, e = l.getD i (0, 0) := ⟨_, rfl⟩
    have hoke : enOk (r, s) := by rw [he, hcells]; exact hok _ (List.getElem_mem h3)
    have hb1 := body_len (l := l.take i) (fun e hm => hok e (List.mem_of_mem_take hm))
    have hb2 : (l.take i).length = i := by simp; omega
    rw [hb2] at hb1
    rw [← he] at ha
    simp only [ecells] at ha
    have f1 : IntKind.u64.wrap (r : Int) = (r : Int) := by have := hoke.1; rw [wrap64]; simp at this; omega
    have f2 : IntKind.u64.wrap (s : Int) = (s : Int) := by have := hoke.2; rw [wrap64]; simp at this; omega
    have r63 : r < 2 ^ 63 := by have := hoke.1; simp at this; omega
    have s63 : s < 2 ^ 63 := by have := hoke.2; simp at this; omega
    have rl := numS_len 8 r (by omega)
    simp [hX i h3, ha, f1, f2]
    refine num31 r63 hw (by simp; omega) (fun h4 w4 s4 => ?_)
    simp [f2]
    refine num31 s63 w4 (by simp; omega) (fun h5 w5 s5 => ?_)
    obtain ⟨i1, hi1⟩ : ∃ x : Int, x = ((i + 1 : Nat) : Int) := ⟨_, rfl⟩
    rw [← hi1] at hwi
    simp [hwi]
    refine .mk (m := m - 1) (by omega) (by
      rw [hI]
      refine ⟨i + 1, by omega, (hs.trans s4).trans s5, ?_, by rw [hi1]⟩
      rw [List.take_succ_eq_append_getElem h3, bodyS_append, ← hcells, ← he]
      have : bodyS [(r, s)] = numS r ++ numS s := by simp [bodyS]
      rw [this]
      simpa using w5)
  · rw [List.take_of_length_le (by omega)] at hw
    have hb1 := body_len hok
    simp
    refine bytes33 hw (by simp; omega) (fun v2 h4 m4 k4 => ?_)
    have ko := (old _ hs).trans k4
    simp
    refine seal32 m4.toBS (by simp; omega) (fun v3 h5 m5 k5 => ?_)
    simp
    refine hq _ _ (ko.trans k5) ?_
    have : sealS ([] ++ [210] ++ numS l.length ++ bodyS l) = sealS (encS 210 l) := by simp [encS]
    rw [this] at m5
    obtain ⟨e1, e2⟩ := m5
    exact ⟨e1, e2.imp id fun ⟨q, fz, a1, a2, a3, a4⟩ => ⟨q, fz, a1, Nat.le_trans ko.1 a2, a3, a4⟩⟩

theorem bytes11 {h : AHeap} {v : AVal} {l : List En} (hv : Ens (cfgR ro) h v l) (hn : l.length ≤ 100) (hok : ∀ e ∈ l, enOk e) {Q : AVal → AHeap → Prop}
    (hq : ∀ v' h', Old h h' → BM h h' v' (sealS (encS 210 l)) → Q v' h') : Ev (cfgR ro) 11 [v] h Q := by
  refine Ev.wp rfl rfl Try.func11 rfl ?_
  have hL : ∀ h', Old h h' → lenR (cfgR ro) h' 26 v = .ok (.int .i64 l.length) := fun h' ho => by have := (hv.old ho).lenR (t := 26) un26; simpa using this
  have hX : ∀ i, i < l.length → indexAddrR Try.prog 26 v (.int .i64 (i : Int)) = .ok (elp v 2 i) := fun i hi => hv.idx un26 sz89 (by simpa using hi)
  have hO : ∀ i d, i < l.length → addOff (elp v 2 i) d = .ok (elpo v 2 i d) := fun i d hi => elp_off hv (by simpa using hi)
  have hA0 : ∀ h', Old h h' → ∀ i (hi : i < l.length), loadR (cfgR ro) h' 38 (elpo v 2 i 0) = .ok (.int .u16 (l.getD i (0, 0)).1) := fun h' ho i hi => (hv.old ho).loadF (Ens.at hi) rfl ag38
  have hA1 : ∀ h', Old h h' → ∀ i (hi : i < l.length), loadR (cfgR ro) h' 40 (elpo v 2 i 1) = .ok (.int .u32 (l.getD i (0, 0)).2) := fun h' ho i hi => (hv.old ho).loadF (Ens.at hi) rfl ag40
  have e1 : IntKind.u64.wrap (l.length : Int) = (l.length : Int) := by rw [wrap64]; omega
  have k1 : Old h (h.push (.row 1 false [.int .u8 210])) := (Old.refl h).push _
  have m1 : BM h (h.push (.row 1 false [.int .u8 210])) (.sl h.next 0 1) [210] := ⟨bes_one _, .inr ⟨h.next, false, rfl, Nat.le_refl _, by simp, by rw [get_push_next]; rfl⟩⟩
  simp [Try.f11, buildSliceR, reps, hL _ k1, e1]
  have nl := numS_len 8 l.length (by omega)
  refine num41 l.length (by omega) _ (fun v2 h2 m2 k2 => ?_)
  have b2 := m2.toBS (c := cfgR ro)
  obtain ⟨v3, h3, g3, m3, k3⟩ := (m1.keep k2).app (nb := numS l.length) (k1.trans k2) (by simp; omega)
  simp [b2.lenA, b2.read, g3]
  obtain ⟨I, hI⟩ : ∃ I : Nat → List AVal → AHeap → Prop, I = fun m env h' => ∃ (i : Nat) (o : AVal), i + m = l.length ∧ Old h h' ∧ BM h h' o (([210] ++ numS l.length) ++ bodyS (l.take i)) ∧ env = (v :: .dead :: .dead :: o :: .int .i64 i :: .dead :: .dead :: .dead :: .dead :: .dead :: .dead :: .dead :: .dead :: .dead :: .dead :: .dead :: .dead :: .dead :: .dead :: .dead :: .dead :: .dead :: .dead :: .dead :: .dead :: .dead :: .dead :: .dead :: .dead :: .dead :: .dead :: .dead :: .dead :: .dead :: .dead :: .dead :: .dead :: .dead :: []) := ⟨_, rfl⟩
  refine loop_of I ?_ l.length (by rw [hI]; exact ⟨0, v3, by simp, k3, by simpa [bodyS] using m3, rfl⟩)
  rintro m env h' hi
  rw [hI] at hi
  obtain ⟨i, o, hin, ho, hm, rfl⟩ := hi
  have hwi : IntKind.i64.wrap ((i : Int) + 1) = ((i + 1 : Nat) : Int) := by rw [w64 (by omega) (by omega)]; omega
  simp [hL _ ho]
  refine orD (fun h5 => ?_) (fun h5 => ?_)
  · have ha0 := hA0 h' ho i h5
    have hcells : l.getD i (0, 0) = l[i] := by simp [h5]
    obtain ⟨⟨r, s⟩, he⟩ : ∃ e, e = l.getD i (0, 0) := ⟨_, rfl⟩
    have hoke : enOk (r, s) := by rw [he, hcells]; exact hok _ (List.getElem_mem h5)
    have hb1 := body_len (l := l.take i) (fun e hm => hok e (List.mem_of_mem_take hm))
    have hb2 : (l.take i).length = i := by simp; omega
    rw [hb2] at hb1
    rw [← he] at ha0
    have f1 : IntKind.u64.wrap (r : Int) = (r : Int) := by have := hoke.1; rw [wrap64]; simp at this; omega
    have f2 : IntKind.u64.wrap (s : Int) = (s : Int) := by have := hoke.2; rw [wrap64]; simp at this; omega
    have r63 : r < 2 ^ 63 := by have := hoke.1; simp at this; omega
    have s63 : s < 2 ^ 63 := by have := hoke.2; simp at this; omega
    have rl := numS_len 8 r (by omega)
    have sl := numS_len 8 s (by omega)
    simp [hX i h5, hO i 0 h5, ha0, f1]
    refine num41 r r63 _ (fun v6 h6 m6 k6 => ?_)
    have b6 := m6.toBS (c := cfgR ro)
    obtain ⟨v7, h7, g7, m7, k7⟩ := (hm.keep k6).app (nb := numS r) (ho.trans k6) (by simp; omega)
    have ha1 := hA1 h7 k7 i h5
    rw [← he] at ha1
    simp [b6.lenA, b6.read, g7, hX i h5, hO i 1 h5, ha1, f2]
    refine num41 s s63 _ (fun v8 h8 m8 k8 => ?_)
    have b8 := m8.toBS (c := cfgR ro)
    obtain ⟨v9, h9, g9, m9, k9⟩ := (m7.keep k8).app (nb := numS s) (k7.trans k8) (by simp; omega)
    obtain ⟨i1, hi1⟩ : ∃ x : Int, x = ((i + 1 : Nat) : Int) := ⟨_, rfl⟩
    rw [← hi1] at hwi
    simp [b8.lenA, b8.read, g9, hwi]
    refine .mk (m := m - 1) (by omega) (by
      rw [hI]
      refine ⟨i + 1, v9, by omega, k9, ?_, by rw [hi1]⟩
      rw [List.take_succ_eq_append_getElem h5, bodyS_append, ← hcells, ← he]
      have : bodyS [(r, s)] = numS r ++ numS s := by simp [bodyS]
      rw [this]
      simpa using m9)
  · rw [List.take_of_length_le (by omega)] at hm
    have hb1 := body_len hok
    simp
    refine seal42 hm.toBS (by simp; omega) (fun v6 h6 m6 k6 => ?_)
    simp
    refine hq _ _ (ho.trans k6) ?_
    have : sealS ([210] ++ numS l.length ++ bodyS l) = sealS (encS 210 l) := by simp [encS]
    rw [this] at m6
    obtain ⟨e1, e2⟩ := m6
    exact ⟨e1, e2.imp id fun ⟨q, fz, a1, a2, a3, a4⟩ => ⟨q, fz, a1, Nat.le_trans ho.1 a2, a3, a4⟩⟩
end
end Go.Proofs.Ytomhcjiefmaopaa
set_option linter.all false
set_option maxRecDepth 100000
set_option maxHeartbeats 4000000
namespace Go.Proofs.Ytomhcjiefmaopaa
open Go Go.RowKit Go.Proofs

theorem scp_to {c : Cfg} {f : Nat} {K : List AVal → AHeap → Prop} {E : Nat → List AVal → AHeap → Prop} {R : List AVal → AHeap → Prop} {G : Nat → List AVal → AHeap → Prop} {a rest : Code} {l : Nat} {env : List AVal} {h : AHeap}
    (hf : findLabel a l = some rest) (q : wp c f rest K E R (scpG c f K E R G a) env h) : scpG c f K E R G a l env h := by
  unfold scpG; rw [hf]; exact label_of q
theorem Mine.base {h0 h1 h : AHeap} {sz : Nat} {es : List (List AVal)} {v : AVal} (m : Mine h1 h sz es v) (hl : h0.next ≤ h1.next) : Mine h0 h sz es v := by
  obtain ⟨e1, e2⟩ := m
  exact ⟨e1, e2.imp id fun ⟨q, fz, a1, a2, a3, a4⟩ => ⟨q, fz, a1, Nat.le_trans hl a2, a3, a4⟩⟩

section
variable {ro : Nat → Option (List AVal)}

theorem dec10 {h : AHeap} {v : AVal} {bs : List UInt8} (hv : BS (cfgR ro) h v bs) (hs : ∀ o f l q, v ≠ .slc o f l q) (hn : bs.length ≤ 2 ^ 40) {Q : AVal → AHeap → Prop}
    (hq : ∀ v' h', Old h h' → Mine h h' 2 ((decS 210 bs).1.map ecells) v' → Q (.tuple [v', .int .i64 (decS 210 bs).2]) h') : Ev (cfgR ro) 10 [v] h Q := by
  refine Ev.wp rfl rfl Try.func10 rfl ?_
  simp [Try.f10]
  refine open34 hv hs hn (fun cs vc h1 hop mc k1 => ?_) (fun h1 hop k1 => ?_)
  rotate_left
  · simp
    refine scp_to rfl ?_
    simp
    have : decS 210 bs = ([], 31) := by unfold decS; rw [hop]
    rw [this] at hq
    exact hq _ _ k1 (Mine.nil _ _ _)
  have hcl : cs.length ≤ 2 ^ 40 := by
    unfold openS at hop
    split at hop
    · cases hop
    · split at hop
      · injection hop with hop; rw [← hop]; simp; omega
      · cases hop
  have hdec : decS 210 bs = if (cs.getD 0 0).toNat ≠ 210 ∨ cs.length = 0 then ([], 30) else
    if (listS cs).2.2 ≠ 0 then ([], (listS cs).2.2) else if (listS cs).2.1 < cs.length then ([], 15) else if rightB (listS cs).1 = false then ([], 11) else ((listS cs).1, 0) := by
    unfold decS; rw [hop]
  have bad : ∀ (x : Nat) (h' : AHeap), decS 210 bs = ([], x) → Old h h' → Q (.tuple [.nils, .int .i64 x]) h' := fun x h' hx ho => by rw [hx] at hq; exact hq _ _ ho (Mine.nil _ _ _)
  simp
  refine from35 mc.toBS (fun hb r hr rd0 k2 hnx => ?_)
  have k12 := k1.trans k2
  simp
  have hrn : h.next ≤ r := by rw [hr]; exact k1.1
  have old : ∀ h', Wst hb r hb h' → Old h h' := fun h' k => ⟨Nat.le_trans k12.1 k.1, fun o ho => by rw [k.2 o (Nat.lt_of_lt_of_le ho k12.1) (by omega)]; exact k12.2 o ho⟩
  have rst : ∀ {a b : AHeap}, Rst r a b → Wst hb r a b := fun k => ⟨by rw [k.1]; exact Nat.le_refl _, fun o _ ho => k.2 o ho⟩
  have hrb : r < hb.next := by omega
  refine byte36 rd0 hcl (by omega) (fun _ hlt h3 rd3 s3 => ?_) (fun _ hlt h3 rd3 s3 => ?_) (fun h => absurd rfl h)
  rotate_left
  · simp
    refine scp_to rfl ?_
    simp
    have := bad 30 h3 (by rw [hdec, if_pos (.inr (by omega))]) (old _ (rst s3))
    exact this
  have s3 := rst s3
  have hg0 : cs.getD 0 0 = cs[0] := by simp [hlt]
  simp
  refine orD (fun h4 => ?_) (fun h4 => ?_)
  rotate_left
  · simp
    refine scp_to rfl ?_
    simp
    have := bad 30 h3 (by rw [hdec, if_pos (.inl (by rw [hg0]; intro h; exact h4 (by omega)))]) (old _ s3)
    exact this
  have hdec2 : decS 210 bs = if (listS cs).2.2 ≠ 0 then ([], (listS cs).2.2) else if (listS cs).2.1 < cs.length then ([], 15) else if rightB (listS cs).1 = false then ([], 11) else ((listS cs).1, 0) := by
    rw [hdec, if_neg]; rw [hg0]; intro h; rcases h with h | h
    · exact h (by omega)
    · omega
  simp
  refine num37 rd3 hcl (by omega) (limit := 65536) (by decide) (fun _ n p x h5 hrd rd5 s5 => ?_) (fun h => absurd rfl h)
  have s5 := s3.trans (rst s5)
  obtain ⟨f1, f2, f3⟩ := rdGo_lt hrd
  simp
  obtain ⟨I, hI⟩ : ∃ I : Nat → List AVal → AHeap → Prop, I = fun m env h' => ∃ (i p e : Nat) (acc : List En) (vv : AVal), i + m = n ∧ Wst hb r hb h' ∧ RdAt h' r cs p e ∧ p ≤ cs.length ∧ Mine hb h' 2 (acc.map ecells) vv ∧ acc.length = i ∧
      (e = 0 → lpS cs (n - i) p acc = listS cs) ∧ (e ≠ 0 → i = n ∧ (listS cs).2.2 = e) ∧ n ≤ 65536 ∧ env = (.dead :: .dead :: .dead :: .dead :: vv :: .ptr r 0 :: .dead :: .dead :: .dead :: .dead :: .dead :: .dead :: .dead :: .dead :: .dead :: .dead :: .dead :: .dead :: .dead :: .dead :: .dead :: .dead :: .int .u64 n :: .int .u64 i :: .dead :: .dead :: .dead :: .dead :: .dead :: .dead :: .dead :: .dead :: .dead :: .dead :: .dead :: .dead :: .dead :: .dead :: .dead :: .dead :: .dead :: .dead :: .dead :: .dead :: .dead :: .dead :: .dead :: .dead :: []) := ⟨_, rfl⟩
  refine loop_of I ?_ n (by
    rw [hI]
    refine ⟨0, p, x, [], .nils, by omega, s5, rd5, ?_, Mine.nil _ _ _, rfl, fun hx => ?_, fun hx => ⟨?_, ?_⟩, ?_, rfl⟩
    · by_cases hx : x = 0
      · exact (f1 hx).2.1
      · rw [(f2 hx).1]; omega
    · unfold listS; rw [show rdNum cs 1 65536 = (n, p, x) from hrd]; simp [hx]
    · exact (f2 hx).2.symm
    · unfold listS; rw [show rdNum cs 1 65536 = (n, p, x) from hrd]; simp [hx]
    · by_cases hx : x = 0
      · exact (f1 hx).2.2
      · rw [(f2 hx).2]; decide)
  rintro m env h' hi
  rw [hI] at hi
  obtain ⟨i, p, e, acc, vv, hin, hw, rd, hp, hm, hal, he0, he1, hn6, rfl⟩ := hi
  have hwi : IntKind.u64.wrap ((i : Int) + 1) = ((i + 1 : Nat) : Int) := by rw [wrap64]; omega
  simp
  refine orD (fun h6 => ?_) (fun h6 => ?_)
  · have he : e = 0 := by
      rcases Nat.eq_zero_or_pos e with h | h
      · exact h
      · have := (he1 (by omega)).1; omega
    subst he
    have hlp := he0 rfl
    rw [show n - i = (n - (i + 1)) + 1 by omega] at hlp
    simp
    refine num37 rd hcl hp (limit := 65535) (by decide) (fun _ a1 p1 e1 h7 hr1 rd7 s7 => ?_) (fun h => absurd rfl h)
    obtain ⟨g1, g2, g3⟩ := rdGo_lt hr1
    have hp1 : p1 ≤ cs.length := by
      by_cases hx : e1 = 0
      · exact (g1 hx).2.1
      · rw [(g2 hx).1]; exact hp
    have hm7 : Mine hb h7 2 (acc.map ecells) vv := by
      obtain ⟨x1, x2⟩ := hm
      exact ⟨x1, x2.imp id fun ⟨q, fz, a1, a2, a3, a4⟩ => ⟨q, fz, a1, a2, by rw [s7.1]; exact a3, by rw [s7.2 q (by omega)]; exact a4⟩⟩
    have w7 := hw.trans (rst s7)
    have a1b : a1 < 65536 := by
      by_cases hx : e1 = 0
      · have := (g1 hx).2.2; omega
      · rw [(g2 hx).2]; decide
    have c1 : IntKind.u16.wrap (a1 : Int) = (a1 : Int) := by rw [wrap16]; omega
    simp [c1]
    -- behind the second number
    have tail : ∀ (b : Nat) (p2 e2 : Nat) (h8 : AHeap), b < 4294967296 → p2 ≤ cs.length → RdAt h8 r cs p2 e2 → Rst r h7 h8 → (e2 = 0 → lpS cs (n - (i + 1)) p2 (acc ++ [(a1, b)]) = listS cs) → (e2 ≠ 0 → (listS cs).2.2 = e2) →
        True := fun _ _ _ _ _ _ _ _ _ _ => trivial
    by_cases hx1 : e1 = 0
    · subst hx1
      refine num37 rd7 hcl hp1 (limit := 268435456) (by decide) (fun _ b p2 e2 h8 hr2 rd8 s8 => ?_) (fun h => absurd rfl h)
      obtain ⟨q1, q2, q3⟩ := rdGo_lt hr2
      have hp2 : p2 ≤ cs.length := by
        by_cases hx : e2 = 0
        · exact (q1 hx).2.1
        · rw [(q2 hx).1]; exact hp1
      have hbb : b < 4294967296 := by
        by_cases hx : e2 = 0
        · have := (q1 hx).2.2; omega
        · rw [(q2 hx).2]; decide
      have c2 : IntKind.u32.wrap (b : Int) = (b : Int) := by rw [wrap32]; omega
      have hm8 : Mine hb h8 2 (acc.map ecells) vv := by
        obtain ⟨x1, x2⟩ := hm7
        exact ⟨x1, x2.imp id fun ⟨q, fz, a1, a2, a3, a4⟩ => ⟨q, fz, a1, a2, by rw [s8.1]; exact a3, by rw [s8.2 q (by omega)]; exact a4⟩⟩
      have w8 := w7.trans (rst s8)
      obtain ⟨v9, h9, x1, m9, n9, o9⟩ := (hm8.keep ((Old.refl h8).push (.row 2 false (ecells (a1, b))))).append1G (bytes := 8) (e := ecells (a1, b)) (by omega) rfl (by simp; omega) (by have := w8.1; simp; omega)
      have rd9 : RdAt h9 r cs p2 e2 := ⟨by rw [o9 r hrb, AHeap.get_push, if_neg (by have := rd8.2; omega)]; exact rd8.1, by simp at n9; have := rd8.2; omega⟩
      have w9 : Wst hb r hb h9 := ⟨by simp at n9; have := w8.1; omega, fun o ho hne => by rw [o9 o ho, AHeap.get_push, if_neg (by have := w8.1; omega)]; exact w8.2 o ho hne⟩
      simp only [ecells] at x1
      rw [lpS_step hr1 hr2] at hlp
      simp only [ne_eq, not_true_eq_false, if_false] at hlp
      simp [c2, buildSliceR, reps, x1]
      refine err38 rd9 ?_
      simp
      refine orD (fun h10 => ?_) (fun h10 => ?_)
      · have h10 : e2 = 0 := by omega
        subst h10
        simp only [not_true_eq_false, if_false] at hlp
        obtain ⟨i1, hi1⟩ : ∃ x : Int, x = ((i + 1 : Nat) : Int) := ⟨_, rfl⟩
        rw [← hi1] at hwi
        simp [hwi]
        exact .mk (m := m - 1) (by omega) (by
          rw [hI]
          exact ⟨i + 1, p2, 0, acc ++ [(a1, b)], v9, by omega, w9, rd9, hp2, by rw [List.map_append]; exact m9, by simp [hal], fun _ => hlp, fun h => absurd rfl h, hn6, by rw [hi1]⟩)
      · have h10 : e2 ≠ 0 := by omega
        rw [if_pos h10] at hlp
        simp
        refine done39 rd9 hcl hp2 ?_
        rw [if_neg (by omega)]
        simp [h10]
        refine scp_to rfl ?_
        simp
        refine bad e2 h9 ?_ (old _ w9)
        rw [hdec2, ← hlp]; simp [h10]
    · refine num37 rd7 hcl hp1 (limit := 268435456) (by decide) (fun h => absurd (by omega) hx1) (fun _ => ?_)
      obtain ⟨v9, h9, x1, m9, n9, o9⟩ := (hm7.keep ((Old.refl h7).push (.row 2 false (ecells (a1, 0))))).append1G (bytes := 8) (e := ecells (a1, 0)) (by omega) rfl (by simp; omega) (by have := w7.1; simp; omega)
      have rd9 : RdAt h9 r cs p1 e1 := ⟨by rw [o9 r hrb, AHeap.get_push, if_neg (by have := rd7.2; omega)]; exact rd7.1, by simp at n9; have := rd7.2; omega⟩
      have w9 : Wst hb r hb h9 := ⟨by simp at n9; have := w7.1; omega, fun o ho hne => by rw [o9 o ho, AHeap.get_push, if_neg (by have := w7.1; omega)]; exact w7.2 o ho hne⟩
      have c2 : IntKind.u32.wrap 0 = 0 := by decide
      simp only [ecells] at x1
      have hlp2 : (listS cs).2.2 = e1 := by
        rw [← hlp, lpS, hr1]; simp [hx1]
      simp at x1
      simp [c2, buildSliceR, reps, x1]
      refine err38 rd9 ?_
      simp [hx1]
      refine done39 rd9 hcl hp1 ?_
      rw [if_neg (by omega)]
      simp [hx1]
      refine scp_to rfl ?_
      simp
      refine bad e1 h9 ?_ (old _ w9)
      rw [hdec2, hlp2]; simp [hx1]
  · have hni : n - i = 0 := by omega
    simp
    refine done39 rd hcl hp ?_
    by_cases hx : e = 0
    · subst hx
      have hlp := he0 rfl
      rw [hni, lpS] at hlp
      by_cases hlt2 : p < cs.length
      · rw [if_pos ⟨rfl, hlt2⟩]
        simp
        refine scp_to rfl ?_
        simp
        refine bad 15 h' ?_ (old _ hw)
        rw [hdec2, ← hlp]; simp [hlt2]
      · rw [if_neg (by omega)]
        simp
        have hens : Ens (cfgR ro) h' vv acc := hm.sl
        refine right40 hens (by omega) ?_
        simp
        refine orB (fun h10 => ?_) (fun h10 => ?_)
        · simp [h10]
          have : decS 210 bs = (acc, 0) := by rw [hdec2, ← hlp]; simp [hlt2, h10]
          rw [this] at hq
          exact hq _ _ (old _ hw) (hm.base k12.1)
        · simp [h10]
          refine scp_to rfl ?_
          simp
          refine bad 11 h' ?_ (old _ hw)
          rw [hdec2, ← hlp]; simp [hlt2, h10]
    · rw [if_neg (by omega)]
      simp [hx]
      refine scp_to rfl ?_
      simp
      refine bad e h' ?_ (old _ hw)
      rw [hdec2, (he1 hx).2]; simp [hx]
end
end Go.Proofs.Ytomhcjiefmaopaa
set_option linter.all false
set_option maxRecDepth 100000
set_option maxHeartbeats 4000000
namespace Go.Proofs.Ytomhcjiefmaopaa
open Go Go.RowKit Go.Proofs

@[simp] theorem same_self (v : AVal) : sameRes (.ok v) v = true := AVal.beq_refl v

section
variable {ro : Nat → Option (List AVal)}

theorem read13 {h : AHeap} {v : AVal} {bs : List UInt8} (hv : BS (cfgR ro) h v bs) (hs : ∀ o f l q, v ≠ .slc o f l q) (hn : bs.length ≤ 2 ^ 40) {Q : AVal → AHeap → Prop}
    (hq : ∀ v' h', Old h h' → Mine h h' 2 ((decS 210 bs).1.map ecells) v' → Q (.tuple [v', .int .i64 (decS 210 bs).2]) h') : Ev (cfgR ro) 13 [v] h Q := by
  refine Ev.wp rfl rfl Try.func13 rfl ?_
  have hL : ∀ h', Old h h' → lenR (cfgR ro) h' 24 v = .ok (.int .i64 bs.length) := fun h' ho => (hv.old ho).lenR un24
  have hL0 := hL h (Old.refl h)
  have bad : ∀ (x : Nat) (h' : AHeap), decS 210 bs = ([], x) → Old h h' → Q (.tuple [.nils, .int .i64 x]) h' := fun x h' hx ho => by rw [hx] at hq; exact hq _ _ ho (Mine.nil _ _ _)
  have hconv : ∀ h', Old h h' → convR (cfgR ro) h' 24 9 v = .ok (.str bs) := fun h' ho => (hv.old ho).conv un24 un9 un5
  have hconv0 := hconv h (Old.refl h)
  simp [Try.f13, hL0]
  refine orD (fun h1 => ?_) (fun h1 => ?_)
  · simp [h1, hL0]
    exact bad 31 h (by unfold decS openS; rw [if_pos (by omega)]) (Old.refl h)
  obtain ⟨n, hn4⟩ : ∃ n, bs.length = n + 4 := ⟨bs.length - 4, by omega⟩
  have e0 : IntKind.i64.wrap ((bs.length : Int) - 4) = (n : Int) := by rw [w64 (by omega) (by omega)]; omega
  obtain ⟨vc, u1, u2⟩ := hv.upto (n := n) (by omega) hs (k := .i64)
  obtain ⟨cs, hcs⟩ : ∃ cs, cs = bs.take n := ⟨_, rfl⟩
  rw [← hcs] at u2
  have hcl : cs.length = n := by rw [hcs]; simp; omega
  simp [h1, hL0, e0, u1]
  refine seal42 u2 (by omega) (fun v2 h2 m2 k2 => ?_)
  have hconv2 := hconv h2 k2
  have hcv2 : convR (cfgR ro) h2 24 9 v2 = .ok (.str (sealS cs)) := m2.toBS.conv un24 un9 un5
  have hL2 := hL h2 k2
  simp [h1, hL2, e0, -convR, hconv2, hcv2]
  refine ⟨.inl (by decide +kernel), .inl (by decide +kernel), by first | exact .inl (by decide +kernel) | (right; simp [-convR, hconv0]), ?_⟩
  have hop : openS bs = if sealS cs = bs then some cs else none := by
    unfold openS
    rw [if_neg (by omega), show bs.length - 4 = n by omega, ← hcs]
    by_cases hx : sealS cs = bs
    · rw [if_pos hx, if_pos hx.symm]
    · rw [if_neg hx, if_neg (fun h => hx h.symm)]
  refine orD (fun h3 => ?_) (fun h3 => ?_)
  rotate_left
  · simp
    exact bad 31 h2 (by unfold decS; rw [hop, if_neg h3]) k2
  rw [if_pos h3] at hop
  have hdec : decS 210 bs = if (cs.getD 0 0).toNat ≠ 210 ∨ cs.length = 0 then ([], 30) else
    if (listS cs).2.2 ≠ 0 then ([], (listS cs).2.2) else if (listS cs).2.1 < cs.length then ([], 15) else if rightB (listS cs).1 = false then ([], 11) else ((listS cs).1, 0) := by
    unfold decS; rw [hop]
  obtain ⟨c3, u3, u4⟩ := (hv.old k2).upto (n := n) (by omega) hs (k := .i64)
  rw [← hcs] at u4
  have hL3 : lenR (cfgR ro) h2 24 c3 = .ok (.int .i64 cs.length) := u4.lenR un24
  simp [hL2, e0, u3, hL3]
  refine orD (fun h4 => ?_) (fun h4 => ?_)
  · simp [h4]
    exact bad 30 h2 (by rw [hdec, if_pos (.inr (by first | omega | (subst h4; rfl)))]) k2
  have hpos : 0 < cs.length := by
    first | omega | (exact List.length_pos_iff.2 h4)
  have hx0 : indexAddrR Try.prog 24 c3 (.int .i64 0) = .ok (elp c3 1 0) := u4.idx un24 sz5 hpos
  have ha0 : loadR (cfgR ro) h2 5 (elp c3 1 0) = .ok (.int .u8 cs[0].toNat) := u4.load hpos ag5
  have hg0 : cs.getD 0 0 = cs[0] := by simp [hpos]
  obtain ⟨b0, hb0⟩ : ∃ b, b = cs[0].toNat := ⟨_, rfl⟩
  rw [← hb0] at ha0
  simp [h4, hx0, ha0]
  refine orD (fun h5 => ?_) (fun h5 => ?_)
  rotate_left
  · simp
    exact bad 30 h2 (by rw [hdec, if_pos (.inl (by rw [hg0, ← hb0]; omega))]) k2
  have hdec2 : decS 210 bs = if (listS cs).2.2 ≠ 0 then ([], (listS cs).2.2) else if (listS cs).2.1 < cs.length then ([], 15) else if rightB (listS cs).1 = false then ([], 11) else ((listS cs).1, 0) := by
    rw [hdec, if_neg]; rw [hg0, ← hb0]; omega
  simp
  have hcl2 : cs.length ≤ 2 ^ 40 := by omega
  refine readnum43 (a := 1) (limit := 65536) u4 hcl2 (by decide) (by decide) (fun nn p x hrd => ?_)
  obtain ⟨f1, f2, f3⟩ := rdGo_lt hrd
  simp
  obtain ⟨I, hI⟩ : ∃ I : Nat → List AVal → AHeap → Prop, I = fun m env h' => ∃ (i p e : Nat) (acc : List En) (vv z : AVal), i + m = nn ∧ Old h2 h' ∧ p ≤ 2 ^ 40 ∧ Mine h2 h' 2 (acc.map ecells) vv ∧ acc.length = i ∧
      (e = 0 → lpS cs (nn - i) p acc = listS cs) ∧ (e ≠ 0 → (listS cs).2.2 = e) ∧ nn ≤ 65536 ∧ env = (.dead :: .dead :: .dead :: .dead :: c3 :: vv :: .int .u64 nn :: .int .i64 p :: .int .i64 e :: .int .u64 i :: .dead :: .dead :: .dead :: .dead :: .dead :: .dead :: .dead :: .dead :: .dead :: .dead :: .dead :: .dead :: .dead :: .dead :: .dead :: .dead :: .dead :: .dead :: .dead :: .dead :: .dead :: .dead :: .dead :: .dead :: .dead :: .dead :: .dead :: .dead :: .dead :: .dead :: .dead :: .dead :: .dead :: .dead :: .dead :: .dead :: .dead :: .dead :: .dead :: .dead :: .dead :: .dead :: .dead :: .dead :: .dead :: .dead :: .dead :: .dead :: .dead :: .dead :: .dead :: .dead :: .dead :: .dead :: .dead :: .dead :: .dead :: .dead :: .dead :: .dead :: .dead :: .dead :: .dead :: .dead :: .dead :: .dead :: .dead :: .dead :: .dead :: .dead :: .dead :: .dead :: .dead :: .dead :: .dead :: .dead :: .dead :: .dead :: .dead :: .dead :: .dead :: []) := ⟨_, rfl⟩
  refine loop_of I ?_ nn (by
    rw [hI]
    refine ⟨0, p, x, [], .nils, .dead, by omega, Old.refl _, ?_, Mine.nil _ _ _, rfl, fun hx => ?_, fun hx => ?_, ?_, rfl⟩
    · by_cases hx : x = 0
      · have := (f1 hx).2.1; omega
      · rw [(f2 hx).1]; decide
    · unfold listS; rw [show rdNum cs 1 65536 = (nn, p, x) from hrd]; simp [hx]
    · unfold listS; rw [show rdNum cs 1 65536 = (nn, p, x) from hrd]; simp [hx]
    · by_cases hx : x = 0
      · exact (f1 hx).2.2
      · rw [(f2 hx).2]; decide)
  rintro m env h' hi
  rw [hI] at hi
  obtain ⟨i, p, e, acc, vv, z, hin, ho, hp, hm, hal, he0, he1, hn6, rfl⟩ := hi
  have hwi : IntKind.u64.wrap ((i : Int) + 1) = ((i + 1 : Nat) : Int) := by rw [wrap64]; omega
  have uc := u4.old ho
  have fin : (e ≠ 0 ∨ nn - i = 0) → True := fun _ => trivial
  simp
  refine orD (fun h6 => ?_) (fun h6 => ?_)
  · simp [h6]
    refine orD (fun h7 => ?_) (fun h7 => ?_)
    · have he : e = 0 := by omega
      subst he
      have hlp := he0 rfl
      rw [show nn - i = (nn - (i + 1)) + 1 by omega] at hlp
      simp
      refine readnum43 (limit := 65535) uc hcl2 hp (by decide) (fun a1 p1 e1 hr1 => ?_)
      obtain ⟨g1, g2, g3⟩ := rdGo_lt hr1
      have hp1 : p1 ≤ 2 ^ 40 := by
        by_cases hx : e1 = 0
        · have := (g1 hx).2.1; omega
        · rw [(g2 hx).1]; exact hp
      have a1b : a1 < 65536 := by
        by_cases hx : e1 = 0
        · have := (g1 hx).2.2; omega
        · rw [(g2 hx).2]; decide
      have c1 : IntKind.u16.wrap (a1 : Int) = (a1 : Int) := by rw [wrap16]; omega
      obtain ⟨i1, hi1⟩ : ∃ x : Int, x = ((i + 1 : Nat) : Int) := ⟨_, rfl⟩
      rw [← hi1] at hwi
      simp
      refine orD (fun h8 => ?_) (fun h8 => ?_)
      · have hx1 : e1 = 0 := by omega
        subst hx1
        simp
        refine readnum43 (limit := 268435456) uc hcl2 hp1 (by decide) (fun b p2 e2 hr2 => ?_)
        obtain ⟨q1, q2, q3⟩ := rdGo_lt hr2
        have hp2 : p2 ≤ 2 ^ 40 := by
          by_cases hx : e2 = 0
          · have := (q1 hx).2.1; omega
          · rw [(q2 hx).1]; exact hp1
        have hbb : b < 4294967296 := by
          by_cases hx : e2 = 0
          · have := (q1 hx).2.2; omega
          · rw [(q2 hx).2]; decide
        have c2 : IntKind.u32.wrap (b : Int) = (b : Int) := by rw [wrap32]; omega
        obtain ⟨v9, h9, x1, m9, o9⟩ := (hm.keep ((Old.refl h').push (.row 2 false (ecells (a1, b))))).append1 (bytes := 8) (e := ecells (a1, b)) (by omega) rfl (by simp; omega) (ho.push _)
        simp only [ecells] at x1
        rw [lpS_step hr1 hr2] at hlp
        simp only [ne_eq, not_true_eq_false, if_false] at hlp
        simp [c1, c2, buildSliceR, reps, x1, hwi]
        exact .mk (m := m - 1) (by omega) (by
          rw [hI]
          refine ⟨i + 1, p2, e2, acc ++ [(a1, b)], v9, .dead, by omega, o9, hp2, by rw [List.map_append]; exact m9, by simp [hal], fun hx => ?_, fun hx => ?_, hn6, by rw [hi1]⟩
          · rw [if_neg (by omega)] at hlp; exact hlp
          · rw [if_pos hx] at hlp; rw [← hlp])
      · have hx1 : e1 ≠ 0 := by omega
        obtain ⟨v9, h9, x1, m9, o9⟩ := (hm.keep ((Old.refl h').push (.row 2 false (ecells (a1, 0))))).append1 (bytes := 8) (e := ecells (a1, 0)) (by omega) rfl (by simp; omega) (ho.push _)
        have c2 : IntKind.u32.wrap 0 = 0 := by decide
        simp only [ecells] at x1
        simp at x1
        simp [c1, c2, buildSliceR, reps, x1, hwi]
        exact .mk (m := m - 1) (by omega) (by
          rw [hI]
          refine ⟨i + 1, p1, e1, acc ++ [(a1, 0)], v9, .dead, by omega, o9, hp1, by rw [List.map_append]; exact m9, by simp [hal], fun hx => absurd hx hx1, fun _ => ?_, hn6, by rw [hi1]⟩
          rw [← hlp, lpS, hr1]; simp [hx1])
    · have hx : e ≠ 0 := by omega
      simp [hx]
      exact bad e h' (by rw [hdec2, he1 hx]; simp [hx]) (k2.trans ho)
  · simp [h6]
    by_cases hx : e = 0
    · subst hx
      have hlp := he0 rfl
      rw [show nn - i = 0 by omega, lpS] at hlp
      have hL4 : lenR (cfgR ro) h' 24 c3 = .ok (.int .i64 cs.length) := uc.lenR un24
      simp [hL4]
      refine orD (fun h7 => ?_) (fun h7 => ?_)
      · simp
        exact bad 15 h' (by rw [hdec2, ← hlp]; simp; omega) (k2.trans ho)
      · simp
        have hens : Ens (cfgR ro) h' vv acc := hm.sl
        refine right8 hens (by omega) ?_
        simp
        refine orB (fun h10 => ?_) (fun h10 => ?_)
        · simp [h10]
          have hd : decS 210 bs = (acc, 0) := by
            rw [hdec2, ← hlp]
            simp only [ne_eq, not_true_eq_false, if_false]
            rw [if_neg (by omega), h10]; rfl
          rw [hd] at hq
          exact hq _ _ (k2.trans ho) (hm.base k2.1)
        · simp [h10]
          refine bad 11 h' ?_ (k2.trans ho)
          rw [hdec2, ← hlp]
          simp only [ne_eq, not_true_eq_false, if_false]
          rw [if_neg (by omega), if_pos h10]
    · simp [hx]
      exact bad e h' (by rw [hdec2, he1 hx]; simp [hx]) (k2.trans ho)
end
end Go.Proofs.Ytomhcjiefmaopaa
set_option linter.all false
set_option maxRecDepth 100000
set_option maxHeartbeats 4000000
namespace Go.Proofs.Ytomhcjiefmaopaa
open Go Go.RowKit Go.Proofs

theorem open_seal (x : List UInt8) : openS (sealS x) = some x := by
  unfold openS
  have hl : (sealS x).length = x.length + 4 := by simp [sealS, crc4]
  rw [if_neg (by omega), hl, show x.length + 4 - 4 = x.length by omega]
  have ht : (sealS x).take x.length = x := by unfold sealS; simp
  rw [ht, if_pos rfl]
theorem lp_body : ∀ (l : List En) (pre : List UInt8) (acc : List En), (∀ e ∈ l, e.1 ≤ 65535 ∧ e.2 ≤ 268435456) → lpS (pre ++ bodyS l) l.length pre.length acc = (acc ++ l, (pre ++ bodyS l).length, 0)
  | [], pre, acc, _ => by simp [lpS, bodyS]
  | e :: l, pre, acc, h => by
    obtain ⟨h1, h2⟩ := h e (by simp)
    have r1 := rdNum_num (pre := pre) (post := numS e.2 ++ bodyS l) (m := e.1) (limit := 65535) (by omega) h1
    have r2 := rdNum_num (pre := pre ++ numS e.1) (post := bodyS l) (m := e.2) (limit := 268435456) (by omega) h2
    have e1 : pre ++ bodyS (e :: l) = pre ++ (numS e.1 ++ (numS e.2 ++ bodyS l)) := rfl
    have e2 : pre ++ (numS e.1 ++ (numS e.2 ++ bodyS l)) = (pre ++ numS e.1) ++ (numS e.2 ++ bodyS l) := by simp
    rw [e1, List.length_cons, e2]
    rw [e2] at r1
    rw [List.length_append] at r2
    rw [lpS_step r1 r2]
    simp only [ne_eq, not_true_eq_false, if_false]
    have ih := lp_body l ((pre ++ numS e.1) ++ numS e.2) (acc ++ [e]) (fun x hx => h x (by simp [hx]))
    have e3 : (pre ++ numS e.1) ++ (numS e.2 ++ bodyS l) = ((pre ++ numS e.1) ++ numS e.2) ++ bodyS l := by simp
    rw [e3]
    have e4 : pre.length + (numS e.1).length + (numS e.2).length = ((pre ++ numS e.1) ++ numS e.2).length := by simp; omega
    rw [e4, ih]
    simp
theorem dec_enc {l : List En} (hn : l.length ≤ 65536) (hok : ∀ e ∈ l, enOk e) (hr : rightB l = true) : decS 210 (sealS (encS 210 l)) = (l, 0) := by
  unfold decS
  rw [open_seal]
  have hb : ∀ e ∈ l, e.1 ≤ 65535 ∧ e.2 ≤ 268435456 := by
    intro e he
    obtain ⟨i, hi, rfl⟩ := List.getElem_of_mem he
    have h1 := List.all_eq_true.1 hr i (List.mem_range.2 hi)
    unfold okB at h1
    simp [hi] at h1
    have h2 := (hok _ (List.getElem_mem hi)).1
    exact ⟨by omega, h1.1.2⟩
  have hlist : listS (encS 210 l) = (l, (encS 210 l).length, 0) := by
    have r0 := rdNum_num (pre := [210]) (post := bodyS l) (m := l.length) (limit := 65536) (by omega) hn
    have e0 : encS 210 l = [210] ++ (numS l.length ++ bodyS l) := rfl
    have e1 : encS 210 l = ([210] ++ numS l.length) ++ bodyS l := by simp [encS]
    unfold listS
    rw [show rdNum (encS 210 l) 1 65536 = (l.length, 1 + (numS l.length).length, 0) from r0]
    simp only [ne_eq, not_true_eq_false, if_false]
    have := lp_body l ([210] ++ numS l.length) [] hb
    rw [← e1, show (([210] : List UInt8) ++ numS l.length).length = 1 + (numS l.length).length from by simp; omega] at this
    rw [this]; simp
  simp only [hlist]
  rw [if_neg]
  · simp [hr]
  · have h1 : (encS 210 l).getD 0 0 = 210 := rfl
    rw [h1]
    simp [encS]

theorem lp_len {cs : List UInt8} : ∀ (m p : Nat) (acc : List En), (lpS cs m p acc).1.length ≤ acc.length + m
  | 0, p, acc => by simp [lpS]
  | m + 1, p, acc => by
    rw [lpS]
    split
    · simp
    · split
      · simp
      · have := lp_len (cs := cs) m (rdNum cs (rdNum cs p 65535).2.1 268435456).2.1 (acc ++ [((rdNum cs p 65535).1, (rdNum cs (rdNum cs p 65535).2.1 268435456).1)])
        simp only [List.length_append, List.length_cons, List.length_nil] at this
        omega
theorem list_len (cs : List UInt8) : (listS cs).1.length ≤ 65536 := by
  unfold listS
  split
  · simp
  · rename_i h
    have h1 := lp_len (cs := cs) (rdNum cs 1 65536).1 (rdNum cs 1 65536).2.1 []
    have h2 := (rdGo_lt (show rdGo cs 1 65536 9 0 0 = ((rdNum cs 1 65536).1, (rdNum cs 1 65536).2.1, (rdNum cs 1 65536).2.2) from rfl)).1 (by simpa using h)
    simp at h1
    omega
theorem dec_len (bs : List UInt8) : (decS 210 bs).1.length ≤ 2 ^ 40 := by
  unfold decS
  split
  · simp
  · rename_i cs _
    have := list_len cs
    repeat' split
    all_goals simp
    omega

def isTrueR : Res (AVal × AHeap) → Bool
  | .ok (.bool true, _) => true
  | _ => false
theorem isTrueR_ok {r : Res (AVal × AHeap)} (h : isTrueR r = true) : ∃ h', r = .ok (.bool true, h') := by
  unfold isTrueR at h
  split at h
  · exact ⟨_, rfl⟩
  · cases h
section
variable {ro : Nat → Option (List AVal)}
theorem anchor6 : ∃ h', Run (cfgR ro) 6 [] heap0 (.bool true) h' := by
  have h : isTrueR (callF (cfgR ro) 400 6 [] heap0) = true := by kernel_rfl
  obtain ⟨h', e⟩ := isTrueR_ok h
  exact ⟨h', 400, e⟩

theorem law3 {v b : AVal} {l : List En} {bs : List UInt8} (hv : ∀ h, Ens (cfgR ro) h v l) (hok : ∀ e ∈ l, enOk e) (hb : ∀ h, BS (cfgR ro) h b bs) (hs : ∀ o f l q, b ≠ .slc o f l q) : Ev (cfgR ro) 3 [v, b] heap0 (fun v h => v = .bool true) := by
  refine Ev.wp rfl rfl Try.func3 rfl ?_
  obtain ⟨h1, ha⟩ := anchor6 (ro := ro)
  have hL : ∀ h, lenR (cfgR ro) h 23 v = .ok (.int .i64 l.length) := fun h => by have := (hv h).lenR (t := 23) un23; simpa using this
  have hL2 : ∀ h, lenR (cfgR ro) h 24 b = .ok (.int .i64 bs.length) := fun h => (hb h).lenR un24
  simp [Try.f3, Ev.run ha, hL]
  refine orD (fun h2 => ?_) (fun h2 => ?_)
  · simp [h2]
  simp [h2, hL2]
  refine orD (fun h3 => ?_) (fun h3 => ?_)
  · simp
  simp
  refine vec7 (hv h1) (by omega) (fun x h4 k4 m4 => ?_)
  have dl : (decS 210 bs).1.length ≤ 2 ^ 40 := dec_len bs
  have hx : ∀ h5, Old h4 h5 → Ens (cfgR ro) h5 x l := fun h5 ho => (Mine.sl m4).old ho
  simp
  refine right8 (hx h4 (Old.refl _)) (by omega) ?_
  simp
  refine orB (fun h6 => ?_) (fun h6 => ?_)
  · simp [h6]
    refine enc9 (hv h4) (by omega) hok (fun c h7 k7 m7 => ?_)
    have bl := body_len hok
    have nl := numS_len 8 l.length (by omega)
    have hcl : (sealS (encS 210 l)).length ≤ 2 ^ 40 := by simp [sealS, crc4, encS]; omega
    simp
    refine dec10 m7.toBS m7.noSlc hcl (fun u h8 k8 m8 => ?_)
    rw [dec_enc (by omega) hok h6] at m8 ⊢
    have bc : BS (cfgR ro) h8 c (sealS (encS 210 l)) := m7.toBS.old k8
    have cc : convR (cfgR ro) h8 24 9 c = .ok (.str (sealS (encS 210 l))) := bc.conv un24 un9 un5
    simp [-convR, cc]
    refine bytes11 (hx h8 (k7.trans k8)) (by omega) hok (fun w h9 k9 m9 => ?_)
    have cw : convR (cfgR ro) h9 24 9 w = .ok (.str (sealS (encS 210 l))) := m9.toBS.conv un24 un9 un5
    have cc9 : convR (cfgR ro) h9 24 9 c = .ok (.str (sealS (encS 210 l))) := (bc.old k9).conv un24 un9 un5
    simp [-convR, cw, cc9]
    refine ⟨.inl (by decide +kernel), ?_⟩
    refine same12 ((Mine.sl m8).old k9) (hx h9 ((k7.trans k8).trans k9)) (show l.length ≤ 2 ^ 40 by omega) ?_
    simp [-convR, cw, cc9]
    refine dec10 (hb _) hs (by omega) (fun u1 ha ka ma => ?_)
    simp
    refine read13 (hb _) hs (by omega) (fun u2 hb2 kb mb => ?_)
    simp
    refine same12 ((Mine.sl ma).old kb) mb.sl dl ?_
    simp
  · simp [h6]
    refine dec10 (hb _) hs (by omega) (fun u1 ha ka ma => ?_)
    simp
    refine read13 (hb _) hs (by omega) (fun u2 hb2 kb mb => ?_)
    simp
    refine same12 ((Mine.sl ma).old kb) mb.sl dl ?_
    simp
end
end Go.Proofs.Ytomhcjiefmaopaa
