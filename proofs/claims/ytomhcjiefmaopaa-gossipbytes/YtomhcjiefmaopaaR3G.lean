/-
  A part of the proof of GossipBytes, over the seat Ytomhcjiefmaopaa: for every input the law returns true, and the input reads as it did.
-/
import Derived.Test.YtomhcjiefmaopaaR3F
set_option linter.all false
set_option maxRecDepth 100000
set_option maxHeartbeats 4000000
namespace Go.Proofs.Ytomhcjiefmaopaa
open Go Go.RowKit Go.Proofs
section
variable {ro : Nat → Option (List AVal)}

theorem right8 {h : AHeap} {v : AVal} {l : List En} (hv : Ens (cfgR ro) h v l) (hn : l.length ≤ 2 ^ 40) {Q : AVal → AHeap → Prop} (hq : Q (.bool (rightB l)) h) : Ev (cfgR ro) 8 [v] h Q := by
  refine Ev.wp rfl rfl Try.func8 rfl ?_
  have hL : lenR (cfgR ro) h 26 v = .ok (.int .i64 l.length) := by have := hv.lenR (t := 26) un26; simpa using this
  have hX : ∀ i, i < l.length → indexAddrR Try.prog 26 v (.int .i64 (i : Int)) = .ok (elp v 2 i) := fun i hi => hv.idx un26 sz89 (by simpa using hi)
  have hO : ∀ i d, i < l.length → addOff (elp v 2 i) d = .ok (elpo v 2 i d) := fun i d hi => elp_off hv (by simpa using hi)
  have hA0 : ∀ i (hi : i < l.length), loadR (cfgR ro) h 38 (elpo v 2 i 0) = .ok (.int .u16 (l.getD i (0, 0)).1) := fun i hi => hv.loadF (Ens.at hi) rfl ag38
  have hA1 : ∀ i (hi : i < l.length), loadR (cfgR ro) h 40 (elpo v 2 i 1) = .ok (.int .u32 (l.getD i (0, 0)).2) := fun i hi => hv.loadF (Ens.at hi) rfl ag40
  simp [Try.f8]
  obtain ⟨I, hI⟩ : ∃ I : Nat → List AVal → AHeap → Prop, I = fun m env h' => ∃ (i : Nat), i + m = l.length ∧ h' = h ∧ (∀ j, j < i → j < l.length → okB l j = true) ∧ env = (v :: .dead :: .dead :: .int .i64 i :: .dead :: .dead :: .dead :: .dead :: .dead :: .dead :: .dead :: .dead :: .dead :: .dead :: .dead :: .dead :: .dead :: .dead :: .dead :: .dead :: .dead :: .dead :: .dead :: .dead :: .dead :: .dead :: .dead :: .dead :: .dead :: .dead :: .dead :: .dead :: .dead :: .dead :: .dead :: .dead :: .dead :: .dead :: .dead :: .dead :: []) := ⟨_, rfl⟩
  refine loop_of I ?_ l.length (by rw [hI]; exact ⟨0, by simp, rfl, by simp, rfl⟩)
  rintro m env h' hi
  rw [hI] at hi
  obtain ⟨i, hin, rfl, hok, rfl⟩ := hi
  have hw : IntKind.i64.wrap ((i : Int) + 1) = ((i + 1 : Nat) : Int) := by rw [w64 (by omega) (by omega)]; omega
  simp [hL]
  refine orD (fun h1 => ?_) (fun h1 => ?_)
  · obtain ⟨i1, hi1⟩ : ∃ x : Int, x = ((i + 1 : Nat) : Int) := ⟨_, rfl⟩
    rw [← hi1] at hw
    have good : okB l i = true → I (m - 1) (v :: .dead :: .dead :: .int .i64 i1 :: .dead :: .dead :: .dead :: .dead :: .dead :: .dead :: .dead :: .dead :: .dead :: .dead :: .dead :: .dead :: .dead :: .dead :: .dead :: .dead :: .dead :: .dead :: .dead :: .dead :: .dead :: .dead :: .dead :: .dead :: .dead :: .dead :: .dead :: .dead :: .dead :: .dead :: .dead :: .dead :: .dead :: .dead :: .dead :: .dead :: []) h' := by
      intro hb
      rw [hI]
      refine ⟨i + 1, by omega, rfl, fun j hj hl => ?_, by rw [hi1]⟩
      by_cases hji : j = i
      · subst hji; exact hb
      · exact hok j (by omega) hl
    have bad : okB l i = false → Q (.bool false) h' := fun hb => by rw [right_false h1 hb] at hq; exact hq
    have hx := hX i h1
    have ho0 := hO i 0 h1
    have ho1 := hO i 1 h1
    have ha0 := hA0 i h1
    have ha1 := hA1 i h1
    have hprev : 0 < i → ∃ p, p = (l.getD (i - 1) (0, 0)).1 ∧ IntKind.i64.wrap ((i : Int) - 1) = ((i - 1 : Nat) : Int) := fun h0 => ⟨_, rfl, by rw [w64 (by omega) (by omega)]; omega⟩
    unfold okB at good bad
    obtain ⟨s, hs⟩ : ∃ s, s = (l.getD i (0, 0)).2 := ⟨_, rfl⟩
    obtain ⟨r, hr⟩ : ∃ r, r = (l.getD i (0, 0)).1 := ⟨_, rfl⟩
    obtain ⟨p, hp⟩ : ∃ r, r = (l.getD (i - 1) (0, 0)).1 := ⟨_, rfl⟩
    rw [← hs, ← hr, ← hp] at good bad
    rw [← hr] at ha0
    rw [← hs] at ha1
    simp [hx, ho1, ha1]
    refine orD (fun h2 => ?_) (fun h2 => ?_)
    · simp [h2]
      exact bad (by simp; intro h3; omega)
    simp [h2, hx, ho1, ha1]
    refine orD (fun h3 => ?_) (fun h3 => ?_)
    · simp
      exact bad (by simp; intro _ h4; omega)
    simp [h2, h3]
    refine orD (fun h4 => ?_) (fun h4 => ?_)
    · have h4' : 0 < i := by omega
      have hwp : IntKind.i64.wrap ((i : Int) - 1) = ((i - 1 : Nat) : Int) := by rw [w64 (by omega) (by omega)]; omega
      have hxp := hX (i - 1) (by omega)
      have hop := hO (i - 1) 0 (by omega)
      have hap := hA0 (i - 1) (by omega)
      rw [← hp] at hap
      obtain ⟨ip, hip⟩ : ∃ x : Int, x = ((i - 1 : Nat) : Int) := ⟨_, rfl⟩
      rw [← hip] at hwp hxp
      simp [h4', hwp, hxp, hop, hap, hx, ho0, ha0]
      refine orD (fun h5 => ?_) (fun h5 => ?_)
      · simp
        exact bad (by simp; intro _ _; omega)
      · simp [hw]
        exact .mk (m := m - 1) (by omega) (good (by simp; omega))
    · simp [h4, hw]
      exact .mk (m := m - 1) (by omega) (good (by simp; omega))
  · simp
    rw [right_true (by omega) hok] at hq; exact hq

theorem right40 {h : AHeap} {v : AVal} {l : List En} (hv : Ens (cfgR ro) h v l) (hn : l.length ≤ 2 ^ 40) {Q : AVal → AHeap → Prop} (hq : Q (.bool (rightB l)) h) : Ev (cfgR ro) 40 [v] h Q := by
  refine Ev.wp rfl rfl Try.func40 rfl ?_
  have hL : lenR (cfgR ro) h 23 v = .ok (.int .i64 l.length) := by have := hv.lenR (t := 23) un23; simpa using this
  have hX : ∀ i, i < l.length → indexAddrR Try.prog 23 v (.int .i64 (i : Int)) = .ok (elp v 2 i) := fun i hi => hv.idx un23 sz88 (by simpa using hi)
  have hO : ∀ i d, i < l.length → addOff (elp v 2 i) d = .ok (elpo v 2 i d) := fun i d hi => elp_off hv (by simpa using hi)
  have hA : ∀ i (hi : i < l.length), loadR (cfgR ro) h 88 (elp v 2 i) = .ok (.agg (ecells (l.getD i (0, 0)))) := fun i hi => hv.load (Ens.at hi) ag88 sz88
  have hA0 : ∀ i (hi : i < l.length), loadR (cfgR ro) h 38 (elpo v 2 i 0) = .ok (.int .u16 (l.getD i (0, 0)).1) := fun i hi => hv.loadF (Ens.at hi) rfl ag38
  simp [Try.f40, hL]
  obtain ⟨I, hI⟩ : ∃ I : Nat → List AVal → AHeap → Prop, I = fun m env h' => ∃ (i : Nat), i + m = l.length ∧ h' = h ∧ (∀ j, j < i → j < l.length → okB l j = true) ∧ env = (v :: .dead :: .dead :: .dead :: .dead :: v :: .int .i64 l.length :: .int .i64 i :: .dead :: .dead :: .dead :: .dead :: .dead :: .dead :: .dead :: .dead :: .dead :: .dead :: .dead :: .dead :: .dead :: .dead :: .dead :: .dead :: .dead :: .dead :: .dead :: .dead :: .dead :: .dead :: .dead :: .dead :: .dead :: .dead :: .dead :: .dead :: []) := ⟨_, rfl⟩
  refine loop_of I ?_ l.length (by rw [hI]; exact ⟨0, by simp, rfl, by simp, rfl⟩)
  rintro m env h' hi
  rw [hI] at hi
  obtain ⟨i, hin, rfl, hok, rfl⟩ := hi
  have hw : IntKind.i64.wrap ((i : Int) + 1) = ((i + 1 : Nat) : Int) := by rw [w64 (by omega) (by omega)]; omega
  simp
  refine orD (fun h1 => ?_) (fun h1 => ?_)
  · obtain ⟨i1, hi1⟩ : ∃ x : Int, x = ((i + 1 : Nat) : Int) := ⟨_, rfl⟩
    rw [← hi1] at hw
    have good : okB l i = true → I (m - 1) (v :: .dead :: .dead :: .dead :: .dead :: v :: .int .i64 l.length :: .int .i64 i1 :: .dead :: .dead :: .dead :: .dead :: .dead :: .dead :: .dead :: .dead :: .dead :: .dead :: .dead :: .dead :: .dead :: .dead :: .dead :: .dead :: .dead :: .dead :: .dead :: .dead :: .dead :: .dead :: .dead :: .dead :: .dead :: .dead :: .dead :: .dead :: []) h' := by
      intro hb
      rw [hI]
      refine ⟨i + 1, by omega, rfl, fun j hj hl => ?_, by rw [hi1]⟩
      by_cases hji : j = i
      · subst hji; exact hb
      · exact hok j (by omega) hl
    have bad : okB l i = false → Q (.bool false) h' := fun hb => by rw [right_false h1 hb] at hq; exact hq
    have hx := hX i h1
    have ha := hA i h1
    unfold okB at good bad
    obtain ⟨s, hs⟩ : ∃ s, s = (l.getD i (0, 0)).2 := ⟨_, rfl⟩
    obtain ⟨r, hr⟩ : ∃ r, r = (l.getD i (0, 0)).1 := ⟨_, rfl⟩
    obtain ⟨p, hp⟩ : ∃ r, r = (l.getD (i - 1) (0, 0)).1 := ⟨_, rfl⟩
    rw [← hs, ← hr, ← hp] at good bad
    simp only [ecells, ← hs, ← hr] at ha
    simp [hx, ha]
    refine orD (fun h2 => ?_) (fun h2 => ?_)
    · simp [h2]
      exact bad (by simp; intro h3; omega)
    simp [h2]
    refine orD (fun h3 => ?_) (fun h3 => ?_)
    · simp [h3]
      exact bad (by simp; intro _ h4; omega)
    simp [h3]
    refine orD (fun h4 => ?_) (fun h4 => ?_)
    · have h4' : 0 < i := by omega
      have hwp : IntKind.i64.wrap ((i : Int) - 1) = ((i - 1 : Nat) : Int) := by rw [w64 (by omega) (by omega)]; omega
      have hxp := hX (i - 1) (by omega)
      have hop := hO (i - 1) 0 (by omega)
      have hap := hA0 (i - 1) (by omega)
      rw [← hp] at hap
      obtain ⟨ip, hip⟩ : ∃ x : Int, x = ((i - 1 : Nat) : Int) := ⟨_, rfl⟩
      rw [← hip] at hwp hxp
      simp [h3, h4', hwp, hxp, hop, hap]
      refine orD (fun h5 => ?_) (fun h5 => ?_)
      · simp
        exact bad (by simp; intro _ _; omega)
      · simp [hw]
        exact .mk (m := m - 1) (by omega) (good (by simp; omega))
    · simp [h3, h4, hw]
      exact .mk (m := m - 1) (by omega) (good (by simp; omega))
  · simp
    rw [right_true (by omega) hok] at hq; exact hq

theorem vec7 {h : AHeap} {v : AVal} {l : List En} (hv : Ens (cfgR ro) h v l) (hn : l.length ≤ 2 ^ 40) {Q : AVal → AHeap → Prop}
    (hq : ∀ v' h', Old h h' → Mine h h' 2 (l.map ecells) v' → Q v' h') : Ev (cfgR ro) 7 [v] h Q := by
  refine Ev.wp rfl rfl Try.func7 rfl ?_
  have hL : lenR (cfgR ro) h 23 v = .ok (.int .i64 l.length) := by have := hv.lenR (t := 23) un23; simpa using this
  have hX : ∀ i, i < l.length → indexAddrR Try.prog 23 v (.int .i64 (i : Int)) = .ok (elp v 2 i) := fun i hi => hv.idx un23 sz88 (by simpa using hi)
  have hA : ∀ h', Old h h' → ∀ i (hi : i < l.length), loadR (cfgR ro) h' 88 (elp v 2 i) = .ok (.agg (ecells (l.getD i (0, 0)))) := fun h' ho i hi => (hv.old ho).load (Ens.at hi) ag88 sz88
  simp [Try.f7, hL]
  obtain ⟨I, hI⟩ : ∃ I : Nat → List AVal → AHeap → Prop, I = fun m env h' => ∃ (i : Nat) (o : AVal), i + m = l.length ∧ Old h h' ∧ Mine h h' 2 ((l.take i).map ecells) o ∧ env = (.dead :: .dead :: .dead :: o :: .dead :: .dead :: v :: .int .i64 l.length :: .int .i64 i :: .dead :: .dead :: .dead :: .dead :: .dead :: .dead :: .dead :: .dead :: .dead :: []) := ⟨_, rfl⟩
  refine loop_of I ?_ l.length (by rw [hI]; exact ⟨0, .nils, by simp, Old.refl h, by simpa using Mine.nil h h 2, rfl⟩)
  rintro m env h' hi
  rw [hI] at hi
  obtain ⟨i, o, hin, ho, hm, rfl⟩ := hi
  simp
  refine orD (fun h3 => ?_) (fun h3 => ?_)
  · obtain ⟨v', h2, e1, m2, o2⟩ := (hm.keep ((Old.refl h').push (.row 2 false (ecells (l.getD i (0, 0)))))).append1 (bytes := 8) (e := ecells (l.getD i (0, 0))) (by omega) rfl (by simp; omega) (ho.push _)
    have ha := hA h' ho i h3
    have hcells : l.getD i (0, 0) = l[i] := by simp [h3]
    obtain ⟨e, he⟩ : ∃ e, e = l.getD i (0, 0) := ⟨_, rfl⟩
    rw [← he] at ha e1
    simp only [ecells] at e1 ha
    simp [hX i h3, ha, buildSliceR, reps, e1]
    rw [w64 (n := (i : Int) + 1) (by omega) (by omega)]
    refine .mk (m := m - 1) (by omega) (by rw [hI]; exact ⟨i + 1, v', by omega, o2, by rw [List.take_succ_eq_append_getElem h3, List.map_append, ← hcells]; exact m2, rfl⟩)
  · simp
    rw [List.take_of_length_le (by omega)] at hm
    exact hq _ _ ho hm

theorem eq89 (h : AHeap) (a b c d : Nat) : eqIn (cfgR ro) h 10000 89 (.agg [.int .u16 a, .int .u32 b]) (.agg [.int .u16 c, .int .u32 d]) = (match (a : Int) == (c : Int) with | true => (match (b : Int) == (d : Int) with | true => .ok true | false => .ok false) | false => .ok false) := by kernel_rfl

theorem same12 {h : AHeap} {v x : AVal} {l k : List En} (hv : Ens (cfgR ro) h v l) (hx : Ens (cfgR ro) h x k) (hn : l.length ≤ 2 ^ 40) {Q : AVal → AHeap → Prop} (hq : Q (.bool (decide (l = k))) h) : Ev (cfgR ro) 12 [v, x] h Q := by
  refine Ev.wp rfl rfl Try.func12 rfl ?_
  have hL : lenR (cfgR ro) h 23 v = .ok (.int .i64 l.length) := by have := hv.lenR (t := 23) un23; simpa using this
  have hL2 : lenR (cfgR ro) h 26 x = .ok (.int .i64 k.length) := by have := hx.lenR (t := 26) un26; simpa using this
  have hX : ∀ i, i < l.length → indexAddrR Try.prog 23 v (.int .i64 (i : Int)) = .ok (elp v 2 i) := fun i hi => hv.idx un23 sz88 (by simpa using hi)
  have hX2 : ∀ i, i < k.length → indexAddrR Try.prog 26 x (.int .i64 (i : Int)) = .ok (elp x 2 i) := fun i hi => hx.idx un26 sz89 (by simpa using hi)
  have hA : ∀ i (hi : i < l.length), loadR (cfgR ro) h 88 (elp v 2 i) = .ok (.agg (ecells (l.getD i (0, 0)))) := fun i hi => hv.load (Ens.at hi) ag88 sz88
  have hA2 : ∀ i (hi : i < k.length), loadR (cfgR ro) h 89 (elp x 2 i) = .ok (.agg (ecells (k.getD i (0, 0)))) := fun i hi => hx.load (Ens.at hi) ag89 sz89
  have hg : eqL 89 = true := by decide
  simp [Try.f12, hL, hL2]
  refine orD (fun h1 => ?_) (fun h1 => ?_)
  · have h1 : l.length = k.length := by omega
    simp [hL]
    obtain ⟨I, hI⟩ : ∃ I : Nat → List AVal → AHeap → Prop, I = fun m env h' => ∃ (i : Nat), i + m = l.length ∧ h' = h ∧ (∀ j, j < i → l.getD j (0, 0) = k.getD j (0, 0)) ∧ env = (v :: x :: .dead :: .dead :: .dead :: .dead :: .dead :: .dead :: .dead :: .dead :: .dead :: .dead :: .int .i64 l.length :: .int .i64 i :: .dead :: .dead :: .dead :: .dead :: .dead :: .dead :: .dead :: .dead :: .dead :: .dead :: .dead :: .dead :: []) := ⟨_, rfl⟩
    refine loop_of I ?_ l.length (by rw [hI]; exact ⟨0, by simp, rfl, by simp, by rw [h1]; rfl⟩)
    rintro m env h' hi
    rw [hI] at hi
    obtain ⟨i, hin, rfl, hok, rfl⟩ := hi
    have hw : IntKind.i64.wrap ((i : Int) + 1) = ((i + 1 : Nat) : Int) := by rw [w64 (by omega) (by omega)]; omega
    simp
    refine orD (fun h3 => ?_) (fun h3 => ?_)
    · have ha := hA i h3
      have ha2 := hA2 i (by omega)
      obtain ⟨⟨a, b⟩, he⟩ : ∃ e, e = l.getD i (0, 0) := ⟨_, rfl⟩
      obtain ⟨⟨c, d⟩, hf⟩ : ∃ e, e = k.getD i (0, 0) := ⟨_, rfl⟩
      rw [← he] at ha
      rw [← hf] at ha2
      simp only [ecells] at ha ha2
      have heq := eq89 (ro := ro) h' a b c d
      obtain ⟨i1, hi1⟩ : ∃ x : Int, x = ((i + 1 : Nat) : Int) := ⟨_, rfl⟩
      rw [← hi1] at hw
      have no : (a, b) ≠ (c, d) → Q (.bool false) h' := by
        intro hne
        have : decide (l = k) = false := by
          rw [decide_eq_false_iff_not]; intro hlk; subst hlk; exact hne (he.trans hf.symm)
        rw [this] at hq; exact hq
      by_cases e1 : (a : Int) = (c : Int)
      · by_cases e2 : (b : Int) = (d : Int)
        · have heq : eqIn (cfgR ro) h' 10000 89 (.agg [.int .u16 a, .int .u32 b]) (.agg [.int .u16 c, .int .u32 d]) = .ok true := by rw [heq]; simp [e1, e2]
          simp [hX i h3, hX2 i (by omega), ha, ha2, hg, heq, hw]
          refine .mk (m := m - 1) (by omega) (by
            rw [hI]
            refine ⟨i + 1, by omega, rfl, fun j hj => ?_, by rw [hi1]⟩
            by_cases hji : j = i
            · subst hji; rw [← he, ← hf]; have e1 : a = c := by omega
              have e2 : b = d := by omega
              rw [e1, e2]
            · exact hok j (by omega))
        · have heq : eqIn (cfgR ro) h' 10000 89 (.agg [.int .u16 a, .int .u32 b]) (.agg [.int .u16 c, .int .u32 d]) = .ok false := by
            rw [heq]
            have q1 : ((a : Int) == (c : Int)) = true := by simpa using e1
            have q2 : ((b : Int) == (d : Int)) = false := by simpa using e2
            rw [q1, q2]
          simp [hX i h3, hX2 i (by omega), ha, ha2, hg, heq]
          exact no (fun h => e2 (by injection h with _ h; omega))
      · have heq : eqIn (cfgR ro) h' 10000 89 (.agg [.int .u16 a, .int .u32 b]) (.agg [.int .u16 c, .int .u32 d]) = .ok false := by
          rw [heq]
          have q1 : ((a : Int) == (c : Int)) = false := by simpa using e1
          rw [q1]
        simp [hX i h3, hX2 i (by omega), ha, ha2, hg, heq]
        exact no (fun h => e1 (by injection h with h _; omega))
    · simp
      have : l = k := by
        apply List.ext_getElem h1
        intro j h4 h5
        have := hok j (by omega)
        simpa [h4, h5] using this
      simpa [this] using hq
  · simp
    have : decide (l = k) = false := by
      rw [decide_eq_false_iff_not]; intro hlk; subst hlk; exact h1 rfl
    rw [this] at hq; exact hq
end
end Go.Proofs.Ytomhcjiefmaopaa
