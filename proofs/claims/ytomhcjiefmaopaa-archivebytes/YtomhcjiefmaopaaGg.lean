/-
  A part of the proof of ArchiveBytes, over the seat Ytomhcjiefmaopaa: for every input the law returns true, and the input reads as it did.
-/
import Derived.Test.YtomhcjiefmaopaaGf
import Derived.Test.YtomhcjiefmaopaaGe
set_option linter.all false
set_option linter.all false
set_option maxRecDepth 100000
set_option maxHeartbeats 4000000
namespace Go.Proofs.Ytomhcjiefmaopaa
open Go Go.RowKit Go.Proofs
section
variable {ro : Nat → Option (List AVal)}

theorem right8 {h : AHeap} {v : AVal} {l : List En} (hv : Ens (cfgR ro) h v l) (hn : l.length ≤ 2 ^ 40) {Q : AVal → AHeap → Prop} (hq : Q (.bool (rightB l)) h) : Ev (cfgR ro) 8 [v] h Q := by
  refine Ev.wp rfl rfl Try.func8 rfl ?_
  have hL : lenR (cfgR ro) h 26 v = .ok (.int .i64 l.length) := by have := hv.lenR (t := 26) un26; simpa using this
  have hX : ∀ i, i < l.length → indexAddrR Try.prog 26 v (.int .i64 (i : Int)) = .ok (elp v 2 i) := fun i hi => hv.idx un26 sz89 (by simpa using hi)
  have hO : ∀ i d, i < l.length → addOff (elp v 2 i) d = .ok (elpo v 2 i d) := fun i d hi => elp_off hv (by simpa using hi)
  have hA0 : ∀ i (hi : i < l.length), loadR (cfgR ro) h 38 (elpo v 2 i 0) = .ok (.int .u16 (l.getD i (0, 0)).1) := fun i hi => hv.loadF (Ens.at hi) rfl ag38
  have hA1 : ∀ i (hi : i < l.length), loadR (cfgR ro) h 40 (elpo v 2 i 1) = .ok (.int .u32 (l.getD i (0, 0)).2) := fun i hi => hv.loadF (Ens.at hi) rfl ag40
  simp [Try.f8]
  obtain ⟨I, hI⟩ : ∃ I : Nat → List AVal → AHeap → Prop, I = fun m env h' => ∃ (i : Nat), i + m = l.length ∧ h' = h ∧ (∀ j, j < i → j < l.length → okB l j = true) ∧ env = (v :: .dead :: .dead :: .int .i64 i :: .dead :: .dead :: .dead :: .dead :: .dead :: .dead :: .dead :: .dead :: .dead :: .dead :: .dead :: .dead :: .dead :: .dead :: .dead :: .dead :: .dead :: .dead :: .dead :: .dead :: .dead :: .dead :: .dead :: .dead :: .dead :: .dead :: .dead :: .dead :: .dead :: .dead :: .dead :: .dead :: .dead :: .dead :: .dead :: .dead :: []) := ⟨_, rfl⟩
  refine loop_of I ?_ l.length (by rw [hI]; exact ⟨0, by simp, rfl, by simp, rfl⟩)
  rintro m env h' hi
  rw [hI] at hi
  obtain ⟨i, hin, rfl, hok, rfl⟩ := hi
  have hw : IntKind.i64.wrap ((i : Int) + 1) = ((i + 1 : Nat) : Int) := by rw [w64 (by omega) (by omega)]; omega
  simp [hL]
  refine orD (fun h1 => ?_) (fun h1 => ?_)
  · obtain ⟨i1, hi1⟩ : ∃ x : Int, x = ((i + 1 : Nat) : Int) := ⟨_, rfl⟩
    rw [← hi1] at hw
    have good : okB l i = true → I (m - 1) (v :: .dead :: .dead :: .int .i64 i1 :: .dead :: .dead :: .dead :: .dead :: .dead :: .dead :: .dead :: .dead :: .dead :: .dead :: .dead :: .dead :: .dead :: .dead :: .dead :: .dead :: .dead :: .dead :: .dead :: .dead :: .dead :: .dead :: .dead :: .dead :: .dead :: .dead :: .dead :: .dead :: .dead :: .dead :: .dead :: .dead :: .dead :: .dead :: .dead :: .dead :: []) h' := by
      intro hb
      rw [hI]
      refine ⟨i + 1, by omega, rfl, fun j hj hl => ?_, by rw [hi1]⟩
      by_cases hji : j = i
      · subst hji; exact hb
      · exact hok j (by omega) hl
    have bad : okB l i = false → Q (.bool false) h' := fun hb => by rw [right_false h1 hb] at hq; exact hq
    have hx := hX i h1
    have ho0 := hO i 0 h1
    have ho1 := hO i 1 h1
    have ha0 := hA0 i h1
    have ha1 := hA1 i h1
    have hprev : 0 < i → ∃ p, p = (l.getD (i - 1) (0, 0)).1 ∧ IntKind.i64.wrap ((i : Int) - 1) = ((i - 1 : Nat) : Int) := fun h0 => ⟨_, rfl, by rw [w64 (by omega) (by omega)]; omega⟩
    unfold okB at good bad
    obtain ⟨s, hs⟩ : ∃ s, s = (l.getD i (0, 0)).2 := ⟨_, rfl⟩
    obtain ⟨r, hr⟩ : ∃ r, r = (l.getD i (0, 0)).1 := ⟨_, rfl⟩
    obtain ⟨p, hp⟩ : ∃ r, r = (l.getD (i - 1) (0, 0)).1 := ⟨_, rfl⟩
    rw [← hs, ← hr, ← hp] at good bad
    rw [← hr] at ha0
    rw [← hs] at ha1
    simp [hx, ho1, ha1]
    refine orD (fun h2 => ?_) (fun h2 => ?_)
    · simp [h2]
      exact bad (by simp; intro h3; omega)
    simp [h2, hx, ho1, ha1]
    refine orD (fun h3 => ?_) (fun h3 => ?_)
    · simp
      exact bad (by simp; intro _ h4; omega)
    simp [h2, h3]
    refine orD (fun h4 => ?_) (fun h4 => ?_)
    · have h4' : 0 < i := by omega
      have hwp : IntKind.i64.wrap ((i : Int) - 1) = ((i - 1 : Nat) : Int) := by rw [w64 (by omega) (by omega)]; omega
      have hxp := hX (i - 1) (by omega)
      have hop := hO (i - 1) 0 (by omega)
      have hap := hA0 (i - 1) (by omega)
      rw [← hp] at hap
      obtain ⟨ip, hip⟩ : ∃ x : Int, x = ((i - 1 : Nat) : Int) := ⟨_, rfl⟩
      rw [← hip] at hwp hxp
      simp [h4', hwp, hxp, hop, hap, hx, ho0, ha0]
      refine orD (fun h5 => ?_) (fun h5 => ?_)
      · simp
        exact bad (by simp; intro _ _; omega)
      · simp [hw]
        exact .mk (m := m - 1) (by omega) (good (by simp; omega))
    · simp [h4, hw]
      exact .mk (m := m - 1) (by omega) (good (by simp; omega))
  · simp
    rw [right_true (by omega) hok] at hq; exact hq

theorem right40 {h : AHeap} {v : AVal} {l : List En} (hv : Ens (cfgR ro) h v l) (hn : l.length ≤ 2 ^ 40) {Q : AVal → AHeap → Prop} (hq : Q (.bool (rightB l)) h) : Ev (cfgR ro) 40 [v] h Q := by
  refine Ev.wp rfl rfl Try.func40 rfl ?_
  have hL : lenR (cfgR ro) h 23 v = .ok (.int .i64 l.length) := by have := hv.lenR (t := 23) un23; simpa using this
  have hX : ∀ i, i < l.length → indexAddrR Try.prog 23 v (.int .i64 (i : Int)) = .ok (elp v 2 i) := fun i hi => hv.idx un23 sz88 (by simpa using hi)
  have hO : ∀ i d, i < l.length → addOff (elp v 2 i) d = .ok (elpo v 2 i d) := fun i d hi => elp_off hv (by simpa using hi)
  have hA : ∀ i (hi : i < l.length), loadR (cfgR ro) h 88 (elp v 2 i) = .ok (.agg (ecells (l.getD i (0, 0)))) := fun i hi => hv.load (Ens.at hi) ag88 sz88
  have hA0 : ∀ i (hi : i < l.length), loadR (cfgR ro) h 38 (elpo v 2 i 0) = .ok (.int .u16 (l.getD i (0, 0)).1) := fun i hi => hv.loadF (Ens.at hi) rfl ag38
  simp [Try.f40, hL]
  obtain ⟨I, hI⟩ : ∃ I : Nat → List AVal → AHeap → Prop, I = fun m env h' => ∃ (i : Nat), i + m = l.length ∧ h' = h ∧ (∀ j, j < i → j < l.length → okB l j = true) ∧ env = (v :: .dead :: .dead :: .dead :: .dead :: v :: .int .i64 l.length :: .int .i64 i :: .dead :: .dead :: .dead :: .dead :: .dead :: .dead :: .dead :: .dead :: .dead :: .dead :: .dead :: .dead :: .dead :: .dead :: .dead :: .dead :: .dead :: .dead :: .dead :: .dead :: .dead :: .dead :: .dead :: .dead :: .dead :: .dead :: .dead :: .dead :: []) := ⟨_, rfl⟩
  refine loop_of I ?_ l.length (by rw [hI]; exact ⟨0, by simp, rfl, by simp, rfl⟩)
  rintro m env h' hi
  rw [hI] at hi
  obtain ⟨i, hin, rfl, hok, rfl⟩ := hi
  have hw : IntKind.i64.wrap ((i : Int) + 1) = ((i + 1 : Nat) : Int) := by rw [w64 (by omega) (by omega)]; omega
  simp
  refine orD (fun h1 => ?_) (fun h1 => ?_)
  · obtain ⟨i1, hi1⟩ : ∃ x : Int, x = ((i + 1 : Nat) : Int) := ⟨_, rfl⟩
    rw [← hi1] at hw
    have good : okB l i = true → I (m - 1) (v :: .dead :: .dead :: .dead :: .dead :: v :: .int .i64 l.length :: .int .i64 i1 :: .dead :: .dead :: .dead :: .dead :: .dead :: .dead :: .dead :: .dead :: .dead :: .dead :: .dead :: .dead :: .dead :: .dead :: .dead :: .dead :: .dead :: .dead :: .dead :: .dead :: .dead :: .dead :: .dead :: .dead :: .dead :: .dead :: .dead :: .dead :: []) h' := by
      intro hb
      rw [hI]
      refine ⟨i + 1, by omega, rfl, fun j hj hl => ?_, by rw [hi1]⟩
      by_cases hji : j = i
      · subst hji; exact hb
      · exact hok j (by omega) hl
    have bad : okB l i = false → Q (.bool false) h' := fun hb => by rw [right_false h1 hb] at hq; exact hq
    have hx := hX i h1
    have ha := hA i h1
    unfold okB at good bad
    obtain ⟨s, hs⟩ : ∃ s, s = (l.getD i (0, 0)).2 := ⟨_, rfl⟩
    obtain ⟨r, hr⟩ : ∃ r, r = (l.getD i (0, 0)).1 := ⟨_, rfl⟩
    obtain ⟨p, hp⟩ : ∃ r, r = (l.getD (i - 1) (0, 0)).1 := ⟨_, rfl⟩
    rw [← hs, ← hr, ← hp] at good bad
    simp only [ecells, ← hs, ← hr] at ha
    simp [hx, ha]
    refine orD (fun h2 => ?_) (fun h2 => ?_)
    · simp [h2]
      exact bad (by simp; intro h3; omega)
    simp [h2]
    refine orD (fun h3 => ?_) (fun h3 => ?_)
    · simp [h3]
      exact bad (by simp; intro _ h4; omega)
    simp [h3]
    refine orD (fun h4 => ?_) (fun h4 => ?_)
    · have h4' : 0 < i := by omega
      have hwp : IntKind.i64.wrap ((i : Int) - 1) = ((i - 1 : Nat) : Int) := by rw [w64 (by omega) (by omega)]; omega
      have hxp := hX (i - 1) (by omega)
      have hop := hO (i - 1) 0 (by omega)
      have hap := hA0 (i - 1) (by omega)
      rw [← hp] at hap
      obtain ⟨ip, hip⟩ : ∃ x : Int, x = ((i - 1 : Nat) : Int) := ⟨_, rfl⟩
      rw [← hip] at hwp hxp
      simp [h3, h4', hwp, hxp, hop, hap]
      refine orD (fun h5 => ?_) (fun h5 => ?_)
      · simp
        exact bad (by simp; intro _ _; omega)
      · simp [hw]
        exact .mk (m := m - 1) (by omega) (good (by simp; omega))
    · simp [h3, h4, hw]
      exact .mk (m := m - 1) (by omega) (good (by simp; omega))
  · simp
    rw [right_true (by omega) hok] at hq; exact hq

theorem vec7 {h : AHeap} {v : AVal} {l : List En} (hv : Ens (cfgR ro) h v l) (hn : l.length ≤ 2 ^ 40) {Q : AVal → AHeap → Prop}
    (hq : ∀ v' h', Old h h' → Mine h h' 2 (l.map ecells) v' → Q v' h') : Ev (cfgR ro) 7 [v] h Q := by
  refine Ev.wp rfl rfl Try.func7 rfl ?_
  have hL : lenR (cfgR ro) h 23 v = .ok (.int .i64 l.length) := by have := hv.lenR (t := 23) un23; simpa using this
  have hX : ∀ i, i < l.length → indexAddrR Try.prog 23 v (.int .i64 (i : Int)) = .ok (elp v 2 i) := fun i hi => hv.idx un23 sz88 (by simpa using hi)
  have hA : ∀ h', Old h h' → ∀ i (hi : i < l.length), loadR (cfgR ro) h' 88 (elp v 2 i) = .ok (.agg (ecells (l.getD i (0, 0)))) := fun h' ho i hi => (hv.old ho).load (Ens.at hi) ag88 sz88
  simp [Try.f7, hL]
  obtain ⟨I, hI⟩ : ∃ I : Nat → List AVal → AHeap → Prop, I = fun m env h' => ∃ (i : Nat) (o : AVal), i + m = l.length ∧ Old h h' ∧ Mine h h' 2 ((l.take i).map ecells) o ∧ env = (.dead :: .dead :: .dead :: o :: .dead :: .dead :: v :: .int .i64 l.length :: .int .i64 i :: .dead :: .dead :: .dead :: .dead :: .dead :: .dead :: .dead :: .dead :: .dead :: []) := ⟨_, rfl⟩
  refine loop_of I ?_ l.length (by rw [hI]; exact ⟨0, .nils, by simp, Old.refl h, by simpa using Mine.nil h h 2, rfl⟩)
  rintro m env h' hi
  rw [hI] at hi
  obtain ⟨i, o, hin, ho, hm, rfl⟩ := hi
  simp
  refine orD (fun h3 => ?_) (fun h3 => ?_)
  · obtain ⟨v', h2, e1, m2, o2⟩ := (hm.keep ((Old.refl h').push (.row 2 false (ecells (l.getD i (0, 0)))))).append1 (bytes := 8) (e := ecells (l.getD i (0, 0))) (by omega) rfl (by simp; omega) (ho.push _)
    have ha := hA h' ho i h3
    have hcells : l.getD i (0, 0) = l[i] := by simp [h3]
    obtain ⟨e, he⟩ : ∃ e, e = l.getD i (0, 0) := ⟨_, rfl⟩
    rw [← he] at ha e1
    simp only [ecells] at e1 ha
    simp [hX i h3, ha, buildSliceR, reps, e1]
    rw [w64 (n := (i : Int) + 1) (by omega) (by omega)]
    refine .mk (m := m - 1) (by omega) (by rw [hI]; exact ⟨i + 1, v', by omega, o2, by rw [List.take_succ_eq_append_getElem h3, List.map_append, ← hcells]; exact m2, rfl⟩)
  · simp
    rw [List.take_of_length_le (by omega)] at hm
    exact hq _ _ ho hm

theorem eq89 (h : AHeap) (a b c d : Nat) : eqIn (cfgR ro) h 10000 89 (.agg [.int .u16 a, .int .u32 b]) (.agg [.int .u16 c, .int .u32 d]) = (match (a : Int) == (c : Int) with | true => (match (b : Int) == (d : Int) with | true => .ok true | false => .ok false) | false => .ok false) := by kernel_rfl

theorem same12 {h : AHeap} {v x : AVal} {l k : List En} (hv : Ens (cfgR ro) h v l) (hx : Ens (cfgR ro) h x k) (hn : l.length ≤ 2 ^ 40) {Q : AVal → AHeap → Prop} (hq : Q (.bool (decide (l = k))) h) : Ev (cfgR ro) 12 [v, x] h Q := by
  refine Ev.wp rfl rfl Try.func12 rfl ?_
  have hL : lenR (cfgR ro) h 23 v = .ok (.int .i64 l.length) := by have := hv.lenR (t := 23) un23; simpa using this
  have hL2 : lenR (cfgR ro) h 26 x = .ok (.int .i64 k.length) := by have := hx.lenR (t := 26) un26; simpa using this
  have hX : ∀ i, i < l.length → indexAddrR Try.prog 23 v (.int .i64 (i : Int)) = .ok (elp v 2 i) := fun i hi => hv.idx un23 sz88 (by simpa using hi)
  have hX2 : ∀ i, i < k.length → indexAddrR Try.prog 26 x (.int .i64 (i : Int)) = .ok (elp x 2 i) := fun i hi => hx.idx un26 sz89 (by simpa using hi)
  have hA : ∀ i (hi : i < l.length), loadR (cfgR ro) h 88 (elp v 2 i) = .ok (.agg (ecells (l.getD i (0, 0)))) := fun i hi => hv.load (Ens.at hi) ag88 sz88
  have hA2 : ∀ i (hi : i < k.length), loadR (cfgR ro) h 89 (elp x 2 i) = .ok (.agg (ecells (k.getD i (0, 0)))) := fun i hi => hx.load (Ens.at hi) ag89 sz89
  have hg : eqL 89 = true := by decide
  simp [Try.f12, hL, hL2]
  refine orD (fun h1 => ?_) (fun h1 => ?_)
  · have h1 : l.length = k.length := by omega
    simp [hL]
    obtain ⟨I, hI⟩ : ∃ I : Nat → List AVal → AHeap → Prop, I = fun m env h' => ∃ (i : Nat), i + m = l.length ∧ h' = h ∧ (∀ j, j < i → l.getD j (0, 0) = k.getD j (0, 0)) ∧ env = (v :: x :: .dead :: .dead :: .dead :: .dead :: .dead :: .dead :: .dead :: .dead :: .dead :: .dead :: .int .i64 l.length :: .int .i64 i :: .dead :: .dead :: .dead :: .dead :: .dead :: .dead :: .dead :: .dead :: .dead :: .dead :: .dead :: .dead :: []) := ⟨_, rfl⟩
    refine loop_of I ?_ l.length (by rw [hI]; exact ⟨0, by simp, rfl, by simp, by rw [h1]; rfl⟩)
    rintro m env h' hi
    rw [hI] at hi
    obtain ⟨i, hin, rfl, hok, rfl⟩ := hi
    have hw : IntKind.i64.wrap ((i : Int) + 1) = ((i + 1 : Nat) : Int) := by rw [w64 (by omega) (by omega)]; omega
    simp
    refine orD (fun h3 => ?_) (fun h3 => ?_)
    · have ha := hA i h3
      have ha2 := hA2 i (by omega)
      obtain ⟨⟨a, b⟩, he⟩ : ∃ e, e = l.getD i (0, 0) := ⟨_, rfl⟩
      obtain ⟨⟨c, d⟩, hf⟩ : ∃ e, e = k.getD i (0, 0) := ⟨_, rfl⟩
      rw [← he] at ha
      rw [← hf] at ha2
      simp only [ecells] at ha ha2
      have heq := eq89 (ro := ro) h' a b c d
      obtain ⟨i1, hi1⟩ : ∃ x : Int, x = ((i + 1 : Nat) : Int) := ⟨_, rfl⟩
      rw [← hi1] at hw
      have no : (a, b) ≠ (c, d) → Q (.bool false) h' := by
        intro hne
        have : decide (l = k) = false := by
          rw [decide_eq_false_iff_not]; intro hlk; subst hlk; exact hne (he.trans hf.symm)
        rw [this] at hq; exact hq
      by_cases e1 : (a : Int) = (c : Int)
      · by_cases e2 : (b : Int) = (d : Int)
        · have heq : eqIn (cfgR ro) h' 10000 89 (.agg [.int .u16 a, .int .u32 b]) (.agg [.int .u16 c, .int .u32 d]) = .ok true := by rw [heq]; simp [e1, e2]
          simp [hX i h3, hX2 i (by omega), ha, ha2, hg, heq, hw]
          refine .mk (m := m - 1) (by omega) (by
            rw [hI]
            refine ⟨i + 1, by omega, rfl, fun j hj => ?_, by rw [hi1]⟩
            by_cases hji : j = i
            · subst hji; rw [← he, ← hf]; have e1 : a = c := by omega
              have e2 : b = d := by omega
              rw [e1, e2]
            · exact hok j (by omega))
        · have heq : eqIn (cfgR ro) h' 10000 89 (.agg [.int .u16 a, .int .u32 b]) (.agg [.int .u16 c, .int .u32 d]) = .ok false := by
            rw [heq]
            have q1 : ((a : Int) == (c : Int)) = true := by simpa using e1
            have q2 : ((b : Int) == (d : Int)) = false := by simpa using e2
            rw [q1, q2]
          simp [hX i h3, hX2 i (by omega), ha, ha2, hg, heq]
          exact no (fun h => e2 (by injection h with _ h; omega))
      · have heq : eqIn (cfgR ro) h' 10000 89 (.agg [.int .u16 a, .int .u32 b]) (.agg [.int .u16 c, .int .u32 d]) = .ok false := by
          rw [heq]
          have q1 : ((a : Int) == (c : Int)) = false := by simpa using e1
          rw [q1]
        simp [hX i h3, hX2 i (by omega), ha, ha2, hg, heq]
        exact no (fun h => e1 (by injection h with h _; omega))
    · simp
      have : l = k := by
        apply List.ext_getElem h1
        intro j h4 h5
        have := hok j (by omega)
        simpa [h4, h5] using this
      simpa [this] using hq
  · simp
    have : decide (l = k) = false := by
      rw [decide_eq_false_iff_not]; intro hlk; subst hlk; exact h1 rfl
    rw [this] at hq; exact hq
end
end Go.Proofs.Ytomhcjiefmaopaa
set_option linter.all false
set_option maxRecDepth 100000
set_option maxHeartbeats 4000000
namespace Go.Proofs.Ytomhcjiefmaopaa
open Go Go.RowKit Go.Proofs

def bodyS : List En → List UInt8
  | [] => []
  | e :: l => numS e.1 ++ (numS e.2 ++ bodyS l)
def encS (mark : UInt8) (l : List En) : List UInt8 := mark :: (numS l.length ++ bodyS l)
theorem bodyS_append : ∀ a b : List En, bodyS (a ++ b) = bodyS a ++ bodyS b
  | [], b => rfl
  | e :: a, b => by simp [bodyS, bodyS_append a b]
theorem body_len : ∀ {l : List En}, (∀ e ∈ l, enOk e) → (bodyS l).length ≤ 18 * l.length
  | [], _ => by simp [bodyS]
  | e :: l, h => by
    have h1 := h e (by simp)
    have h2 := body_len (l := l) (fun x hx => h x (by simp [hx]))
    have h3 := numS_len 8 e.1 (by have := h1.1; omega)
    have h4 := numS_len 8 e.2 (by have := h1.2; omega)
    simp [bodyS]; omega

/-- the reading of entries: so many are left -/
def lpS (cs : List UInt8) : Nat → Nat → List En → List En × Nat × Nat
  | 0, p, acc => (acc, p, 0)
  | m + 1, p, acc =>
    if (rdNum cs p 65535).2.2 ≠ 0 then (acc, (rdNum cs p 65535).2.1, (rdNum cs p 65535).2.2) else
    if (rdNum cs (rdNum cs p 65535).2.1 268435456).2.2 ≠ 0 then (acc, (rdNum cs (rdNum cs p 65535).2.1 268435456).2.1, (rdNum cs (rdNum cs p 65535).2.1 268435456).2.2) else
    lpS cs m (rdNum cs (rdNum cs p 65535).2.1 268435456).2.1 (acc ++ [((rdNum cs p 65535).1, (rdNum cs (rdNum cs p 65535).2.1 268435456).1)])
theorem lpS_step {cs : List UInt8} {m p : Nat} {acc : List En} {r p1 e1 s p2 e2 : Nat} (h1 : rdNum cs p 65535 = (r, p1, e1)) (h2 : rdNum cs p1 268435456 = (s, p2, e2)) :
    lpS cs (m + 1) p acc = if e1 ≠ 0 then (acc, p1, e1) else if e2 ≠ 0 then (acc, p2, e2) else lpS cs m p2 (acc ++ [(r, s)]) := by
  rw [lpS, h1]; simp only []; rw [h2]
def listS (cs : List UInt8) : List En × Nat × Nat :=
  if (rdNum cs 1 65536).2.2 ≠ 0 then ([], (rdNum cs 1 65536).2.1, (rdNum cs 1 65536).2.2) else lpS cs (rdNum cs 1 65536).1 (rdNum cs 1 65536).2.1 []
/-- the vector that bytes are, and an error -/
def decS (mark : Nat) (bs : List UInt8) : List En × Nat :=
  match openS bs with
  | none => ([], 31)
  | some cs => if (cs.getD 0 0).toNat ≠ mark ∨ cs.length = 0 then ([], 30) else
    if (listS cs).2.2 ≠ 0 then ([], (listS cs).2.2) else if (listS cs).2.1 < cs.length then ([], 15) else if rightB (listS cs).1 = false then ([], 11) else ((listS cs).1, 0)

section
variable {ro : Nat → Option (List AVal)}

theorem wr_new {h0 h : AHeap} : WrAt (h0.push (.row 0 false [.nils])) (h0.push (.row 0 false [.nils])) h0.next [] := ⟨.nils, by simp, BM.nil, by simp, Nat.le_refl _⟩

theorem enc9 {h : AHeap} {v : AVal} {l : List En} (hv : Ens (cfgR ro) h v l) (hn : l.length ≤ 100) (hok : ∀ e ∈ l, enOk e) {Q : AVal → AHeap → Prop}
    (hq : ∀ v' h', Old h h' → BM h h' v' (sealS (encS 210 l)) → Q v' h') : Ev (cfgR ro) 9 [v] h Q := by
  refine Ev.wp rfl rfl Try.func9 rfl ?_
  have hL : ∀ h', Old h h' → lenR (cfgR ro) h' 23 v = .ok (.int .i64 l.length) := fun h' ho => by have := (hv.old ho).lenR (t := 23) un23; simpa using this
  have hX : ∀ i, i < l.length → indexAddrR Try.prog 23 v (.int .i64 (i : Int)) = .ok (elp v 2 i) := fun i hi => hv.idx un23 sz88 (by simpa using hi)
  have hA : ∀ h', Old h h' → ∀ i (hi : i < l.length), loadR (cfgR ro) h' 88 (elp v 2 i) = .ok (.agg (ecells (l.getD i (0, 0)))) := fun h' ho i hi => (hv.old ho).load (Ens.at hi) ag88 sz88
  obtain ⟨hb, hhb⟩ : ∃ hb, hb = h.push (.row 0 false [.nils]) := ⟨_, rfl⟩
  have k0 : Old h hb := by rw [hhb]; exact (Old.refl h).push _
  have w0 : WrAt hb hb h.next [] := by rw [hhb]; exact wr_new (h := h)
  have old : ∀ h', Wst hb h.next hb h' → Old h h' := fun h' k => ⟨Nat.le_trans k0.1 k.1, fun o ho => by rw [k.2 o (Nat.lt_of_lt_of_le ho k0.1) (by omega)]; exact k0.2 o ho⟩
  simp [Try.f9]
  rw [← hhb]
  refine byte30 (b := 210) w0 (by simp) (fun h1 w1 s1 => ?_)
  have hl1 := hL h1 (old _ s1)
  have e1 : IntKind.u64.wrap (l.length : Int) = (l.length : Int) := by rw [wrap64]; omega
  simp [hl1, e1]
  refine num31 (by omega) w1 (by simp) (fun h2 w2 s2 => ?_)
  have s2 := s1.trans s2
  have hl2 := hL h2 (old _ s2)
  simp [hl2]
  have nl := numS_len 8 l.length (by omega)
  obtain ⟨I, hI⟩ : ∃ I : Nat → List AVal → AHeap → Prop, I = fun m env h' => ∃ (i : Nat), i + m = l.length ∧ Wst hb h.next hb h' ∧ WrAt hb h' h.next (([] ++ [210]) ++ numS l.length ++ bodyS (l.take i)) ∧ env = (.dead :: .dead :: .dead :: .ptr h.next 0 :: .dead :: .dead :: .dead :: .dead :: .dead :: .dead :: .dead :: v :: .int .i64 l.length :: .int .i64 i :: .dead :: .dead :: .dead :: .dead :: .dead :: .dead :: .dead :: .dead :: .dead :: .dead :: .dead :: .dead :: .dead :: .dead :: []) := ⟨_, rfl⟩
  refine loop_of I ?_ l.length (by rw [hI]; exact ⟨0, by simp, s2, by simpa [bodyS] using w2, rfl⟩)
  rintro m env h' hi
  rw [hI] at hi
  obtain ⟨i, hin, hs, hw, rfl⟩ := hi
  have hwi : IntKind.i64.wrap ((i : Int) + 1) = ((i + 1 : Nat) : Int) := by rw [w64 (by omega) (by omega)]; omega
  simp
  refine orD (fun h3 => ?_) (fun h3 => ?_)
  · have ha := hA h' (old _ hs) i h3
    have hcells : l.getD i (0, 0) = l[i] := by simp [h3]
    obtain ⟨⟨r, s⟩, he⟩ : ∃ e, e = l.getD i (0, 0) := ⟨_, rfl⟩
    have hoke : enOk (r, s) := by rw [he, hcells]; exact hok _ (List.getElem_mem h3)
    have hb1 := body_len (l := l.take i) (fun e hm => hok e (List.mem_of_mem_take hm))
    have hb2 : (l.take i).length = i := by simp; omega
    rw [hb2] at hb1
    rw [← he] at ha
    simp only [ecells] at ha
    have f1 : IntKind.u64.wrap (r : Int) = (r : Int) := by have := hoke.1; rw [wrap64]; simp at this; omega
    have f2 : IntKind.u64.wrap (s : Int) = (s : Int) := by have := hoke.2; rw [wrap64]; simp at this; omega
    have r63 : r < 2 ^ 63 := by have := hoke.1; simp at this; omega
    have s63 : s < 2 ^ 63 := by have := hoke.2; simp at this; omega
    have rl := numS_len 8 r (by omega)
    simp [hX i h3, ha, f1, f2]
    refine num31 r63 hw (by simp; omega) (fun h4 w4 s4 => ?_)
    simp [f2]
    refine num31 s63 w4 (by simp; omega) (fun h5 w5 s5 => ?_)
    obtain ⟨i1, hi1⟩ : ∃ x : Int, x = ((i + 1 : Nat) : Int) := ⟨_, rfl⟩
    rw [← hi1] at hwi
    simp [hwi]
    refine .mk (m := m - 1) (by omega) (by
      rw [hI]
      refine ⟨i + 1, by omega, (hs.trans s4).trans s5, ?_, by rw [hi1]⟩
      rw [List.take_succ_eq_append_getElem h3, bodyS_append, ← hcells, ← he]
      have : bodyS [(r, s)] = numS r ++ numS s := by simp [bodyS]
      rw [this]
      simpa using w5)
  · rw [List.take_of_length_le (by omega)] at hw
    have hb1 := body_len hok
    simp
    refine bytes33 hw (by simp; omega) (fun v2 h4 m4 k4 => ?_)
    have ko := (old _ hs).trans k4
    simp
    refine seal32 m4.toBS (by simp; omega) (fun v3 h5 m5 k5 => ?_)
    simp
    refine hq _ _ (ko.trans k5) ?_
    have : sealS ([] ++ [210] ++ numS l.length ++ bodyS l) = sealS (encS 210 l) := by simp [encS]
    rw [this] at m5
    obtain ⟨e1, e2⟩ := m5
    exact ⟨e1, e2.imp id fun ⟨q, fz, a1, a2, a3, a4⟩ => ⟨q, fz, a1, Nat.le_trans ko.1 a2, a3, a4⟩⟩

theorem bytes11 {h : AHeap} {v : AVal} {l : List En} (hv : Ens (cfgR ro) h v l) (hn : l.length ≤ 100) (hok : ∀ e ∈ l, enOk e) {Q : AVal → AHeap → Prop}
    (hq : ∀ v' h', Old h h' → BM h h' v' (sealS (encS 210 l)) → Q v' h') : Ev (cfgR ro) 11 [v] h Q := by
  refine Ev.wp rfl rfl Try.func11 rfl ?_
  have hL : ∀ h', Old h h' → lenR (cfgR ro) h' 26 v = .ok (.int .i64 l.length) := fun h' ho => by have := (hv.old ho).lenR (t := 26) un26; simpa using this
  have hX : ∀ i, i < l.length → indexAddrR Try.prog 26 v (.int .i64 (i : Int)) = .ok (elp v 2 i) := fun i hi => hv.idx un26 sz89 (by simpa using hi)
  have hO : ∀ i d, i < l.length → addOff (elp v 2 i) d = .ok (elpo v 2 i d) := fun i d hi => elp_off hv (by simpa using hi)
  have hA0 : ∀ h', Old h h' → ∀ i (hi : i < l.length), loadR (cfgR ro) h' 38 (elpo v 2 i 0) = .ok (.int .u16 (l.getD i (0, 0)).1) := fun h' ho i hi => (hv.old ho).loadF (Ens.at hi) rfl ag38
  have hA1 : ∀ h', Old h h' → ∀ i (hi : i < l.length), loadR (cfgR ro) h' 40 (elpo v 2 i 1) = .ok (.int .u32 (l.getD i (0, 0)).2) := fun h' ho i hi => (hv.old ho).loadF (Ens.at hi) rfl ag40
  have e1 : IntKind.u64.wrap (l.length : Int) = (l.length : Int) := by rw [wrap64]; omega
  have k1 : Old h (h.push (.row 1 false [.int .u8 210])) := (Old.refl h).push _
  have m1 : BM h (h.push (.row 1 false [.int .u8 210])) (.sl h.next 0 1) [210] := ⟨bes_one _, .inr ⟨h.next, false, rfl, Nat.le_refl _, by simp, by rw [get_push_next]; rfl⟩⟩
  simp [Try.f11, buildSliceR, reps, hL _ k1, e1]
  have nl := numS_len 8 l.length (by omega)
  refine num41 l.length (by omega) _ (fun v2 h2 m2 k2 => ?_)
  have b2 := m2.toBS (c := cfgR ro)
  obtain ⟨v3, h3, g3, m3, k3⟩ := (m1.keep k2).app (nb := numS l.length) (k1.trans k2) (by simp; omega)
  simp [b2.lenA, b2.read, g3]
  obtain ⟨I, hI⟩ : ∃ I : Nat → List AVal → AHeap → Prop, I = fun m env h' => ∃ (i : Nat) (o : AVal), i + m = l.length ∧ Old h h' ∧ BM h h' o (([210] ++ numS l.length) ++ bodyS (l.take i)) ∧ env = (v :: .dead :: .dead :: o :: .int .i64 i :: .dead :: .dead :: .dead :: .dead :: .dead :: .dead :: .dead :: .dead :: .dead :: .dead :: .dead :: .dead :: .dead :: .dead :: .dead :: .dead :: .dead :: .dead :: .dead :: .dead :: .dead :: .dead :: .dead :: .dead :: .dead :: .dead :: .dead :: .dead :: .dead :: .dead :: .dead :: .dead :: .dead :: []) := ⟨_, rfl⟩
  refine loop_of I ?_ l.length (by rw [hI]; exact ⟨0, v3, by simp, k3, by simpa [bodyS] using m3, rfl⟩)
  rintro m env h' hi
  rw [hI] at hi
  obtain ⟨i, o, hin, ho, hm, rfl⟩ := hi
  have hwi : IntKind.i64.wrap ((i : Int) + 1) = ((i + 1 : Nat) : Int) := by rw [w64 (by omega) (by omega)]; omega
  simp [hL _ ho]
  refine orD (fun h5 => ?_) (fun h5 => ?_)
  · have ha0 := hA0 h' ho i h5
    have hcells : l.getD i (0, 0) = l[i] := by simp [h5]
    obtain ⟨⟨r, s⟩, he⟩ : ∃ e, e = l.getD i (0, 0) := ⟨_, rfl⟩
    have hoke : enOk (r, s) := by rw [he, hcells]; exact hok _ (List.getElem_mem h5)
    have hb1 := body_len (l := l.take i) (fun e hm => hok e (List.mem_of_mem_take hm))
    have hb2 : (l.take i).length = i := by simp; omega
    rw [hb2] at hb1
    rw [← he] at ha0
    have f1 : IntKind.u64.wrap (r : Int) = (r : Int) := by have := hoke.1; rw [wrap64]; simp at this; omega
    have f2 : IntKind.u64.wrap (s : Int) = (s : Int) := by have := hoke.2; rw [wrap64]; simp at this; omega
    have r63 : r < 2 ^ 63 := by have := hoke.1; simp at this; omega
    have s63 : s < 2 ^ 63 := by have := hoke.2; simp at this; omega
    have rl := numS_len 8 r (by omega)
    have sl := numS_len 8 s (by omega)
    simp [hX i h5, hO i 0 h5, ha0, f1]
    refine num41 r r63 _ (fun v6 h6 m6 k6 => ?_)
    have b6 := m6.toBS (c := cfgR ro)
    obtain ⟨v7, h7, g7, m7, k7⟩ := (hm.keep k6).app (nb := numS r) (ho.trans k6) (by simp; omega)
    have ha1 := hA1 h7 k7 i h5
    rw [← he] at ha1
    simp [b6.lenA, b6.read, g7, hX i h5, hO i 1 h5, ha1, f2]
    refine num41 s s63 _ (fun v8 h8 m8 k8 => ?_)
    have b8 := m8.toBS (c := cfgR ro)
    obtain ⟨v9, h9, g9, m9, k9⟩ := (m7.keep k8).app (nb := numS s) (k7.trans k8) (by simp; omega)
    obtain ⟨i1, hi1⟩ : ∃ x : Int, x = ((i + 1 : Nat) : Int) := ⟨_, rfl⟩
    rw [← hi1] at hwi
    simp [b8.lenA, b8.read, g9, hwi]
    refine .mk (m := m - 1) (by omega) (by
      rw [hI]
      refine ⟨i + 1, v9, by omega, k9, ?_, by rw [hi1]⟩
      rw [List.take_succ_eq_append_getElem h5, bodyS_append, ← hcells, ← he]
      have : bodyS [(r, s)] = numS r ++ numS s := by simp [bodyS]
      rw [this]
      simpa using m9)
  · rw [List.take_of_length_le (by omega)] at hm
    have hb1 := body_len hok
    simp
    refine seal42 hm.toBS (by simp; omega) (fun v6 h6 m6 k6 => ?_)
    simp
    refine hq _ _ (ho.trans k6) ?_
    have : sealS ([210] ++ numS l.length ++ bodyS l) = sealS (encS 210 l) := by simp [encS]
    rw [this] at m6
    obtain ⟨e1, e2⟩ := m6
    exact ⟨e1, e2.imp id fun ⟨q, fz, a1, a2, a3, a4⟩ => ⟨q, fz, a1, Nat.le_trans ho.1 a2, a3, a4⟩⟩
end
end Go.Proofs.Ytomhcjiefmaopaa
set_option linter.all false
set_option maxRecDepth 100000
set_option maxHeartbeats 4000000
namespace Go.Proofs.Ytomhcjiefmaopaa
open Go Go.RowKit Go.Proofs

theorem scp_to {c : Cfg} {f : Nat} {K : List AVal → AHeap → Prop} {E : Nat → List AVal → AHeap → Prop} {R : List AVal → AHeap → Prop} {G : Nat → List AVal → AHeap → Prop} {a rest : Code} {l : Nat} {env : List AVal} {h : AHeap}
    (hf : findLabel a l = some rest) (q : wp c f rest K E R (scpG c f K E R G a) env h) : scpG c f K E R G a l env h := by
  unfold scpG; rw [hf]; exact label_of q
theorem Mine.base {h0 h1 h : AHeap} {sz : Nat} {es : List (List AVal)} {v : AVal} (m : Mine h1 h sz es v) (hl : h0.next ≤ h1.next) : Mine h0 h sz es v := by
  obtain ⟨e1, e2⟩ := m
  exact ⟨e1, e2.imp id fun ⟨q, fz, a1, a2, a3, a4⟩ => ⟨q, fz, a1, Nat.le_trans hl a2, a3, a4⟩⟩

section
variable {ro : Nat → Option (List AVal)}

theorem dec10 {h : AHeap} {v : AVal} {bs : List UInt8} (hv : BS (cfgR ro) h v bs) (hs : ∀ o f l q, v ≠ .slc o f l q ∧ v ≠ .esl) (hn : bs.length ≤ 2 ^ 40) {Q : AVal → AHeap → Prop}
    (hq : ∀ v' h', Old h h' → Mine h h' 2 ((decS 210 bs).1.map ecells) v' → Q (.tuple [v', .int .i64 (decS 210 bs).2]) h') : Ev (cfgR ro) 10 [v] h Q := by
  refine Ev.wp rfl rfl Try.func10 rfl ?_
  simp [Try.f10]
  refine open34 hv hs hn (fun cs vc h1 hop mc k1 => ?_) (fun h1 hop k1 => ?_)
  rotate_left
  · simp
    refine scp_to rfl ?_
    simp
    have : decS 210 bs = ([], 31) := by unfold decS; rw [hop]
    rw [this] at hq
    exact hq _ _ k1 (Mine.nil _ _ _)
  have hcl : cs.length ≤ 2 ^ 40 := by
    unfold openS at hop
    split at hop
    · cases hop
    · split at hop
      · injection hop with hop; rw [← hop]; simp; omega
      · cases hop
  have hdec : decS 210 bs = if (cs.getD 0 0).toNat ≠ 210 ∨ cs.length = 0 then ([], 30) else
    if (listS cs).2.2 ≠ 0 then ([], (listS cs).2.2) else if (listS cs).2.1 < cs.length then ([], 15) else if rightB (listS cs).1 = false then ([], 11) else ((listS cs).1, 0) := by
    unfold decS; rw [hop]
  have bad : ∀ (x : Nat) (h' : AHeap), decS 210 bs = ([], x) → Old h h' → Q (.tuple [.nils, .int .i64 x]) h' := fun x h' hx ho => by rw [hx] at hq; exact hq _ _ ho (Mine.nil _ _ _)
  simp
  refine from35 mc.toBS (fun hb r hr rd0 k2 hnx => ?_)
  have k12 := k1.trans k2
  simp
  have hrn : h.next ≤ r := by rw [hr]; exact k1.1
  have old : ∀ h', Wst hb r hb h' → Old h h' := fun h' k => ⟨Nat.le_trans k12.1 k.1, fun o ho => by rw [k.2 o (Nat.lt_of_lt_of_le ho k12.1) (by omega)]; exact k12.2 o ho⟩
  have rst : ∀ {a b : AHeap}, Rst r a b → Wst hb r a b := fun k => ⟨by rw [k.1]; exact Nat.le_refl _, fun o _ ho => k.2 o ho⟩
  have hrb : r < hb.next := by omega
  refine byte36 rd0 hcl (by omega) (fun _ hlt h3 rd3 s3 => ?_) (fun _ hlt h3 rd3 s3 => ?_) (fun h => absurd rfl h)
  rotate_left
  · simp
    refine scp_to rfl ?_
    simp
    have := bad 30 h3 (by rw [hdec, if_pos (.inr (by omega))]) (old _ (rst s3))
    exact this
  have s3 := rst s3
  have hg0 : cs.getD 0 0 = cs[0] := by simp [hlt]
  simp
  refine orD (fun h4 => ?_) (fun h4 => ?_)
  rotate_left
  · simp
    refine scp_to rfl ?_
    simp
    have := bad 30 h3 (by rw [hdec, if_pos (.inl (by rw [hg0]; intro h; exact h4 (by omega)))]) (old _ s3)
    exact this
  have hdec2 : decS 210 bs = if (listS cs).2.2 ≠ 0 then ([], (listS cs).2.2) else if (listS cs).2.1 < cs.length then ([], 15) else if rightB (listS cs).1 = false then ([], 11) else ((listS cs).1, 0) := by
    rw [hdec, if_neg]; rw [hg0]; intro h; rcases h with h | h
    · exact h (by omega)
    · omega
  simp
  refine num37 rd3 hcl (by omega) (limit := 65536) (by decide) (fun _ n p x h5 hrd rd5 s5 => ?_) (fun h => absurd rfl h)
  have s5 := s3.trans (rst s5)
  obtain ⟨f1, f2, f3⟩ := rdGo_lt hrd
  simp
  obtain ⟨I, hI⟩ : ∃ I : Nat → List AVal → AHeap → Prop, I = fun m env h' => ∃ (i p e : Nat) (acc : List En) (vv : AVal), i + m = n ∧ Wst hb r hb h' ∧ RdAt h' r cs p e ∧ p ≤ cs.length ∧ Mine hb h' 2 (acc.map ecells) vv ∧ acc.length = i ∧
      (e = 0 → lpS cs (n - i) p acc = listS cs) ∧ (e ≠ 0 → i = n ∧ (listS cs).2.2 = e) ∧ n ≤ 65536 ∧ env = (.dead :: .dead :: .dead :: .dead :: vv :: .ptr r 0 :: .dead :: .dead :: .dead :: .dead :: .dead :: .dead :: .dead :: .dead :: .dead :: .dead :: .dead :: .dead :: .dead :: .dead :: .dead :: .dead :: .int .u64 n :: .int .u64 i :: .dead :: .dead :: .dead :: .dead :: .dead :: .dead :: .dead :: .dead :: .dead :: .dead :: .dead :: .dead :: .dead :: .dead :: .dead :: .dead :: .dead :: .dead :: .dead :: .dead :: .dead :: .dead :: .dead :: .dead :: []) := ⟨_, rfl⟩
  refine loop_of I ?_ n (by
    rw [hI]
    refine ⟨0, p, x, [], .nils, by omega, s5, rd5, ?_, Mine.nil _ _ _, rfl, fun hx => ?_, fun hx => ⟨?_, ?_⟩, ?_, rfl⟩
    · by_cases hx : x = 0
      · exact (f1 hx).2.1
      · rw [(f2 hx).1]; omega
    · unfold listS; rw [show rdNum cs 1 65536 = (n, p, x) from hrd]; simp [hx]
    · exact (f2 hx).2.symm
    · unfold listS; rw [show rdNum cs 1 65536 = (n, p, x) from hrd]; simp [hx]
    · by_cases hx : x = 0
      · exact (f1 hx).2.2
      · rw [(f2 hx).2]; decide)
  rintro m env h' hi
  rw [hI] at hi
  obtain ⟨i, p, e, acc, vv, hin, hw, rd, hp, hm, hal, he0, he1, hn6, rfl⟩ := hi
  have hwi : IntKind.u64.wrap ((i : Int) + 1) = ((i + 1 : Nat) : Int) := by rw [wrap64]; omega
  simp
  refine orD (fun h6 => ?_) (fun h6 => ?_)
  · have he : e = 0 := by
      rcases Nat.eq_zero_or_pos e with h | h
      · exact h
      · have := (he1 (by omega)).1; omega
    subst he
    have hlp := he0 rfl
    rw [show n - i = (n - (i + 1)) + 1 by omega] at hlp
    simp
    refine num37 rd hcl hp (limit := 65535) (by decide) (fun _ a1 p1 e1 h7 hr1 rd7 s7 => ?_) (fun h => absurd rfl h)
    obtain ⟨g1, g2, g3⟩ := rdGo_lt hr1
    have hp1 : p1 ≤ cs.length := by
      by_cases hx : e1 = 0
      · exact (g1 hx).2.1
      · rw [(g2 hx).1]; exact hp
    have hm7 : Mine hb h7 2 (acc.map ecells) vv := by
      obtain ⟨x1, x2⟩ := hm
      exact ⟨x1, x2.imp id fun ⟨q, fz, a1, a2, a3, a4⟩ => ⟨q, fz, a1, a2, by rw [s7.1]; exact a3, by rw [s7.2 q (by omega)]; exact a4⟩⟩
    have w7 := hw.trans (rst s7)
    have a1b : a1 < 65536 := by
      by_cases hx : e1 = 0
      · have := (g1 hx).2.2; omega
      · rw [(g2 hx).2]; decide
    have c1 : IntKind.u16.wrap (a1 : Int) = (a1 : Int) := by rw [wrap16]; omega
    simp [c1]
    -- behind the second number
    have tail : ∀ (b : Nat) (p2 e2 : Nat) (h8 : AHeap), b < 4294967296 → p2 ≤ cs.length → RdAt h8 r cs p2 e2 → Rst r h7 h8 → (e2 = 0 → lpS cs (n - (i + 1)) p2 (acc ++ [(a1, b)]) = listS cs) → (e2 ≠ 0 → (listS cs).2.2 = e2) →
        True := fun _ _ _ _ _ _ _ _ _ _ => trivial
    by_cases hx1 : e1 = 0
    · subst hx1
      refine num37 rd7 hcl hp1 (limit := 268435456) (by decide) (fun _ b p2 e2 h8 hr2 rd8 s8 => ?_) (fun h => absurd rfl h)
      obtain ⟨q1, q2, q3⟩ := rdGo_lt hr2
      have hp2 : p2 ≤ cs.length := by
        by_cases hx : e2 = 0
        · exact (q1 hx).2.1
        · rw [(q2 hx).1]; exact hp1
      have hbb : b < 4294967296 := by
        by_cases hx : e2 = 0
        · have := (q1 hx).2.2; omega
        · rw [(q2 hx).2]; decide
      have c2 : IntKind.u32.wrap (b : Int) = (b : Int) := by rw [wrap32]; omega
      have hm8 : Mine hb h8 2 (acc.map ecells) vv := by
        obtain ⟨x1, x2⟩ := hm7
        exact ⟨x1, x2.imp id fun ⟨q, fz, a1, a2, a3, a4⟩ => ⟨q, fz, a1, a2, by rw [s8.1]; exact a3, by rw [s8.2 q (by omega)]; exact a4⟩⟩
      have w8 := w7.trans (rst s8)
      obtain ⟨v9, h9, x1, m9, n9, o9⟩ := (hm8.keep ((Old.refl h8).push (.row 2 false (ecells (a1, b))))).append1G (bytes := 8) (e := ecells (a1, b)) (by omega) rfl (by simp; omega) (by have := w8.1; simp; omega)
      have rd9 : RdAt h9 r cs p2 e2 := ⟨by rw [o9 r hrb, AHeap.get_push, if_neg (by have := rd8.2; omega)]; exact rd8.1, by simp at n9; have := rd8.2; omega⟩
      have w9 : Wst hb r hb h9 := ⟨by simp at n9; have := w8.1; omega, fun o ho hne => by rw [o9 o ho, AHeap.get_push, if_neg (by have := w8.1; omega)]; exact w8.2 o ho hne⟩
      simp only [ecells] at x1
      rw [lpS_step hr1 hr2] at hlp
      simp only [ne_eq, not_true_eq_false, if_false] at hlp
      simp [c2, buildSliceR, reps, x1]
      refine err38 rd9 ?_
      simp
      refine orD (fun h10 => ?_) (fun h10 => ?_)
      · have h10 : e2 = 0 := by omega
        subst h10
        simp only [not_true_eq_false, if_false] at hlp
        obtain ⟨i1, hi1⟩ : ∃ x : Int, x = ((i + 1 : Nat) : Int) := ⟨_, rfl⟩
        rw [← hi1] at hwi
        simp [hwi]
        exact .mk (m := m - 1) (by omega) (by
          rw [hI]
          exact ⟨i + 1, p2, 0, acc ++ [(a1, b)], v9, by omega, w9, rd9, hp2, by rw [List.map_append]; exact m9, by simp [hal], fun _ => hlp, fun h => absurd rfl h, hn6, by rw [hi1]⟩)
      · have h10 : e2 ≠ 0 := by omega
        rw [if_pos h10] at hlp
        simp
        refine done39 rd9 hcl hp2 ?_
        rw [if_neg (by omega)]
        simp [h10]
        refine scp_to rfl ?_
        simp
        refine bad e2 h9 ?_ (old _ w9)
        rw [hdec2, ← hlp]; simp [h10]
    · refine num37 rd7 hcl hp1 (limit := 268435456) (by decide) (fun h => absurd (by omega) hx1) (fun _ => ?_)
      obtain ⟨v9, h9, x1, m9, n9, o9⟩ := (hm7.keep ((Old.refl h7).push (.row 2 false (ecells (a1, 0))))).append1G (bytes := 8) (e := ecells (a1, 0)) (by omega) rfl (by simp; omega) (by have := w7.1; simp; omega)
      have rd9 : RdAt h9 r cs p1 e1 := ⟨by rw [o9 r hrb, AHeap.get_push, if_neg (by have := rd7.2; omega)]; exact rd7.1, by simp at n9; have := rd7.2; omega⟩
      have w9 : Wst hb r hb h9 := ⟨by simp at n9; have := w7.1; omega, fun o ho hne => by rw [o9 o ho, AHeap.get_push, if_neg (by have := w7.1; omega)]; exact w7.2 o ho hne⟩
      have c2 : IntKind.u32.wrap 0 = 0 := by decide
      simp only [ecells] at x1
      have hlp2 : (listS cs).2.2 = e1 := by
        rw [← hlp, lpS, hr1]; simp [hx1]
      simp at x1
      simp [c2, buildSliceR, reps, x1]
      refine err38 rd9 ?_
      simp [hx1]
      refine done39 rd9 hcl hp1 ?_
      rw [if_neg (by omega)]
      simp [hx1]
      refine scp_to rfl ?_
      simp
      refine bad e1 h9 ?_ (old _ w9)
      rw [hdec2, hlp2]; simp [hx1]
  · have hni : n - i = 0 := by omega
    simp
    refine done39 rd hcl hp ?_
    by_cases hx : e = 0
    · subst hx
      have hlp := he0 rfl
      rw [hni, lpS] at hlp
      by_cases hlt2 : p < cs.length
      · rw [if_pos ⟨rfl, hlt2⟩]
        simp
        refine scp_to rfl ?_
        simp
        refine bad 15 h' ?_ (old _ hw)
        rw [hdec2, ← hlp]; simp [hlt2]
      · rw [if_neg (by omega)]
        simp
        have hens : Ens (cfgR ro) h' vv acc := hm.sl
        refine right40 hens (by omega) ?_
        simp
        refine orB (fun h10 => ?_) (fun h10 => ?_)
        · simp [h10]
          have : decS 210 bs = (acc, 0) := by rw [hdec2, ← hlp]; simp [hlt2, h10]
          rw [this] at hq
          exact hq _ _ (old _ hw) (hm.base k12.1)
        · simp [h10]
          refine scp_to rfl ?_
          simp
          refine bad 11 h' ?_ (old _ hw)
          rw [hdec2, ← hlp]; simp [hlt2, h10]
    · rw [if_neg (by omega)]
      simp [hx]
      refine scp_to rfl ?_
      simp
      refine bad e h' ?_ (old _ hw)
      rw [hdec2, (he1 hx).2]; simp [hx]
end
end Go.Proofs.Ytomhcjiefmaopaa
set_option linter.all false
set_option maxRecDepth 100000
set_option maxHeartbeats 4000000
namespace Go.Proofs.Ytomhcjiefmaopaa
open Go Go.RowKit Go.Proofs

@[simp] theorem same_self (v : AVal) : sameRes (.ok v) v = true := AVal.beq_refl v

section
variable {ro : Nat → Option (List AVal)}

theorem read13 {h : AHeap} {v : AVal} {bs : List UInt8} (hv : BS (cfgR ro) h v bs) (hs : ∀ o f l q, v ≠ .slc o f l q ∧ v ≠ .esl) (hn : bs.length ≤ 2 ^ 40) {Q : AVal → AHeap → Prop}
    (hq : ∀ v' h', Old h h' → Mine h h' 2 ((decS 210 bs).1.map ecells) v' → Q (.tuple [v', .int .i64 (decS 210 bs).2]) h') : Ev (cfgR ro) 13 [v] h Q := by
  refine Ev.wp rfl rfl Try.func13 rfl ?_
  have hL : ∀ h', Old h h' → lenR (cfgR ro) h' 24 v = .ok (.int .i64 bs.length) := fun h' ho => (hv.old ho).lenR un24
  have hL0 := hL h (Old.refl h)
  have bad : ∀ (x : Nat) (h' : AHeap), decS 210 bs = ([], x) → Old h h' → Q (.tuple [.nils, .int .i64 x]) h' := fun x h' hx ho => by rw [hx] at hq; exact hq _ _ ho (Mine.nil _ _ _)
  have hconv : ∀ h', Old h h' → convR (cfgR ro) h' 24 9 v = .ok (.str bs) := fun h' ho => (hv.old ho).conv un24 un9 un5
  have hconv0 := hconv h (Old.refl h)
  simp [Try.f13, hL0]
  refine orD (fun h1 => ?_) (fun h1 => ?_)
  · simp [h1, hL0]
    exact bad 31 h (by unfold decS openS; rw [if_pos (by omega)]) (Old.refl h)
  obtain ⟨n, hn4⟩ : ∃ n, bs.length = n + 4 := ⟨bs.length - 4, by omega⟩
  have e0 : IntKind.i64.wrap ((bs.length : Int) - 4) = (n : Int) := by rw [w64 (by omega) (by omega)]; omega
  obtain ⟨vc, u1, u2⟩ := hv.upto (n := n) (by omega) hs (k := .i64)
  obtain ⟨cs, hcs⟩ : ∃ cs, cs = bs.take n := ⟨_, rfl⟩
  rw [← hcs] at u2
  have hcl : cs.length = n := by rw [hcs]; simp; omega
  simp [h1, hL0, e0, u1]
  refine seal42 u2 (by omega) (fun v2 h2 m2 k2 => ?_)
  have hconv2 := hconv h2 k2
  have hcv2 : convR (cfgR ro) h2 24 9 v2 = .ok (.str (sealS cs)) := m2.toBS.conv un24 un9 un5
  have hL2 := hL h2 k2
  simp [h1, hL2, e0, -convR, hconv2, hcv2]
  refine ⟨.inl (by decide +kernel), .inl (by decide +kernel), by first | exact .inl (by decide +kernel) | (right; simp [-convR, hconv0]), ?_⟩
  have hop : openS bs = if sealS cs = bs then some cs else none := by
    unfold openS
    rw [if_neg (by omega), show bs.length - 4 = n by omega, ← hcs]
    by_cases hx : sealS cs = bs
    · rw [if_pos hx, if_pos hx.symm]
    · rw [if_neg hx, if_neg (fun h => hx h.symm)]
  refine orD (fun h3 => ?_) (fun h3 => ?_)
  rotate_left
  · simp
    exact bad 31 h2 (by unfold decS; rw [hop, if_neg h3]) k2
  rw [if_pos h3] at hop
  have hdec : decS 210 bs = if (cs.getD 0 0).toNat ≠ 210 ∨ cs.length = 0 then ([], 30) else
    if (listS cs).2.2 ≠ 0 then ([], (listS cs).2.2) else if (listS cs).2.1 < cs.length then ([], 15) else if rightB (listS cs).1 = false then ([], 11) else ((listS cs).1, 0) := by
    unfold decS; rw [hop]
  obtain ⟨c3, u3, u4⟩ := (hv.old k2).upto (n := n) (by omega) hs (k := .i64)
  rw [← hcs] at u4
  have hL3 : lenR (cfgR ro) h2 24 c3 = .ok (.int .i64 cs.length) := u4.lenR un24
  simp [hL2, e0, u3, hL3]
  refine orD (fun h4 => ?_) (fun h4 => ?_)
  · simp [h4]
    exact bad 30 h2 (by rw [hdec, if_pos (.inr (by first | omega | (subst h4; rfl)))]) k2
  have hpos : 0 < cs.length := by
    first | omega | (exact List.length_pos_iff.2 h4)
  have hx0 : indexAddrR Try.prog 24 c3 (.int .i64 0) = .ok (elp c3 1 0) := u4.idx un24 sz5 hpos
  have ha0 : loadR (cfgR ro) h2 5 (elp c3 1 0) = .ok (.int .u8 cs[0].toNat) := u4.load hpos ag5
  have hg0 : cs.getD 0 0 = cs[0] := by simp [hpos]
  obtain ⟨b0, hb0⟩ : ∃ b, b = cs[0].toNat := ⟨_, rfl⟩
  rw [← hb0] at ha0
  simp [h4, hx0, ha0]
  refine orD (fun h5 => ?_) (fun h5 => ?_)
  rotate_left
  · simp
    exact bad 30 h2 (by rw [hdec, if_pos (.inl (by rw [hg0, ← hb0]; omega))]) k2
  have hdec2 : decS 210 bs = if (listS cs).2.2 ≠ 0 then ([], (listS cs).2.2) else if (listS cs).2.1 < cs.length then ([], 15) else if rightB (listS cs).1 = false then ([], 11) else ((listS cs).1, 0) := by
    rw [hdec, if_neg]; rw [hg0, ← hb0]; omega
  simp
  have hcl2 : cs.length ≤ 2 ^ 40 := by omega
  refine readnum43 (a := 1) (limit := 65536) u4 hcl2 (by decide) (by decide) (fun nn p x hrd => ?_)
  obtain ⟨f1, f2, f3⟩ := rdGo_lt hrd
  simp
  obtain ⟨I, hI⟩ : ∃ I : Nat → List AVal → AHeap → Prop, I = fun m env h' => ∃ (i p e : Nat) (acc : List En) (vv z : AVal), i + m = nn ∧ Old h2 h' ∧ p ≤ 2 ^ 40 ∧ Mine h2 h' 2 (acc.map ecells) vv ∧ acc.length = i ∧
      (e = 0 → lpS cs (nn - i) p acc = listS cs) ∧ (e ≠ 0 → (listS cs).2.2 = e) ∧ nn ≤ 65536 ∧ env = (.dead :: .dead :: .dead :: .dead :: c3 :: vv :: .int .u64 nn :: .int .i64 p :: .int .i64 e :: .int .u64 i :: .dead :: .dead :: .dead :: .dead :: .dead :: .dead :: .dead :: .dead :: .dead :: .dead :: .dead :: .dead :: .dead :: .dead :: .dead :: .dead :: .dead :: .dead :: .dead :: .dead :: .dead :: .dead :: .dead :: .dead :: .dead :: .dead :: .dead :: .dead :: .dead :: .dead :: .dead :: .dead :: .dead :: .dead :: .dead :: .dead :: .dead :: .dead :: .dead :: .dead :: .dead :: .dead :: .dead :: .dead :: .dead :: .dead :: .dead :: .dead :: .dead :: .dead :: .dead :: .dead :: .dead :: .dead :: .dead :: .dead :: .dead :: .dead :: .dead :: .dead :: .dead :: .dead :: .dead :: .dead :: .dead :: .dead :: .dead :: .dead :: .dead :: .dead :: .dead :: .dead :: .dead :: .dead :: .dead :: .dead :: .dead :: .dead :: .dead :: .dead :: .dead :: []) := ⟨_, rfl⟩
  refine loop_of I ?_ nn (by
    rw [hI]
    refine ⟨0, p, x, [], .nils, .dead, by omega, Old.refl _, ?_, Mine.nil _ _ _, rfl, fun hx => ?_, fun hx => ?_, ?_, rfl⟩
    · by_cases hx : x = 0
      · have := (f1 hx).2.1; omega
      · rw [(f2 hx).1]; decide
    · unfold listS; rw [show rdNum cs 1 65536 = (nn, p, x) from hrd]; simp [hx]
    · unfold listS; rw [show rdNum cs 1 65536 = (nn, p, x) from hrd]; simp [hx]
    · by_cases hx : x = 0
      · exact (f1 hx).2.2
      · rw [(f2 hx).2]; decide)
  rintro m env h' hi
  rw [hI] at hi
  obtain ⟨i, p, e, acc, vv, z, hin, ho, hp, hm, hal, he0, he1, hn6, rfl⟩ := hi
  have hwi : IntKind.u64.wrap ((i : Int) + 1) = ((i + 1 : Nat) : Int) := by rw [wrap64]; omega
  have uc := u4.old ho
  have fin : (e ≠ 0 ∨ nn - i = 0) → True := fun _ => trivial
  simp
  refine orD (fun h6 => ?_) (fun h6 => ?_)
  · simp [h6]
    refine orD (fun h7 => ?_) (fun h7 => ?_)
    · have he : e = 0 := by omega
      subst he
      have hlp := he0 rfl
      rw [show nn - i = (nn - (i + 1)) + 1 by omega] at hlp
      simp
      refine readnum43 (limit := 65535) uc hcl2 hp (by decide) (fun a1 p1 e1 hr1 => ?_)
      obtain ⟨g1, g2, g3⟩ := rdGo_lt hr1
      have hp1 : p1 ≤ 2 ^ 40 := by
        by_cases hx : e1 = 0
        · have := (g1 hx).2.1; omega
        · rw [(g2 hx).1]; exact hp
      have a1b : a1 < 65536 := by
        by_cases hx : e1 = 0
        · have := (g1 hx).2.2; omega
        · rw [(g2 hx).2]; decide
      have c1 : IntKind.u16.wrap (a1 : Int) = (a1 : Int) := by rw [wrap16]; omega
      obtain ⟨i1, hi1⟩ : ∃ x : Int, x = ((i + 1 : Nat) : Int) := ⟨_, rfl⟩
      rw [← hi1] at hwi
      simp
      refine orD (fun h8 => ?_) (fun h8 => ?_)
      · have hx1 : e1 = 0 := by omega
        subst hx1
        simp
        refine readnum43 (limit := 268435456) uc hcl2 hp1 (by decide) (fun b p2 e2 hr2 => ?_)
        obtain ⟨q1, q2, q3⟩ := rdGo_lt hr2
        have hp2 : p2 ≤ 2 ^ 40 := by
          by_cases hx : e2 = 0
          · have := (q1 hx).2.1; omega
          · rw [(q2 hx).1]; exact hp1
        have hbb : b < 4294967296 := by
          by_cases hx : e2 = 0
          · have := (q1 hx).2.2; omega
          · rw [(q2 hx).2]; decide
        have c2 : IntKind.u32.wrap (b : Int) = (b : Int) := by rw [wrap32]; omega
        obtain ⟨v9, h9, x1, m9, o9⟩ := (hm.keep ((Old.refl h').push (.row 2 false (ecells (a1, b))))).append1 (bytes := 8) (e := ecells (a1, b)) (by omega) rfl (by simp; omega) (ho.push _)
        simp only [ecells] at x1
        rw [lpS_step hr1 hr2] at hlp
        simp only [ne_eq, not_true_eq_false, if_false] at hlp
        simp [c1, c2, buildSliceR, reps, x1, hwi]
        exact .mk (m := m - 1) (by omega) (by
          rw [hI]
          refine ⟨i + 1, p2, e2, acc ++ [(a1, b)], v9, .dead, by omega, o9, hp2, by rw [List.map_append]; exact m9, by simp [hal], fun hx => ?_, fun hx => ?_, hn6, by rw [hi1]⟩
          · rw [if_neg (by omega)] at hlp; exact hlp
          · rw [if_pos hx] at hlp; rw [← hlp])
      · have hx1 : e1 ≠ 0 := by omega
        obtain ⟨v9, h9, x1, m9, o9⟩ := (hm.keep ((Old.refl h').push (.row 2 false (ecells (a1, 0))))).append1 (bytes := 8) (e := ecells (a1, 0)) (by omega) rfl (by simp; omega) (ho.push _)
        have c2 : IntKind.u32.wrap 0 = 0 := by decide
        simp only [ecells] at x1
        simp at x1
        simp [c1, c2, buildSliceR, reps, x1, hwi]
        exact .mk (m := m - 1) (by omega) (by
          rw [hI]
          refine ⟨i + 1, p1, e1, acc ++ [(a1, 0)], v9, .dead, by omega, o9, hp1, by rw [List.map_append]; exact m9, by simp [hal], fun hx => absurd hx hx1, fun _ => ?_, hn6, by rw [hi1]⟩
          rw [← hlp, lpS, hr1]; simp [hx1])
    · have hx : e ≠ 0 := by omega
      simp [hx]
      exact bad e h' (by rw [hdec2, he1 hx]; simp [hx]) (k2.trans ho)
  · simp [h6]
    by_cases hx : e = 0
    · subst hx
      have hlp := he0 rfl
      rw [show nn - i = 0 by omega, lpS] at hlp
      have hL4 : lenR (cfgR ro) h' 24 c3 = .ok (.int .i64 cs.length) := uc.lenR un24
      simp [hL4]
      refine orD (fun h7 => ?_) (fun h7 => ?_)
      · simp
        exact bad 15 h' (by rw [hdec2, ← hlp]; simp; omega) (k2.trans ho)
      · simp
        have hens : Ens (cfgR ro) h' vv acc := hm.sl
        refine right8 hens (by omega) ?_
        simp
        refine orB (fun h10 => ?_) (fun h10 => ?_)
        · simp [h10]
          have hd : decS 210 bs = (acc, 0) := by
            rw [hdec2, ← hlp]
            simp only [ne_eq, not_true_eq_false, if_false]
            rw [if_neg (by omega), h10]; rfl
          rw [hd] at hq
          exact hq _ _ (k2.trans ho) (hm.base k2.1)
        · simp [h10]
          refine bad 11 h' ?_ (k2.trans ho)
          rw [hdec2, ← hlp]
          simp only [ne_eq, not_true_eq_false, if_false]
          rw [if_neg (by omega), if_pos h10]
    · simp [hx]
      exact bad e h' (by rw [hdec2, he1 hx]; simp [hx]) (k2.trans ho)
end
end Go.Proofs.Ytomhcjiefmaopaa
set_option linter.all false
set_option maxRecDepth 100000
set_option maxHeartbeats 4000000
namespace Go.Proofs.Ytomhcjiefmaopaa
open Go Go.RowKit Go.Proofs

theorem open_seal (x : List UInt8) : openS (sealS x) = some x := by
  unfold openS
  have hl : (sealS x).length = x.length + 4 := by simp [sealS, crc4]
  rw [if_neg (by omega), hl, show x.length + 4 - 4 = x.length by omega]
  have ht : (sealS x).take x.length = x := by unfold sealS; simp
  rw [ht, if_pos rfl]
theorem lp_body : ∀ (l : List En) (pre : List UInt8) (acc : List En), (∀ e ∈ l, e.1 ≤ 65535 ∧ e.2 ≤ 268435456) → lpS (pre ++ bodyS l) l.length pre.length acc = (acc ++ l, (pre ++ bodyS l).length, 0)
  | [], pre, acc, _ => by simp [lpS, bodyS]
  | e :: l, pre, acc, h => by
    obtain ⟨h1, h2⟩ := h e (by simp)
    have r1 := rdNum_num (pre := pre) (post := numS e.2 ++ bodyS l) (m := e.1) (limit := 65535) (by omega) h1
    have r2 := rdNum_num (pre := pre ++ numS e.1) (post := bodyS l) (m := e.2) (limit := 268435456) (by omega) h2
    have e1 : pre ++ bodyS (e :: l) = pre ++ (numS e.1 ++ (numS e.2 ++ bodyS l)) := rfl
    have e2 : pre ++ (numS e.1 ++ (numS e.2 ++ bodyS l)) = (pre ++ numS e.1) ++ (numS e.2 ++ bodyS l) := by simp
    rw [e1, List.length_cons, e2]
    rw [e2] at r1
    rw [List.length_append] at r2
    rw [lpS_step r1 r2]
    simp only [ne_eq, not_true_eq_false, if_false]
    have ih := lp_body l ((pre ++ numS e.1) ++ numS e.2) (acc ++ [e]) (fun x hx => h x (by simp [hx]))
    have e3 : (pre ++ numS e.1) ++ (numS e.2 ++ bodyS l) = ((pre ++ numS e.1) ++ numS e.2) ++ bodyS l := by simp
    rw [e3]
    have e4 : pre.length + (numS e.1).length + (numS e.2).length = ((pre ++ numS e.1) ++ numS e.2).length := by simp; omega
    rw [e4, ih]
    simp
theorem dec_enc {l : List En} (hn : l.length ≤ 65536) (hok : ∀ e ∈ l, enOk e) (hr : rightB l = true) : decS 210 (sealS (encS 210 l)) = (l, 0) := by
  unfold decS
  rw [open_seal]
  have hb : ∀ e ∈ l, e.1 ≤ 65535 ∧ e.2 ≤ 268435456 := by
    intro e he
    obtain ⟨i, hi, rfl⟩ := List.getElem_of_mem he
    have h1 := List.all_eq_true.1 hr i (List.mem_range.2 hi)
    unfold okB at h1
    simp [hi] at h1
    have h2 := (hok _ (List.getElem_mem hi)).1
    exact ⟨by omega, h1.1.2⟩
  have hlist : listS (encS 210 l) = (l, (encS 210 l).length, 0) := by
    have r0 := rdNum_num (pre := [210]) (post := bodyS l) (m := l.length) (limit := 65536) (by omega) hn
    have e0 : encS 210 l = [210] ++ (numS l.length ++ bodyS l) := rfl
    have e1 : encS 210 l = ([210] ++ numS l.length) ++ bodyS l := by simp [encS]
    unfold listS
    rw [show rdNum (encS 210 l) 1 65536 = (l.length, 1 + (numS l.length).length, 0) from r0]
    simp only [ne_eq, not_true_eq_false, if_false]
    have := lp_body l ([210] ++ numS l.length) [] hb
    rw [← e1, show (([210] : List UInt8) ++ numS l.length).length = 1 + (numS l.length).length from by simp; omega] at this
    rw [this]; simp
  simp only [hlist]
  rw [if_neg]
  · simp [hr]
  · have h1 : (encS 210 l).getD 0 0 = 210 := rfl
    rw [h1]
    simp [encS]

theorem lp_len {cs : List UInt8} : ∀ (m p : Nat) (acc : List En), (lpS cs m p acc).1.length ≤ acc.length + m
  | 0, p, acc => by simp [lpS]
  | m + 1, p, acc => by
    rw [lpS]
    split
    · simp
    · split
      · simp
      · have := lp_len (cs := cs) m (rdNum cs (rdNum cs p 65535).2.1 268435456).2.1 (acc ++ [((rdNum cs p 65535).1, (rdNum cs (rdNum cs p 65535).2.1 268435456).1)])
        simp only [List.length_append, List.length_cons, List.length_nil] at this
        omega
theorem list_len (cs : List UInt8) : (listS cs).1.length ≤ 65536 := by
  unfold listS
  split
  · simp
  · rename_i h
    have h1 := lp_len (cs := cs) (rdNum cs 1 65536).1 (rdNum cs 1 65536).2.1 []
    have h2 := (rdGo_lt (show rdGo cs 1 65536 9 0 0 = ((rdNum cs 1 65536).1, (rdNum cs 1 65536).2.1, (rdNum cs 1 65536).2.2) from rfl)).1 (by simpa using h)
    simp at h1
    omega
theorem dec_len (bs : List UInt8) : (decS 210 bs).1.length ≤ 2 ^ 40 := by
  unfold decS
  split
  · simp
  · rename_i cs _
    have := list_len cs
    repeat' split
    all_goals simp
    omega

def isTrueR : Res (AVal × AHeap) → Bool
  | .ok (.bool true, _) => true
  | _ => false
theorem isTrueR_ok {r : Res (AVal × AHeap)} (h : isTrueR r = true) : ∃ h', r = .ok (.bool true, h') := by
  unfold isTrueR at h
  split at h
  · exact ⟨_, rfl⟩
  · cases h
section
variable {ro : Nat → Option (List AVal)}
theorem anchor6 : ∃ h', Run (cfgR ro) 6 [] heap0 (.bool true) h' := by
  have h : isTrueR (callF (cfgR ro) 400 6 [] heap0) = true := by kernel_rfl
  obtain ⟨h', e⟩ := isTrueR_ok h
  exact ⟨h', 400, e⟩

theorem law3 {v b : AVal} {l : List En} {bs : List UInt8} (hv : ∀ h, Ens (cfgR ro) h v l) (hok : ∀ e ∈ l, enOk e) (hb : ∀ h, BS (cfgR ro) h b bs) (hs : ∀ o f l q, b ≠ .slc o f l q ∧ b ≠ .esl) : Ev (cfgR ro) 3 [v, b] heap0 (fun v h => v = .bool true) := by
  refine Ev.wp rfl rfl Try.func3 rfl ?_
  obtain ⟨h1, ha⟩ := anchor6 (ro := ro)
  have hL : ∀ h, lenR (cfgR ro) h 23 v = .ok (.int .i64 l.length) := fun h => by have := (hv h).lenR (t := 23) un23; simpa using this
  have hL2 : ∀ h, lenR (cfgR ro) h 24 b = .ok (.int .i64 bs.length) := fun h => (hb h).lenR un24
  simp [Try.f3, Ev.run ha, hL]
  refine orD (fun h2 => ?_) (fun h2 => ?_)
  · simp [h2]
  simp [h2, hL2]
  refine orD (fun h3 => ?_) (fun h3 => ?_)
  · simp
  simp
  refine vec7 (hv h1) (by omega) (fun x h4 k4 m4 => ?_)
  have dl : (decS 210 bs).1.length ≤ 2 ^ 40 := dec_len bs
  have hx : ∀ h5, Old h4 h5 → Ens (cfgR ro) h5 x l := fun h5 ho => (Mine.sl m4).old ho
  simp
  refine right8 (hx h4 (Old.refl _)) (by omega) ?_
  simp
  refine orB (fun h6 => ?_) (fun h6 => ?_)
  · simp [h6]
    refine enc9 (hv h4) (by omega) hok (fun c h7 k7 m7 => ?_)
    have bl := body_len hok
    have nl := numS_len 8 l.length (by omega)
    have hcl : (sealS (encS 210 l)).length ≤ 2 ^ 40 := by simp [sealS, crc4, encS]; omega
    simp
    refine dec10 m7.toBS m7.noSlc hcl (fun u h8 k8 m8 => ?_)
    rw [dec_enc (by omega) hok h6] at m8 ⊢
    have bc : BS (cfgR ro) h8 c (sealS (encS 210 l)) := m7.toBS.old k8
    have cc : convR (cfgR ro) h8 24 9 c = .ok (.str (sealS (encS 210 l))) := bc.conv un24 un9 un5
    simp [-convR, cc]
    refine bytes11 (hx h8 (k7.trans k8)) (by omega) hok (fun w h9 k9 m9 => ?_)
    have cw : convR (cfgR ro) h9 24 9 w = .ok (.str (sealS (encS 210 l))) := m9.toBS.conv un24 un9 un5
    have cc9 : convR (cfgR ro) h9 24 9 c = .ok (.str (sealS (encS 210 l))) := (bc.old k9).conv un24 un9 un5
    simp [-convR, cw, cc9]
    refine ⟨.inl (by decide +kernel), ?_⟩
    refine same12 ((Mine.sl m8).old k9) (hx h9 ((k7.trans k8).trans k9)) (show l.length ≤ 2 ^ 40 by omega) ?_
    simp [-convR, cw, cc9]
    refine dec10 (hb _) hs (by omega) (fun u1 ha ka ma => ?_)
    simp
    refine read13 (hb _) hs (by omega) (fun u2 hb2 kb mb => ?_)
    simp
    refine same12 ((Mine.sl ma).old kb) mb.sl dl ?_
    simp
  · simp [h6]
    refine dec10 (hb _) hs (by omega) (fun u1 ha ka ma => ?_)
    simp
    refine read13 (hb _) hs (by omega) (fun u2 hb2 kb mb => ?_)
    simp
    refine same12 ((Mine.sl ma).old kb) mb.sl dl ?_
    simp
end
end Go.Proofs.Ytomhcjiefmaopaa
set_option linter.all false
set_option maxRecDepth 100000
set_option maxHeartbeats 4000000
namespace Go.Proofs.Ytomhcjiefmaopaa
open Go Go.RowKit Go.Proofs
/-! an archive's bytes, written -/
/-- some bytes more -/
theorem wr_many {hb h : AHeap} {w : Nat} {bs nb : List UInt8} {v : AVal} (hv : h.get w = some (.row 0 false [v])) (hm : BM hb h v bs) (hw : w < hb.next) (hn : hb.next ≤ h.next) (hl : bs.length + nb.length ≤ 2 ^ 46) :
    ∃ v' h', appCore 1 1 h v nb.length (nb.map bcell) = .ok (v', h') ∧ cellsV v' = .ok [v'] ∧ h'.get w = some (.row 0 false [v]) ∧ WrAt hb (h'.set w (.row 0 false [v'])) w (bs ++ nb) ∧ Wst hb w h (h'.set w (.row 0 false [v'])) := by
  obtain ⟨v', h', h1, h2, h3, h4⟩ := Mine.appendG (bytes := 1) (new := bes nb) hm (by omega) (bes_one nb) (by rw [bes_len, bes_len]; omega) hn
  rw [bes_len, bes_flat] at h1
  refine ⟨v', h', h1, by obtain ⟨_, ⟨_, rfl⟩ | ⟨_, _, rfl, _⟩⟩ := h2 <;> rfl, ?_, ⟨v', by rw [AHeap.get_set]; simp, ?_, hw, by simp at h3 ⊢; omega⟩, by simp at h3 ⊢; omega, fun o ho hne => ?_⟩
  · rw [h4 w hw]; exact hv
  · unfold BM
    rw [bes_append]
    obtain ⟨e1, e2⟩ := h2
    refine ⟨e1, ?_⟩
    rcases e2 with e2 | ⟨q, fz, e2, e3, e4, e5⟩
    · exact .inl e2
    · exact .inr ⟨q, fz, e2, e3, by simpa using e4, by rw [AHeap.get_set, if_neg (by omega)]; exact e5⟩
  · rw [AHeap.get_set, if_neg (by omega), h4 o ho]
theorem WrAt.old {hb h : AHeap} {w : Nat} {bs : List UInt8} (hw : WrAt hb h w bs) {h' : AHeap} (o : Old h h') : WrAt hb h' w bs ∧ Wst hb w h h' := by
  obtain ⟨v, h1, h2, h3, h4⟩ := hw
  have := o.1
  exact ⟨⟨v, by rw [o.2 w (by omega)]; exact h1, h2.keep o, h3, by omega⟩, this, fun p hp _ => o.2 p (by omega)⟩
/-- numbers, written -/
def lstS (l : List Nat) : List UInt8 := numS l.length ++ l.flatMap numS
def txtS (t : List UInt8) : List UInt8 := numS t.length ++ t
def u32s (l : List Nat) : List (List AVal) := l.map fun n => [.int .u32 (n : Nat)]
theorem u32s_len (l : List Nat) : (u32s l).length = l.length := by simp [u32s]
theorem u32s_get {l : List Nat} {i : Nat} (hi : i < l.length) : (u32s l)[i]? = some [.int .u32 (l.getD i 0 : Nat)] := by simp [u32s, hi]
theorem lst_len {l : List Nat} (h : ∀ n ∈ l, n < 2 ^ 32) (hl : l.length ≤ 1000) : (l.flatMap numS).length ≤ 9 * l.length := by
  induction l with
  | nil => simp
  | cons x l ih =>
    have h1 := ih (fun n hn => h n (by simp [hn])) (by simp at hl; omega)
    have h2 := numS_len 8 x (by have := h x (by simp); omega)
    simp only [List.flatMap_cons, List.length_append, List.length_cons]
    omega
theorem take_flat {l : List Nat} {i : Nat} (hi : i < l.length) : (l.take (i + 1)).flatMap numS = (l.take i).flatMap numS ++ numS (l.getD i 0) := by
  rw [List.take_add_one, List.getElem?_eq_getElem hi, List.flatMap_append]
  simp [hi]
section
variable {ro : Nat → Option (List AVal)}
theorem raw45 {hb h : AHeap} {w : Nat} {bs nb : List UInt8} {x : AVal} (hw : WrAt hb h w bs) (hx : BS (cfgR ro) h x nb) (hl : bs.length + nb.length ≤ 2 ^ 46) {Q : AVal → AHeap → Prop}
    (hq : ∀ h', WrAt hb h' w (bs ++ nb) → Wst hb w h h' → Q (.tuple []) h') : Ev (cfgR ro) 45 [.ptr w 0, x] h Q := by
  obtain ⟨v, hv, hm, hwl, hn⟩ := hw
  refine Ev.wp rfl rfl Try.func45 rfl ?_
  obtain ⟨v', h', h1, hc, h2, h3, h4⟩ := wr_many (nb := nb) hv hm hwl hn hl
  have hr := hx.read
  have hL := hx.lenA
  simp [Try.f45, hv, hr, hL, h1, hc, h2]
  exact hq _ h3 h4
theorem text47 {hb h : AHeap} {w : Nat} {bs t : List UInt8} (hw : WrAt hb h w bs) (hl : bs.length ≤ 2 ^ 38) (ht : t.length ≤ 2 ^ 38) {Q : AVal → AHeap → Prop}
    (hq : ∀ h', WrAt hb h' w (bs ++ txtS t) → Wst hb w h h' → Q (.tuple []) h') : Ev (cfgR ro) 47 [.ptr w 0, .str t] h Q := by
  refine Ev.wp rfl rfl Try.func47 rfl ?_
  have e0 : IntKind.u64.wrap (t.length : Int) = t.length := by rw [wrap64]; omega
  have hnl := numS_len 8 t.length (by omega)
  simp [Try.f47, e0]
  refine num31 (by omega) hw (by omega) (fun h1 w1 s1 => ?_)
  obtain ⟨v, hv, hm, hwl, hn⟩ := w1
  obtain ⟨v', h', k1, kc, k2, k3, k4⟩ := wr_many (nb := t) hv hm hwl hn (by rw [List.length_append]; omega)
  rw [List.append_assoc] at k3
  have k1' : appCore 1 1 h1 v t.length (List.take t.length (t.map fun b => AVal.int .u8 b.toNat)) = .ok (v', h') := by rw [List.take_of_length_le (by simp)]; exact k1
  simp [hv, k1', kc, k2]
  exact hq _ k3 (s1.trans k4)
theorem numbers46 {hb h : AHeap} {w : Nat} {bs : List UInt8} {x : AVal} {l : List Nat} (hw : WrAt hb h w bs) (hx : ∀ h', Wst hb w h h' → Sl (cfgR ro) h' 1 x (u32s l)) (hl : bs.length ≤ 2 ^ 38) (hn : l.length ≤ 1000) (hb32 : ∀ n ∈ l, n < 2 ^ 32) {Q : AVal → AHeap → Prop}
    (hq : ∀ h', WrAt hb h' w (bs ++ lstS l) → Wst hb w h h' → Q (.tuple []) h') : Ev (cfgR ro) 46 [.ptr w 0, x] h Q := by
  refine Ev.wp rfl rfl Try.func46 rfl ?_
  have e0 : IntKind.u64.wrap (l.length : Int) = l.length := by rw [wrap64]; omega
  have hnl := numS_len 8 l.length (by omega)
  have hL : ∀ h', Wst hb w h h' → lenR (cfgR ro) h' 44 x = .ok (.int .i64 l.length) := fun h' s => by have := (hx h' s).lenR (t := 44) un44; rw [u32s_len] at this; exact this
  have hX : ∀ i, i < l.length → indexAddrR Try.prog 44 x (.int .i64 (i : Int)) = .ok (elp x 1 i) := fun i hi => (hx h Wst.refl).idx un44 sz40 (by rw [u32s_len]; exact hi)
  have hA : ∀ h', Wst hb w h h' → ∀ i (hi : i < l.length), loadR (cfgR ro) h' 40 (elp x 1 i) = .ok (.int .u32 (l.getD i 0 : Nat)) := fun h' s i hi => (hx h' s).load1 (u32s_get hi) rfl ag40
  simp [Try.f46, hL h Wst.refl, e0]
  refine num31 (by omega) hw (by omega) (fun h1 w1 s1 => ?_)
  simp [hL h1 s1]
  obtain ⟨I, hI⟩ : ∃ I : Nat → List AVal → AHeap → Prop, I = fun m env h' => ∃ i : Nat, i + m = l.length ∧ WrAt hb h' w (bs ++ (numS l.length ++ (l.take i).flatMap numS)) ∧ Wst hb w h h' ∧ env = (.ptr w 0 :: .dead :: .dead :: .dead :: .dead :: .dead :: .dead :: .dead :: .dead :: .dead :: .dead :: x :: .int .i64 (l.length : Nat) :: .int .i64 (i : Nat) :: .dead :: .dead :: .dead :: .dead :: .dead :: .dead :: .dead :: .dead :: []) := ⟨_, rfl⟩
  refine loop_of I ?_ l.length (by rw [hI]; exact ⟨0, by omega, by simpa using w1, s1, rfl⟩)
  intro m env h' hi
  rw [hI] at hi
  obtain ⟨i, him, w2, s2, rfl⟩ := hi
  by_cases hlt : i < l.length
  · have hb := hb32 (l.getD i 0) (by simp [hlt])
    have e1 : IntKind.u64.wrap ((l.getD i 0 : Nat) : Int) = ((l.getD i 0 : Nat) : Int) := by rw [wrap64]; omega
    have e2 : IntKind.i64.wrap ((i : Int) + 1) = ((i + 1 : Nat) : Int) := by rw [w64 (by omega) (by omega)]; omega
    have hll := lst_len (l := l.take i) (fun n hn => hb32 n (List.mem_of_mem_take hn)) (by rw [List.length_take]; omega)
    rw [List.length_take] at hll
    obtain ⟨z, hz⟩ : ∃ z, z = l.getD i 0 := ⟨_, rfl⟩
    have hx1 := hX i hlt
    have ha1 := hA h' s2 i hlt
    rw [← hz] at e1 ha1 hb
    simp [hlt, hx1, ha1, e1]
    refine num31 (by omega) w2 (by simp only [List.length_append]; omega) (fun h3 w3 s3 => ?_)
    simp [e2]
    refine .mk (m := m - 1) (by omega) ?_
    rw [hI]
    refine ⟨i + 1, by omega, ?_, s2.trans s3, rfl⟩
    rw [take_flat hlt, ← hz]
    simpa using w3
  · have hil : i = l.length := by omega
    rw [hil, List.take_length] at w2
    simp [hlt]
    exact hq _ w2 s2
end
end Go.Proofs.Ytomhcjiefmaopaa
set_option linter.all false
set_option maxRecDepth 100000
set_option maxHeartbeats 4000000
namespace Go.Proofs.Ytomhcjiefmaopaa
open Go Go.RowKit Go.Proofs
/-- a state -/
structure Sta where
  r : Nat
  clock : Nat
  n : Nat
  next : Nat
  sent : List (List UInt8)
  lists : List (List Nat)
structure Sta.Ok (s : Sta) : Prop where
  r : s.r < 2 ^ 16
  clock : s.clock < 2 ^ 63
  n : s.n < 2 ^ 32
  next : s.next < 2 ^ 32
  len : s.lists.length = 16
  nums : ∀ l ∈ s.lists, ∀ n ∈ l, n < 2 ^ 32
/-- a state in memory -/
structure StM (c : Cfg) (h : AHeap) (sv : AVal) (ls svs : List AVal) (s : Sta) : Prop where
  len : ls.length = 16
  lst : ∀ i, i < 16 → Sl c h 1 (ls.getD i .dead) (u32s (s.lists.getD i []))
  sent : Sl c h 1 sv (svs.map fun v => [v])
  svl : svs.length = s.sent.length
  one : ∀ i, i < s.sent.length → BS c h (svs.getD i .dead) (s.sent.getD i [])
def stA (sv : AVal) (ls : List AVal) (s : Sta) : List AVal := .int .u16 s.r :: .int .u64 s.clock :: .int .u32 s.n :: .int .u32 s.next :: sv :: ls
def headS (s : Sta) : List UInt8 := [67, 80, 65, 1] ++ (numS s.r ++ (numS s.clock ++ (numS s.n ++ numS s.next)))
def bodyA (s : Sta) : List UInt8 := headS s ++ (s.lists.flatMap lstS ++ (numS s.sent.length ++ s.sent.flatMap txtS))
def encA (s : Sta) : List UInt8 := sealS (bodyA s)
theorem pair_at {ls : List AVal} {i : Nat} (h : 2 * i + 1 < ls.length) : takeR ls (i * 2) 2 = .ok [ls.getD (2 * i) .dead, ls.getD (2 * i + 1) .dead] := by
  unfold takeR
  rw [if_pos (by omega), show i * 2 = 2 * i by omega, List.drop_eq_getElem_cons (by omega), List.drop_eq_getElem_cons (by omega), List.getD_eq_getElem?_getD, List.getD_eq_getElem?_getD, List.getElem?_eq_getElem (show 2 * i < ls.length by omega), List.getElem?_eq_getElem h]
  rfl
theorem flat2 {α : Type} {f : List Nat → List α} {L : List (List Nat)} {i : Nat} (h : 2 * i + 1 < L.length) : (L.take (2 * (i + 1))).flatMap f = (L.take (2 * i)).flatMap f ++ (f (L.getD (2 * i) []) ++ f (L.getD (2 * i + 1) [])) := by
  rw [show 2 * (i + 1) = 2 * i + 1 + 1 by omega, List.take_add_one, List.take_add_one, List.getElem?_eq_getElem h, List.getElem?_eq_getElem (show 2 * i < L.length by omega)]
  simp only [Option.toList_some, List.flatMap_append, List.flatMap_cons, List.flatMap_nil, List.append_nil, List.append_assoc, List.getD_eq_getElem?_getD, List.getElem?_eq_getElem (show 2 * i < L.length by omega), List.getElem?_eq_getElem h, Option.getD_some]
theorem flat1 {α β : Type} {f : β → List α} {L : List β} {i : Nat} {d : β} (h : i < L.length) : (L.take (i + 1)).flatMap f = (L.take i).flatMap f ++ f (L.getD i d) := by
  rw [List.take_add_one, List.getElem?_eq_getElem h]
  simp only [Option.toList_some, List.flatMap_append, List.flatMap_cons, List.flatMap_nil, List.append_nil, List.getD_eq_getElem?_getD, List.getElem?_eq_getElem h, Option.getD_some]
theorem len_flat {α β : Type} {f : β → List α} {B : Nat} : ∀ {L : List β}, (∀ x ∈ L, (f x).length ≤ B) → (L.flatMap f).length ≤ B * L.length
  | [], _ => by simp
  | x :: L, h => by
    have h1 := len_flat (f := f) (B := B) (L := L) (fun y hy => h y (by simp [hy]))
    have h2 := h x (by simp)
    simp only [List.flatMap_cons, List.length_append, List.length_cons, Nat.mul_succ]
    omega
theorem lstS_len {l : List Nat} (h : ∀ n ∈ l, n < 2 ^ 32) (hl : l.length ≤ 1000) : (lstS l).length ≤ 9009 := by
  have := lst_len h hl
  have := numS_len 8 l.length (by omega)
  unfold lstS
  rw [List.length_append]
  omega
theorem StM.old {c : Cfg} {h h' : AHeap} {sv : AVal} {ls svs : List AVal} {s : Sta} (m : StM c h sv ls svs s) (o : Old h h') : StM c h' sv ls svs s :=
  ⟨m.len, fun i hi => (m.lst i hi).old o, m.sent.old o, m.svl, fun i hi => (m.one i hi).old o⟩
section
variable {ro : Nat → Option (List AVal)}
theorem enc17 {h : AHeap} {sv : AVal} {ls svs : List AVal} {s : Sta} (m : StM (cfgR ro) h sv ls svs s) (ok : s.Ok) (hf : ∀ l ∈ s.lists, l.length ≤ 100) (hs : s.sent.length ≤ 30) (ht : ∀ t ∈ s.sent, t.length ≤ 500) {Q : AVal → AHeap → Prop}
    (hq : ∀ v' h', Old h h' → BM h h' v' (encA s) → Q v' h') : Ev (cfgR ro) 17 [.agg (stA sv ls s)] h Q := by
  refine Ev.wp rfl rfl Try.func17 rfl ?_
  obtain ⟨hb, hhb⟩ : ∃ hb, hb = h.push (.row 0 false [.nils]) := ⟨_, rfl⟩
  have k0 : Old h hb := by rw [hhb]; exact (Old.refl h).push _
  have w0 : WrAt hb hb h.next [] := by rw [hhb]; exact ⟨.nils, by simp, BM.nil, by simp, Nat.le_refl _⟩
  have old : ∀ h', Wst hb h.next hb h' → Old h h' := fun h' k => ⟨Nat.le_trans k0.1 k.1, fun o ho => by rw [k.2 o (Nat.lt_of_lt_of_le ho k0.1) (by omega)]; exact k0.2 o ho⟩
  have hl := m.len
  simp only [stA]
  obtain ⟨h1, hh1⟩ : ∃ h1, h1 = (hb.push (.row 1 false [.int .u8 67, .int .u8 80, .int .u8 65, .int .u8 1])).set hb.next (.row 1 true [.int .u8 67, .int .u8 80, .int .u8 65, .int .u8 1]) := ⟨_, rfl⟩
  have o1 : Old hb h1 := by rw [hh1]; exact ((Old.refl hb).push _).set (Nat.le_refl _) _
  obtain ⟨w1, s1⟩ := w0.old o1
  have b1 : BS (cfgR ro) h1 (.sl hb.next 0 4) [67, 80, 65, 1] := BM.toBS (h0 := hb) ⟨bes_one _, .inr ⟨hb.next, true, rfl, Nat.le_refl _, by rw [hh1]; simp, by rw [hh1, bes_flat, AHeap.get_set]; simp [bcell]⟩⟩
  have e1 : IntKind.u64.wrap (s.r : Int) = s.r := by have := ok.r; rw [wrap64]; omega
  have e2 : IntKind.u64.wrap (s.n : Int) = s.n := by have := ok.n; rw [wrap64]; omega
  have e3 : IntKind.u64.wrap (s.next : Int) = s.next := by have := ok.next; rw [wrap64]; omega
  have n1 := numS_len 8 s.r (by have := ok.r; omega)
  have n2 := numS_len 8 s.clock (by have := ok.clock; omega)
  have n3 := numS_len 8 s.n (by have := ok.n; omega)
  have n4 := numS_len 8 s.next (by have := ok.next; omega)
  simp -implicitDefEqProofs [Try.f17, buildSliceR, reps, ← hhb, ← hh1]
  refine raw45 w1 b1 (by simp) (fun h2 w2 s2 => ?_)
  simp -implicitDefEqProofs [e1]
  refine num31 (by have := ok.r; omega) w2 (by simp) (fun h3 w3 s3 => ?_)
  simp -implicitDefEqProofs
  refine num31 ok.clock w3 (by simp; omega) (fun h4 w4 s4 => ?_)
  simp -implicitDefEqProofs [e2]
  refine num31 (by have := ok.n; omega) w4 (by simp; omega) (fun h5 w5 s5 => ?_)
  simp -implicitDefEqProofs [e3]
  refine num31 (by have := ok.next; omega) w5 (by simp; omega) (fun h6 w6 s6 => ?_)
  have t16 : List.take 16 ls = ls := List.take_of_length_le (by omega)
  have l16 : 16 ≤ ls.length := by omega
  have s06 : Wst hb h.next hb h6 := ((((s1.trans s2).trans s3).trans s4).trans s5).trans s6
  have hw6 : WrAt hb h6 h.next (headS s) := by have := w6; simp only [headS]; simpa using this
  have hln : (headS s).length ≤ 40 := by simp [headS]; omega
  simp -implicitDefEqProofs [t16, l16]
  obtain ⟨I, hI⟩ : ∃ I : Nat → List AVal → AHeap → Prop, I = fun m env h' => ∃ i : Nat, i + m = 8 ∧ WrAt hb h' h.next (headS s ++ (s.lists.take (2 * i)).flatMap lstS) ∧ Wst hb h.next hb h' ∧ env = (.dead :: .cell (.int .u16 s.r :: .int .u64 s.clock :: .int .u32 s.n :: .int .u32 s.next :: sv :: ls) :: .dead :: .ptr h.next 0 :: .dead :: .dead :: .dead :: .dead :: .dead :: .dead :: .dead :: .dead :: .dead :: .dead :: .dead :: .dead :: .dead :: .dead :: .dead :: .dead :: .dead :: .dead :: .dead :: .dead :: .dead :: .dead :: .dead :: .dead :: .dead :: .dead :: .agg ls :: .int .i64 (i : Nat) :: .dead :: .dead :: .dead :: .dead :: .dead :: .dead :: .dead :: .dead :: .dead :: .dead :: .dead :: .dead :: .dead :: .dead :: .dead :: .dead :: .dead :: .dead :: .dead :: .dead :: .dead :: .dead :: .dead :: .dead :: .dead :: .dead :: .dead :: []) := ⟨_, rfl⟩
  refine loop_of I ?_ 8 (by rw [hI]; exact ⟨0, by omega, by simpa using hw6, s06, rfl⟩)
  intro m2 env h' hi
  rw [hI] at hi
  obtain ⟨i, him, wi, si, rfl⟩ := hi
  by_cases hlt : i < 8
  · have w1 : IntKind.i64.wrap ((i : Int) + 1) = ((i + 1 : Nat) : Int) := by rw [w64 (by omega) (by omega)]; omega
    have hlt' : (i : Int) < 8 := by omega
    have hix : idxNat (.int .i64 (i : Int)) 8 = .ok i := ix_nat hlt
    have hp := pair_at (ls := ls) (i := i) (by omega)
    obtain ⟨x, hx⟩ : ∃ x, x = ls.getD (2 * i) .dead := ⟨_, rfl⟩
    obtain ⟨y, hy⟩ : ∃ y, y = ls.getD (2 * i + 1) .dead := ⟨_, rfl⟩
    obtain ⟨lx, hlx⟩ : ∃ lx, lx = s.lists.getD (2 * i) [] := ⟨_, rfl⟩
    obtain ⟨ly, hly⟩ : ∃ ly, ly = s.lists.getD (2 * i + 1) [] := ⟨_, rfl⟩
    have ml : ∀ j, j < 16 → s.lists.getD j [] ∈ s.lists := fun j hj => by
      rw [List.getD_eq_getElem?_getD, List.getElem?_eq_getElem (by have := ok.len; omega)]; simp
    have mx := ml (2 * i) (by omega)
    have my := ml (2 * i + 1) (by omega)
    have sx := m.lst (2 * i) (by omega)
    have sy := m.lst (2 * i + 1) (by omega)
    rw [← hx, ← hlx] at sx
    rw [← hy, ← hly] at sy
    rw [← hlx] at mx
    rw [← hly] at my
    rw [← hx, ← hy] at hp
    have hfl := len_flat (f := lstS) (B := 9009) (L := s.lists.take (2 * i)) (fun l hl => lstS_len (ok.nums l (List.mem_of_mem_take hl)) (by have := hf l (List.mem_of_mem_take hl); omega))
    rw [List.length_take] at hfl
    have hxl := lstS_len (ok.nums lx mx) (by have := hf lx mx; omega)
    simp -implicitDefEqProofs [hlt, hlt', hix, hp]
    refine numbers46 wi (fun h3 s3 => sx.old (old h3 (si.trans s3))) (by rw [List.length_append]; omega) (by have := hf lx mx; omega) (ok.nums lx mx) (fun h3 w3 s3 => ?_)
    simp -implicitDefEqProofs
    refine numbers46 w3 (fun h4 s4 => sy.old (old h4 ((si.trans s3).trans s4))) (by rw [List.length_append, List.length_append]; omega) (by have := hf ly my; omega) (ok.nums ly my) (fun h4 w4 s4 => ?_)
    simp -implicitDefEqProofs [w1]
    refine .mk (m := m2 - 1) (by omega) ?_
    rw [hI]
    refine ⟨i + 1, by omega, ?_, (si.trans s3).trans s4, rfl⟩
    rw [flat2 (by have := ok.len; omega), ← hlx, ← hly]
    simpa using w4
  · have hlt' : ¬ (i : Int) < 8 := by omega
    have hi8 : i = 8 := by omega
    rw [hi8, List.take_of_length_le (by have := ok.len; omega)] at wi
    have hL : ∀ h3, Old h h3 → lenR (cfgR ro) h3 43 sv = .ok (.int .i64 (s.sent.length : Nat)) := fun h3 o3 => by have := (m.sent.old o3).lenR (t := 43) un43; simpa [m.svl] using this
    have e4 : IntKind.u64.wrap (s.sent.length : Int) = s.sent.length := by rw [wrap64]; omega
    have hfl := len_flat (f := lstS) (B := 9009) (L := s.lists) (fun l hl => lstS_len (ok.nums l hl) (by have := hf l hl; omega))
    rw [ok.len] at hfl
    have n5 := numS_len 8 s.sent.length (by omega)
    simp -implicitDefEqProofs [hlt, hlt', hL h' (old h' si), e4]
    refine num31 (by omega) wi (by rw [List.length_append]; omega) (fun h3 w3 s3 => ?_)
    simp -implicitDefEqProofs [hL h3 (old h3 (si.trans s3))]
    obtain ⟨J, hJ⟩ : ∃ J : Nat → List AVal → AHeap → Prop, J = fun m env h' => ∃ i : Nat, i + m = s.sent.length ∧ WrAt hb h' h.next (headS s ++ (s.lists.flatMap lstS ++ (numS s.sent.length ++ (s.sent.take i).flatMap txtS))) ∧ Wst hb h.next hb h' ∧ env = (.dead :: .dead :: .dead :: .ptr h.next 0 :: .dead :: .dead :: .dead :: .dead :: .dead :: .dead :: .dead :: .dead :: .dead :: .dead :: .dead :: .dead :: .dead :: .dead :: .dead :: .dead :: .dead :: .dead :: .dead :: .dead :: .dead :: .dead :: .dead :: .dead :: .dead :: .dead :: .dead :: .dead :: .dead :: .dead :: .dead :: .dead :: .dead :: .dead :: .dead :: .dead :: .dead :: .dead :: .dead :: .dead :: .dead :: .dead :: .dead :: sv :: .int .i64 (s.sent.length : Nat) :: .int .i64 (i : Nat) :: .dead :: .dead :: .dead :: .dead :: .dead :: .dead :: .dead :: .dead :: .dead :: []) := ⟨_, rfl⟩
    refine loop_of J ?_ s.sent.length (by rw [hJ]; exact ⟨0, by omega, by simpa using w3, si.trans s3, rfl⟩)
    intro m3 env h5 hj
    rw [hJ] at hj
    obtain ⟨k, hkm, w5, s5, rfl⟩ := hj
    by_cases hk : k < s.sent.length
    · have hk' : (k : Int) < (s.sent.length : Int) := by omega
      have w6 : IntKind.i64.wrap ((k : Int) + 1) = ((k + 1 : Nat) : Int) := by rw [w64 (by omega) (by omega)]; omega
      have o5 := old h5 s5
      have hX : indexAddrR Try.prog 43 sv (.int .i64 (k : Int)) = .ok (elp sv 1 k) := m.sent.idx un43 sz24 (by simp [m.svl, hk])
      have hA : loadR (cfgR ro) h5 24 (elp sv 1 k) = .ok (svs.getD k .dead) := (m.sent.old o5).load1 (e := [svs.getD k .dead]) (by rw [List.getElem?_map, List.getElem?_eq_getElem (by rw [m.svl]; exact hk)]; simp [List.getD_eq_getElem?_getD, m.svl, hk]) rfl ag24
      have hb1 := (m.one k hk).old o5
      obtain ⟨b, hbb⟩ : ∃ b, b = s.sent.getD k [] := ⟨_, rfl⟩
      have hbm : b ∈ s.sent := by rw [hbb, List.getD_eq_getElem?_getD, List.getElem?_eq_getElem hk]; simp
      obtain ⟨bv, hbv⟩ : ∃ bv, bv = svs.getD k .dead := ⟨_, rfl⟩
      rw [← hbv] at hA hb1
      rw [← hbb] at hb1
      have hcv := hb1.conv (s := 24) (d := 9) (e := 5) un24 un9 un5
      have htl := len_flat (f := txtS) (B := 600) (L := s.sent.take k) (fun t hm => by have := ht t (List.mem_of_mem_take hm); have := numS_len 8 t.length (by omega); simp only [txtS, List.length_append]; omega)
      rw [List.length_take] at htl
      simp -implicitDefEqProofs [hk, hk', hX, hA, hcv, -convR]
      refine text47 w5 (by simp only [List.length_append]; omega) (by have := ht b hbm; omega) (fun h6 w6' s6' => ?_)
      simp -implicitDefEqProofs [w6]
      refine .mk (m := m3 - 1) (by omega) ?_
      rw [hJ]
      refine ⟨k + 1, by omega, ?_, s5.trans s6', rfl⟩
      rw [flat1 (d := []) hk, ← hbb]
      simpa using w6'
    · have hk' : ¬ (k : Int) < (s.sent.length : Int) := by omega
      have hkl : k = s.sent.length := by omega
      rw [hkl, List.take_length] at w5
      have htl := len_flat (f := txtS) (B := 600) (L := s.sent) (fun t hm => by have := ht t hm; have := numS_len 8 t.length (by omega); simp only [txtS, List.length_append]; omega)
      simp -implicitDefEqProofs [hk, hk']
      refine bytes33 w5 (by simp only [List.length_append]; omega) (fun v6 h6 b6 o6 => ?_)
      simp -implicitDefEqProofs
      refine seal32 b6.toBS (by simp only [List.length_append]; omega) (fun v7 h7 b7 o7 => ?_)
      have bc := b7.cells
      simp -implicitDefEqProofs [bc]
      exact hq v7 h7 (((old h5 s5).trans o6).trans o7) (by
        obtain ⟨c1, c2⟩ := b7
        refine ⟨c1, c2.imp id fun ⟨q, fz, d1, d2, d3, d4⟩ => ⟨q, fz, d1, ?_, d3, d4⟩⟩
        have := (old h5 s5).1
        have := o6.1
        omega)
end
end Go.Proofs.Ytomhcjiefmaopaa
set_option linter.all false
set_option maxRecDepth 100000
set_option maxHeartbeats 4000000
namespace Go.Proofs.Ytomhcjiefmaopaa
open Go Go.RowKit Go.Proofs
/-- the document's state in memory -/
structure RfM (c : Cfg) (h : AHeap) (sv : AVal) (ls : List AVal) (s : Sta) : Prop where
  len : ls.length = 16
  lst : ∀ i, i < 16 → Sl c h 1 (ls.getD i .dead) (u32s (s.lists.getD i []))
  sent : Sl c h 1 sv (s.sent.map fun t => [.str t])
theorem RfM.old {c : Cfg} {h h' : AHeap} {sv : AVal} {ls : List AVal} {s : Sta} (m : RfM c h sv ls s) (o : Old h h') : RfM c h' sv ls s :=
  ⟨m.len, fun i hi => (m.lst i hi).old o, m.sent.old o⟩
def rfL (sv : AVal) (ls : List AVal) (s : Sta) : List AVal := .int .u16 s.r :: .int .u64 s.clock :: .int .u32 s.n :: .int .u32 s.next :: (ls ++ [sv])
theorem Sl.one {c : Cfg} {h : AHeap} {sz : Nat} {v : AVal} {es : List (List AVal)} (s : Sl c h sz v es) : cellsV v = .ok [v] := by
  have h1 := s.len
  have h2 := s.noStr
  cases v <;> simp only [lenA] at h1 <;> first | (cases h1; done) | (exact absurd rfl (h2 _)) | rfl
/-- the lists, so many of them set -/
def cu (ls : List AVal) (k : Nat) : List AVal := ls.take k ++ List.replicate (16 - k) .nils
theorem cu_len {ls : List AVal} (hl : ls.length = 16) (k : Nat) : (cu ls k).length = 16 := by
  unfold cu; rw [List.length_append, List.length_take, List.length_replicate]; omega
theorem cu_set {ls : List AVal} (hl : ls.length = 16) {k : Nat} (hk : k < 16) (a b c d e : AVal) : overR (a :: b :: c :: d :: (cu ls k ++ [e])) (4 + k) [ls.getD k .dead] = .ok (a :: b :: c :: d :: (cu ls (k + 1) ++ [e])) := by
  unfold overR
  rw [if_pos (by simp [cu_len hl]; omega)]
  congr 1
  have h1 : cu ls k = ls.take k ++ (.nils :: List.replicate (15 - k) .nils) := by
    unfold cu; rw [show 16 - k = (15 - k) + 1 by omega, List.replicate_succ]
  have h2 : cu ls (k + 1) = ls.take k ++ (ls.getD k .dead :: List.replicate (15 - k) .nils) := by
    unfold cu; rw [List.take_add_one, List.getElem?_eq_getElem (by omega), show 16 - (k + 1) = 15 - k by omega, List.getD_eq_getElem?_getD, List.getElem?_eq_getElem (by omega)]
    simp only [Option.toList_some, List.append_assoc, List.cons_append, List.nil_append, Option.getD_some]
  have hkl : (ls.take k).length = k := by rw [List.length_take]; omega
  rw [h1, h2]
  generalize ls.take k = p at hkl
  generalize ls.getD k .dead = x
  generalize List.replicate (15 - k) AVal.nils = q
  subst hkl
  rw [show 4 + p.length = p.length + 1 + 1 + 1 + 1 by omega]
  simp only [List.take_succ_cons, List.length_cons, List.length_nil, List.cons_append, List.append_assoc]
  rw [show p.length + 1 + 1 + 1 + 1 + (0 + 1) = p.length + 1 + 1 + 1 + 1 + 1 by omega]
  simp only [List.drop_succ_cons]
  simp
theorem last_nth {ls : List AVal} (hl : ls.length = 16) (w : AVal) : nthR (ls ++ [w]) 16 = .ok w := by
  have key : ∀ (l : List AVal) (n : Nat), l.length = n → nthR (l ++ [w]) n = .ok w := by
    intro l
    induction l with
    | nil => intro n hn; subst hn; rfl
    | cons x l ih => intro n hn; subst hn; exact ih _ rfl
  exact key ls 16 hl
theorem last_take {ls : List AVal} (hl : ls.length = 16) (w : AVal) : List.take 17 (ls ++ [w]) = ls ++ [w] := List.take_of_length_le (by simp [hl])
theorem last_over {ls : List AVal} (hl : ls.length = 16) (a b c d w x : AVal) : overR (a :: b :: c :: d :: (ls ++ [w])) 20 [x] = .ok (a :: b :: c :: d :: (ls ++ [x])) := by
  unfold overR
  rw [if_pos (by simp [hl])]
  congr 1
  rw [show 20 = 16 + 1 + 1 + 1 + 1 by rfl, List.take_succ_cons, List.take_succ_cons, List.take_succ_cons, List.take_succ_cons, ← hl, List.take_left']
  · simp
  · rfl
section
variable {ro : Nat → Option (List AVal)}
theorem ref16 {h : AHeap} {sv : AVal} {ls svs : List AVal} {s : Sta} (m : StM (cfgR ro) h sv ls svs s) (hs : s.sent.length ≤ 70000) {Q : AVal → AHeap → Prop}
    (hq : ∀ v' h', Old h h' → Mine h h' 1 (s.sent.map fun t => [.str t]) v' → Q (.agg (rfL v' ls s)) h') : Ev (cfgR ro) 16 [.agg (stA sv ls s)] h Q := by
  refine Ev.wp rfl rfl Try.func16 rfl ?_
  have hl := m.len
  simp only [stA]
  have t16 : List.take 16 ls = ls := List.take_of_length_le (by omega)
  have l16 : 16 ≤ ls.length := by omega
  simp -implicitDefEqProofs [Try.f16, t16, l16]
  obtain ⟨I, hI⟩ : ∃ I : Nat → List AVal → AHeap → Prop, I = fun m env h' => h' = h ∧ ∃ i : Nat, i + m = 8 ∧ env = (.dead :: .cell (.int .u16 s.r :: .int .u64 s.clock :: .int .u32 s.n :: .int .u32 s.next :: sv :: ls) :: .cell (.int .u16 0 :: .int .u64 0 :: .int .u32 0 :: .int .u32 0 :: List.replicate 17 .nils) :: .cell (.int .u16 s.r :: .int .u64 s.clock :: .int .u32 s.n :: .int .u32 s.next :: (cu ls (2 * i) ++ [.nils])) :: .dead :: .dead :: .dead :: .dead :: .dead :: .dead :: .dead :: .dead :: .dead :: .dead :: .dead :: .dead :: .dead :: .dead :: .dead :: .dead :: .dead :: .agg ls :: .int .i64 (i : Nat) :: .dead :: .dead :: .dead :: .dead :: .dead :: .dead :: .dead :: .dead :: .dead :: .dead :: .dead :: .dead :: .dead :: .dead :: .dead :: .dead :: .dead :: .dead :: .dead :: .dead :: .dead :: .dead :: .dead :: .dead :: .dead :: .dead :: .dead :: .dead :: .dead :: .dead :: .dead :: .dead :: .dead :: []) := ⟨_, rfl⟩
  refine loop_of I ?_ 8 (by rw [hI]; exact ⟨rfl, 0, by omega, rfl⟩)
  intro m2 env h' hi
  rw [hI] at hi
  obtain ⟨rfl, i, him, rfl⟩ := hi
  by_cases hlt : i < 8
  · have hlt' : (i : Int) < 8 := by omega
    have w1 : IntKind.i64.wrap ((i : Int) + 1) = ((i + 1 : Nat) : Int) := by rw [w64 (by omega) (by omega)]; omega
    have hix : idxNat (.int .i64 (i : Int)) 8 = .ok i := ix_nat hlt
    have hp := pair_at (ls := ls) (i := i) (by omega)
    obtain ⟨k, hk⟩ : ∃ k, k = 2 * i := ⟨_, rfl⟩
    have w2 : IntKind.i64.wrap (2 * (i : Int)) = (k : Int) := by rw [w64 (by omega) (by omega)]; omega
    obtain ⟨k1, hk1⟩ : ∃ k1, k1 = k + 1 := ⟨_, rfl⟩
    have w3 : IntKind.i64.wrap ((k : Int) + 1) = (k1 : Int) := by rw [w64 (by omega) (by omega)]; omega
    have x0 : idxNat (.int .i64 (k : Int)) 16 = .ok k := ix_nat (by omega)
    have x1 : idxNat (.int .i64 (k1 : Int)) 16 = .ok k1 := ix_nat (by omega)
    have c0 := cu_set hl (k := k) (by omega) (.int .u16 s.r) (.int .u64 s.clock) (.int .u32 s.n) (.int .u32 s.next) .nils
    have c1 := cu_set hl (k := k1) (by omega) (.int .u16 s.r) (.int .u64 s.clock) (.int .u32 s.n) (.int .u32 s.next) .nils
    rw [← hk1] at c0
    rw [← hk, ← hk1] at hp
    have d0 := (m.lst k (by omega)).one
    have d1 := (m.lst k1 (by omega)).one
    obtain ⟨x, hx⟩ : ∃ x, x = ls.getD k .dead := ⟨_, rfl⟩
    obtain ⟨y, hy⟩ : ∃ y, y = ls.getD k1 .dead := ⟨_, rfl⟩
    rw [← hx] at hp d0 c0
    rw [← hy] at hp d1 c1
    simp -implicitDefEqProofs [hlt, hlt', hix, hp, w2, w3, x0, x1, ← hk, c0, c1, d0, d1]
    refine .mk (m := m2 - 1) (by omega) ?_
    rw [hI, w1]
    exact ⟨rfl, i + 1, by omega, by rw [show 2 * (i + 1) = k1 + 1 by omega]; rfl⟩
  · have hlt' : ¬ (i : Int) < 8 := by omega
    have hcu : cu ls (2 * i) = ls := by
      rw [show 2 * i = 16 by omega]; unfold cu; rw [t16]; simp
    have hL : ∀ h3, Old h' h3 → lenR (cfgR ro) h3 43 sv = .ok (.int .i64 (s.sent.length : Nat)) := fun h3 o3 => by have := (m.sent.old o3).lenR (t := 43) un43; simpa [m.svl] using this
    simp -implicitDefEqProofs [hlt, hlt', hL h' (Old.refl h'), hcu]
    obtain ⟨J, hJ⟩ : ∃ J : Nat → List AVal → AHeap → Prop, J = fun m env h3 => ∃ (i : Nat) (w : AVal), i + m = s.sent.length ∧ Old h' h3 ∧ Mine h' h3 1 ((s.sent.take i).map fun t => [.str t]) w ∧ env = (.dead :: .dead :: .cell (.int .u16 0 :: .int .u64 0 :: .int .u32 0 :: .int .u32 0 :: List.replicate 17 .nils) :: .cell (.int .u16 s.r :: .int .u64 s.clock :: .int .u32 s.n :: .int .u32 s.next :: (ls ++ [w])) :: .dead :: .dead :: .dead :: .dead :: .dead :: .dead :: .dead :: .dead :: .dead :: .dead :: .dead :: .dead :: .dead :: .dead :: .dead :: .dead :: .dead :: .dead :: .dead :: .dead :: .dead :: .dead :: .dead :: .dead :: .dead :: .dead :: .dead :: .dead :: .dead :: .dead :: .dead :: .dead :: .dead :: .dead :: .dead :: .dead :: .dead :: sv :: .int .i64 (s.sent.length : Nat) :: .int .i64 (i : Nat) :: .dead :: .dead :: .dead :: .dead :: .dead :: .dead :: .dead :: .dead :: .dead :: .dead :: .dead :: .dead :: []) := ⟨_, rfl⟩
    refine loop_of J ?_ s.sent.length (by rw [hJ]; exact ⟨0, .nils, by omega, Old.refl _, Mine.nil _ _ _, rfl⟩)
    intro m3 env h5 hj
    rw [hJ] at hj
    obtain ⟨k, w, hkm, o5, mw, rfl⟩ := hj
    by_cases hk : k < s.sent.length
    · have hk' : (k : Int) < (s.sent.length : Int) := by omega
      have w6 : IntKind.i64.wrap ((k : Int) + 1) = ((k + 1 : Nat) : Int) := by rw [w64 (by omega) (by omega)]; omega
      have hX : indexAddrR Try.prog 43 sv (.int .i64 (k : Int)) = .ok (elp sv 1 k) := m.sent.idx un43 sz24 (by simp [m.svl, hk])
      have hA : loadR (cfgR ro) h5 24 (elp sv 1 k) = .ok (svs.getD k .dead) := (m.sent.old o5).load1 (e := [svs.getD k .dead]) (by rw [List.getElem?_map, List.getElem?_eq_getElem (by rw [m.svl]; exact hk)]; simp [List.getD_eq_getElem?_getD, m.svl, hk]) rfl ag24
      have hb1 := (m.one k hk).old o5
      obtain ⟨b, hbb⟩ : ∃ b, b = s.sent.getD k [] := ⟨_, rfl⟩
      obtain ⟨bv, hbv⟩ : ∃ bv, bv = svs.getD k .dead := ⟨_, rfl⟩
      rw [← hbv] at hA hb1
      rw [← hbb] at hb1
      have hcv := hb1.conv (s := 24) (d := 9) (e := 5) un24 un9 un5
      obtain ⟨v', h6, f1, m6, o6⟩ := (mw.keep ((Old.refl h5).push (.row 1 false [.str b]))).append1 (bytes := 16) (e := [.str b]) (by omega) rfl (by simp; omega) (o5.trans ((Old.refl h5).push _))
      have n16 := last_nth hl w
      have v1 := m6.sl (c := cfgR ro)
      have v2 := v1.one
      have ov := last_over hl (.int .u16 s.r) (.int .u64 s.clock) (.int .u32 s.n) (.int .u32 s.next) w v'
      have wc := (mw.sl (c := cfgR ro)).one
      simp -implicitDefEqProofs [hk, hk', hX, hA, hcv, -convR, hl, buildSliceR, reps, n16, f1, v2, ov, w6]
      refine .mk (m := m3 - 1) (by omega) ?_
      rw [hJ]
      refine ⟨k + 1, v', by omega, o6, ?_, rfl⟩
      rw [List.take_add_one, List.getElem?_eq_getElem hk, List.map_append]
      have hbk : b = s.sent[k] := by rw [hbb, List.getD_eq_getElem?_getD, List.getElem?_eq_getElem hk]; rfl
      rw [hbk] at m6
      exact m6
    · have hk' : ¬ (k : Int) < (s.sent.length : Int) := by omega
      have hkl : k = s.sent.length := by omega
      rw [hkl, List.take_length] at mw
      have t17 := last_take hl w
      simp -implicitDefEqProofs [hk, hk', hl, t17]
      exact hq w h5 o5 mw
end
end Go.Proofs.Ytomhcjiefmaopaa
set_option linter.all false
set_option maxRecDepth 100000
set_option maxHeartbeats 4000000
namespace Go.Proofs.Ytomhcjiefmaopaa
open Go Go.RowKit Go.Proofs
theorem BM.lower {h0 h1 h : AHeap} {v : AVal} {bs : List UInt8} (m : BM h1 h v bs) (o : Old h0 h1) : BM h0 h v bs := by
  obtain ⟨c1, c2⟩ := m
  exact ⟨c1, c2.imp id fun ⟨q, fz, d1, d2, d3, d4⟩ => ⟨q, fz, d1, Nat.le_trans o.1 d2, d3, d4⟩⟩
theorem nth4 {ls : List AVal} {k : Nat} (hk : k < ls.length) (a b c d e : AVal) : nthR (a :: b :: c :: d :: (ls ++ [e])) (4 + k) = .ok (ls.getD k .dead) := by
  rw [show 4 + k = k + 1 + 1 + 1 + 1 by omega]
  show nthR (ls ++ [e]) k = _
  have key : ∀ (l : List AVal) (n : Nat), n < l.length → nthR (l ++ [e]) n = .ok (l.getD n .dead) := by
    intro l
    induction l with
    | nil => intro n hn; cases hn
    | cons x l ih =>
      intro n hn
      cases n with
      | zero => rfl
      | succ n => exact ih n (by simpa using hn)
  exact key ls k hk
section
variable {ro : Nat → Option (List AVal)}
theorem text48 {h : AHeap} {t : List UInt8} (ht : t.length ≤ 2 ^ 38) {Q : AVal → AHeap → Prop} (hq : ∀ v' h', BM h h' v' (txtS t) → Old h h' → Q v' h') : Ev (cfgR ro) 48 [.str t] h Q := by
  refine Ev.wp rfl rfl Try.func48 rfl ?_
  have e0 : IntKind.u64.wrap (t.length : Int) = t.length := by rw [wrap64]; omega
  have hnl := numS_len 8 t.length (by omega)
  simp -implicitDefEqProofs [Try.f48, e0]
  refine num41 t.length (by omega) h (fun v1 h1 m1 o1 => ?_)
  have hif : (if t = [] then Res.ok [] else takeR (t.map fun x => AVal.int .u8 x.toNat) 0 t.length) = .ok (t.map bcell) := by
    by_cases h0 : t = []
    · rw [if_pos h0, h0]; rfl
    · rw [if_neg h0]; unfold takeR; rw [if_pos (by simp), List.drop_zero, List.take_of_length_le (by simp)]; rfl
  have o2 : Old h1 (h1.push (.row 1 true (t.map fun x => AVal.int .u8 x.toNat))) := (Old.refl h1).push _
  obtain ⟨v', h', f, m', o'⟩ := BM.app (nb := t) (m1.keep o2) (o1.trans o2) (by omega)
  have bc := m'.cells
  simp -implicitDefEqProofs [hif, f, bc]
  exact hq _ _ m' o'
theorem bytes18 {h : AHeap} {sv : AVal} {ls : List AVal} {s : Sta} (m : RfM (cfgR ro) h sv ls s) (ok : s.Ok) (hf : ∀ l ∈ s.lists, l.length ≤ 100) (hs : s.sent.length ≤ 30) (ht : ∀ t ∈ s.sent, t.length ≤ 500) {Q : AVal → AHeap → Prop}
    (hq : ∀ v' h', Old h h' → BM h h' v' (encA s) → Q v' h') : Ev (cfgR ro) 18 [.agg (rfL sv ls s)] h Q := by
  refine Ev.wp rfl rfl Try.func18 rfl ?_
  have hl := m.len
  simp only [rfL]
  obtain ⟨h1, hh1⟩ : ∃ h1, h1 = h.push (.row 1 false [.int .u8 67, .int .u8 80, .int .u8 65, .int .u8 1]) := ⟨_, rfl⟩
  have o1 : Old h h1 := by rw [hh1]; exact (Old.refl h).push _
  have b1 : BM h h1 (.sl h.next 0 4) [67, 80, 65, 1] := ⟨bes_one _, .inr ⟨h.next, false, rfl, Nat.le_refl _, by rw [hh1]; simp, by rw [hh1, bes_flat, get_push_next]; rfl⟩⟩
  have e1 : IntKind.u64.wrap (s.r : Int) = s.r := by have := ok.r; rw [wrap64]; omega
  have e2 : IntKind.u64.wrap (s.n : Int) = s.n := by have := ok.n; rw [wrap64]; omega
  have e3 : IntKind.u64.wrap (s.next : Int) = s.next := by have := ok.next; rw [wrap64]; omega
  have n1 := numS_len 8 s.r (by have := ok.r; omega)
  have n2 := numS_len 8 s.clock (by have := ok.clock; omega)
  have n3 := numS_len 8 s.n (by have := ok.n; omega)
  have n4 := numS_len 8 s.next (by have := ok.next; omega)
  simp -implicitDefEqProofs [Try.f18, buildSliceR, reps, ← hh1, e1]
  refine num41 s.r (by have := ok.r; omega) h1 (fun va ha ma oa => ?_)
  obtain ⟨u2, h2, f2, b2, o2⟩ := BM.app (nb := numS s.r) (b1.keep oa) (o1.trans oa) (by simp; omega)
  simp -implicitDefEqProofs [(BM.toBS (c := cfgR ro) ma).lenA, (BM.toBS (c := cfgR ro) ma).read, f2, b2.cells]
  refine num41 s.clock ok.clock h2 (fun vb hb mb ob => ?_)
  obtain ⟨u3, h3, f3, b3, o3⟩ := BM.app (nb := numS s.clock) (b2.keep ob) (o2.trans ob) (by simp; omega)
  simp -implicitDefEqProofs [(BM.toBS (c := cfgR ro) mb).lenA, (BM.toBS (c := cfgR ro) mb).read, f3, b3.cells, e2]
  refine num41 s.n (by have := ok.n; omega) h3 (fun vc hc mc oc => ?_)
  obtain ⟨u4, h4, f4, b4, o4⟩ := BM.app (nb := numS s.n) (b3.keep oc) (o3.trans oc) (by simp; omega)
  simp -implicitDefEqProofs [(BM.toBS (c := cfgR ro) mc).lenA, (BM.toBS (c := cfgR ro) mc).read, f4, b4.cells, e3]
  refine num41 s.next (by have := ok.next; omega) h4 (fun vd hd md od => ?_)
  obtain ⟨u5, h5, f5, b5, o5⟩ := BM.app (nb := numS s.next) (b4.keep od) (o4.trans od) (by simp; omega)
  have hb5 : BM h h5 u5 (headS s) := by simp only [headS]; simpa using b5
  have hln : (headS s).length ≤ 40 := by simp [headS]; omega
  have hn1 := m.old o5
  simp -implicitDefEqProofs [(BM.toBS (c := cfgR ro) md).lenA, (BM.toBS (c := cfgR ro) md).read, f5, b5.cells]
  have ml : ∀ j, j < 16 → s.lists.getD j [] ∈ s.lists := fun j hj => by
    rw [List.getD_eq_getElem?_getD, List.getElem?_eq_getElem (by have := ok.len; omega)]; simp
  obtain ⟨I, hI⟩ : ∃ I : Nat → List AVal → AHeap → Prop, I = fun m env h' => ∃ (i : Nat) (v : AVal), i + m = 16 ∧ BM h h' v (headS s ++ (s.lists.take i).flatMap lstS) ∧ Old h h' ∧ env = (.dead :: .cell (.int .u16 s.r :: .int .u64 s.clock :: .int .u32 s.n :: .int .u32 s.next :: (ls ++ [sv])) :: .dead :: v :: .int .i64 (i : Nat) :: .dead :: .dead :: .dead :: .dead :: .dead :: .dead :: .dead :: .dead :: .dead :: .dead :: .dead :: .dead :: .dead :: .dead :: .dead :: .dead :: .dead :: .dead :: .dead :: .dead :: .dead :: .dead :: .dead :: .dead :: .dead :: .dead :: .dead :: .dead :: .dead :: .dead :: .dead :: .dead :: .dead :: .dead :: .dead :: .dead :: .dead :: .dead :: .dead :: .dead :: .dead :: .dead :: .dead :: .dead :: .dead :: .dead :: .dead :: .dead :: .dead :: .dead :: .dead :: .dead :: .dead :: .dead :: .dead :: .dead :: .dead :: .dead :: .dead :: .dead :: .dead :: .dead :: .dead :: .dead :: .dead :: .dead :: .dead :: .dead :: .dead :: .dead :: .dead :: .dead :: .dead :: .dead :: .dead :: .dead :: .dead :: .dead :: .dead :: .dead :: .dead :: .dead :: .dead :: []) := ⟨_, rfl⟩
  refine loop_of I ?_ 16 (by rw [hI]; exact ⟨0, u5, by omega, by simpa using hb5, o5, rfl⟩)
  intro m2 env h' hi
  rw [hI] at hi
  obtain ⟨i, v, him, bi, oi, rfl⟩ := hi
  by_cases hlt : i < 16
  · have hlt' : (i : Int) < 16 := by omega
    have w1 : IntKind.i64.wrap ((i : Int) + 1) = ((i + 1 : Nat) : Int) := by rw [w64 (by omega) (by omega)]; omega
    have hix : idxNat (.int .i64 (i : Int)) 16 = .ok i := ix_nat hlt
    have hn4 := nth4 (ls := ls) (k := i) (by omega) (.int .u16 s.r) (.int .u64 s.clock) (.int .u32 s.n) (.int .u32 s.next) sv
    obtain ⟨x, hx⟩ : ∃ x, x = ls.getD i .dead := ⟨_, rfl⟩
    obtain ⟨l, hlx⟩ : ∃ l, l = s.lists.getD i [] := ⟨_, rfl⟩
    have sx := m.lst i (by omega)
    have mx := ml i (by omega)
    rw [← hx, ← hlx] at sx
    rw [← hlx] at mx
    rw [← hx] at hn4
    have hlf := hf l mx
    have hln2 := ok.nums l mx
    have hfl := len_flat (f := lstS) (B := 9009) (L := s.lists.take i) (fun l hl => lstS_len (ok.nums l (List.mem_of_mem_take hl)) (by have := hf l (List.mem_of_mem_take hl); omega))
    rw [List.length_take] at hfl
    have e4 : IntKind.u64.wrap (l.length : Int) = l.length := by rw [wrap64]; omega
    have hL : ∀ h3, Old h h3 → lenR (cfgR ro) h3 44 x = .ok (.int .i64 l.length) := fun h3 o3 => by have := (sx.old o3).lenR (t := 44) un44; rw [u32s_len] at this; exact this
    have n5 := numS_len 8 l.length (by omega)
    simp -implicitDefEqProofs [hlt, hlt', hix, hn4, hL h' oi, e4]
    refine num41 l.length (by omega) h' (fun ve he me oe => ?_)
    obtain ⟨u6, h6, f6, b6, o6⟩ := BM.app (nb := numS l.length) (bi.keep oe) (oi.trans oe) (by simp only [List.length_append]; omega)
    simp -implicitDefEqProofs [(BM.toBS (c := cfgR ro) me).lenA, (BM.toBS (c := cfgR ro) me).read, f6, b6.cells]
    obtain ⟨J, hJ⟩ : ∃ J : Nat → List AVal → AHeap → Prop, J = fun m env h' => ∃ (j : Nat) (v : AVal), j + m = l.length ∧ BM h h' v (headS s ++ (s.lists.take i).flatMap lstS ++ (numS l.length ++ (l.take j).flatMap numS)) ∧ Old h h' ∧ env = (.dead :: .cell (.int .u16 s.r :: .int .u64 s.clock :: .int .u32 s.n :: .int .u32 s.next :: (ls ++ [sv])) :: .dead :: v :: .int .i64 (i : Nat) :: .int .i64 (j : Nat) :: .dead :: .dead :: .dead :: .dead :: .dead :: .dead :: .dead :: .dead :: .dead :: .dead :: .dead :: .dead :: .dead :: .dead :: .dead :: .dead :: .dead :: .dead :: .dead :: .dead :: .dead :: .dead :: .dead :: .dead :: .dead :: .dead :: .dead :: .dead :: .dead :: .dead :: .dead :: .dead :: .dead :: .dead :: .dead :: .dead :: .dead :: .dead :: .dead :: .dead :: .dead :: .dead :: .dead :: .dead :: .dead :: .dead :: .dead :: .dead :: .dead :: .dead :: .dead :: .dead :: .dead :: .dead :: .dead :: .dead :: .dead :: .dead :: .dead :: .dead :: .dead :: .dead :: .dead :: .dead :: .dead :: .dead :: .dead :: .dead :: .dead :: .dead :: .dead :: .dead :: .dead :: .dead :: .dead :: .dead :: .dead :: .dead :: .dead :: .dead :: .dead :: .dead :: []) := ⟨_, rfl⟩
    refine loop_of J ?_ l.length (by rw [hJ]; exact ⟨0, u6, by omega, by simpa using b6, o6, rfl⟩)
    intro m3 env h7 hj
    rw [hJ] at hj
    obtain ⟨j, v7, hjm, b7, o7, rfl⟩ := hj
    have hL7 := hL h7 o7
    by_cases hj : j < l.length
    · have hj' : (j : Int) < (l.length : Int) := by omega
      have w2 : IntKind.i64.wrap ((j : Int) + 1) = ((j + 1 : Nat) : Int) := by rw [w64 (by omega) (by omega)]; omega
      have hX : indexAddrR Try.prog 44 x (.int .i64 (j : Int)) = .ok (elp x 1 j) := sx.idx un44 sz40 (by rw [u32s_len]; exact hj)
      have hA : loadR (cfgR ro) h7 40 (elp x 1 j) = .ok (.int .u32 (l.getD j 0 : Nat)) := (sx.old o7).load1 (u32s_get hj) rfl ag40
      obtain ⟨z, hz⟩ : ∃ z, z = l.getD j 0 := ⟨_, rfl⟩
      have hzb := hln2 (l.getD j 0) (by simp [hj])
      rw [← hz] at hA hzb
      have e5 : IntKind.u64.wrap (z : Int) = z := by rw [wrap64]; omega
      have n6 := numS_len 8 z (by omega)
      have hll := lst_len (l := l.take j) (fun n hn => hln2 n (List.mem_of_mem_take hn)) (by rw [List.length_take]; omega)
      rw [List.length_take] at hll
      simp -implicitDefEqProofs [hj, hj', hix, hn4, hL7, hX, hA, e5, hlt, hlt']
      refine num41 z (by omega) h7 (fun vf hf2 mf of => ?_)
      obtain ⟨u8, h8, f8, b8, o8⟩ := BM.app (nb := numS z) (b7.keep of) (o7.trans of) (by simp only [List.length_append]; omega)
      simp -implicitDefEqProofs [(BM.toBS (c := cfgR ro) mf).lenA, (BM.toBS (c := cfgR ro) mf).read, f8, b8.cells, w2]
      refine .mk (m := m3 - 1) (by omega) ?_
      rw [hJ]
      refine ⟨j + 1, u8, by omega, ?_, o8, rfl⟩
      rw [take_flat hj, ← hz]
      simpa using b8
    · have hj' : ¬ (j : Int) < (l.length : Int) := by omega
      have hjl : j = l.length := by omega
      rw [hjl, List.take_length] at b7
      simp -implicitDefEqProofs [hj, hj', hix, hn4, hL7, hlt, hlt', w1]
      refine .mk (m := m2 - 1) (by omega) ?_
      rw [hI]
      refine ⟨i + 1, v7, by omega, ?_, o7, rfl⟩
      rw [flat1 (d := []) (by have := ok.len; omega), ← hlx]
      simp only [lstS]
      simpa using b7
  · have hlt' : ¬ (i : Int) < 16 := by omega
    have hi16 : i = 16 := by omega
    rw [hi16, List.take_of_length_le (by have := ok.len; omega)] at bi
    have n16 := last_nth hl sv
    have hL : ∀ h3, Old h h3 → lenR (cfgR ro) h3 52 sv = .ok (.int .i64 (s.sent.length : Nat)) := fun h3 o3 => by have := (m.sent.old o3).lenR (t := 52) un52; simpa using this
    have e4 : IntKind.u64.wrap (s.sent.length : Int) = s.sent.length := by rw [wrap64]; omega
    have hfl := len_flat (f := lstS) (B := 9009) (L := s.lists) (fun l hl => lstS_len (ok.nums l hl) (by have := hf l hl; omega))
    rw [ok.len] at hfl
    have n5 := numS_len 8 s.sent.length (by omega)
    simp -implicitDefEqProofs [hlt, hlt', hl, n16, hL h' oi, e4]
    refine num41 s.sent.length (by omega) h' (fun ve he me oe => ?_)
    obtain ⟨u6, h6, f6, b6, o6⟩ := BM.app (nb := numS s.sent.length) (bi.keep oe) (oi.trans oe) (by simp only [List.length_append]; omega)
    simp -implicitDefEqProofs [(BM.toBS (c := cfgR ro) me).lenA, (BM.toBS (c := cfgR ro) me).read, f6, b6.cells]
    obtain ⟨J, hJ⟩ : ∃ J : Nat → List AVal → AHeap → Prop, J = fun m env h' => ∃ (j : Nat) (v : AVal), j + m = s.sent.length ∧ BM h h' v (headS s ++ (s.lists.flatMap lstS ++ (numS s.sent.length ++ (s.sent.take j).flatMap txtS))) ∧ Old h h' ∧ env = (.dead :: .cell (.int .u16 s.r :: .int .u64 s.clock :: .int .u32 s.n :: .int .u32 s.next :: (ls ++ [sv])) :: .dead :: v :: .dead :: .dead :: .int .i64 (j : Nat) :: .dead :: .dead :: .dead :: .dead :: .dead :: .dead :: .dead :: .dead :: .dead :: .dead :: .dead :: .dead :: .dead :: .dead :: .dead :: .dead :: .dead :: .dead :: .dead :: .dead :: .dead :: .dead :: .dead :: .dead :: .dead :: .dead :: .dead :: .dead :: .dead :: .dead :: .dead :: .dead :: .dead :: .dead :: .dead :: .dead :: .dead :: .dead :: .dead :: .dead :: .dead :: .dead :: .dead :: .dead :: .dead :: .dead :: .dead :: .dead :: .dead :: .dead :: .dead :: .dead :: .dead :: .dead :: .dead :: .dead :: .dead :: .dead :: .dead :: .dead :: .dead :: .dead :: .dead :: .dead :: .dead :: .dead :: .dead :: .dead :: .dead :: .dead :: .dead :: .dead :: .dead :: .dead :: .dead :: .dead :: .dead :: .dead :: .dead :: .dead :: .dead :: []) := ⟨_, rfl⟩
    refine loop_of J ?_ s.sent.length (by rw [hJ]; exact ⟨0, u6, by omega, by simpa using b6, o6, rfl⟩)
    intro m3 env h7 hj
    rw [hJ] at hj
    obtain ⟨j, v7, hjm, b7, o7, rfl⟩ := hj
    have hL7 := hL h7 o7
    by_cases hj : j < s.sent.length
    · have hj' : (j : Int) < (s.sent.length : Int) := by omega
      have w2 : IntKind.i64.wrap ((j : Int) + 1) = ((j + 1 : Nat) : Int) := by rw [w64 (by omega) (by omega)]; omega
      have hX : indexAddrR Try.prog 52 sv (.int .i64 (j : Int)) = .ok (elp sv 1 j) := m.sent.idx un52 sz9 (by simpa using hj)
      obtain ⟨z, hz⟩ : ∃ z, z = s.sent.getD j [] := ⟨_, rfl⟩
      have hA : loadR (cfgR ro) h7 9 (elp sv 1 j) = .ok (.str z) := (m.sent.old o7).load1 (e := [.str z]) (by rw [hz, List.getElem?_map, List.getElem?_eq_getElem hj, List.getD_eq_getElem?_getD, List.getElem?_eq_getElem hj]; rfl) rfl ag9
      have hzm : z ∈ s.sent := by rw [hz, List.getD_eq_getElem?_getD, List.getElem?_eq_getElem hj]; simp
      have hzl := ht z hzm
      have n6 := numS_len 8 z.length (by omega)
      have htl := len_flat (f := txtS) (B := 600) (L := s.sent.take j) (fun t hm => by have := ht t (List.mem_of_mem_take hm); have := numS_len 8 t.length (by omega); simp only [txtS, List.length_append]; omega)
      rw [List.length_take] at htl
      simp -implicitDefEqProofs [hj, hj', hl, n16, hL7, hX, hA]
      refine text48 (by omega) (fun vf hf2 mf of => ?_)
      obtain ⟨u8, h8, f8, b8, o8⟩ := BM.app (nb := txtS z) (b7.keep of) (o7.trans of) (by simp only [List.length_append, txtS]; omega)
      simp -implicitDefEqProofs [(BM.toBS (c := cfgR ro) mf).lenA, (BM.toBS (c := cfgR ro) mf).read, f8, b8.cells, w2]
      refine .mk (m := m3 - 1) (by omega) ?_
      rw [hJ]
      refine ⟨j + 1, u8, by omega, ?_, o8, rfl⟩
      rw [flat1 (d := []) hj, ← hz]
      simpa using b8
    · have hj' : ¬ (j : Int) < (s.sent.length : Int) := by omega
      have hjl : j = s.sent.length := by omega
      rw [hjl, List.take_length] at b7
      have htl := len_flat (f := txtS) (B := 600) (L := s.sent) (fun t hm => by have := ht t hm; have := numS_len 8 t.length (by omega); simp only [txtS, List.length_append]; omega)
      simp -implicitDefEqProofs [hj, hj', hl, n16, hL7]
      refine seal42 b7.toBS (by simp only [List.length_append]; omega) (fun v8 h8 b8 o8 => ?_)
      have bc := b8.cells
      simp -implicitDefEqProofs [bc]
      exact hq v8 h8 (o7.trans o8) (b8.lower o7)
end
end Go.Proofs.Ytomhcjiefmaopaa
set_option linter.all false
set_option maxRecDepth 100000
set_option maxHeartbeats 4000000
namespace Go.Proofs.Ytomhcjiefmaopaa
open Go Go.RowKit Go.Proofs
def Few (s : Sta) : Prop := (∀ l ∈ s.lists, l.length ≤ 100) ∧ (∀ t ∈ s.sent, t.length ≤ 500) ∧ s.sent.length ≤ 30
section
variable {ro : Nat → Option (List AVal)}
theorem few15 {h : AHeap} {sv : AVal} {ls svs : List AVal} {s : Sta} (m : StM (cfgR ro) h sv ls svs s) (hl16 : s.lists.length = 16) (hbig : s.sent.length < 2 ^ 63) {Q : AVal → AHeap → Prop}
    (hq : ∀ b : Bool, (b = true → Few s) → Q (.bool b) h) : Ev (cfgR ro) 15 [.agg (stA sv ls s)] h Q := by
  refine Ev.wp rfl rfl Try.func15 rfl ?_
  have hl := m.len
  simp only [stA]
  have t16 : List.take 16 ls = ls := List.take_of_length_le (by omega)
  have l16 : 16 ≤ ls.length := by omega
  simp -implicitDefEqProofs [Try.f15, t16, l16]
  obtain ⟨I, hI⟩ : ∃ I : Nat → List AVal → AHeap → Prop, I = fun m env h' => h' = h ∧ ∃ i : Nat, i + m = 8 ∧ (∀ l ∈ s.lists.take (2 * i), l.length ≤ 100) ∧ env = (.dead :: .cell (.int .u16 s.r :: .int .u64 s.clock :: .int .u32 s.n :: .int .u32 s.next :: sv :: ls) :: .dead :: .dead :: .dead :: .dead :: .dead :: .dead :: .agg ls :: .int .i64 (i : Nat) :: .dead :: .dead :: .dead :: .dead :: .dead :: .dead :: .dead :: .dead :: .dead :: .dead :: .dead :: .dead :: .dead :: .dead :: .dead :: .dead :: .dead :: .dead :: .dead :: .dead :: .dead :: .dead :: .dead :: .dead :: .dead :: .dead :: .dead :: .dead :: []) := ⟨_, rfl⟩
  refine loop_of I ?_ 8 (by rw [hI]; exact ⟨rfl, 0, by omega, by simp, rfl⟩)
  intro m2 env h' hi
  rw [hI] at hi
  obtain ⟨rfl, i, him, hfi, rfl⟩ := hi
  by_cases hlt : i < 8
  · have hlt' : (i : Int) < 8 := by omega
    have w1 : IntKind.i64.wrap ((i : Int) + 1) = ((i + 1 : Nat) : Int) := by rw [w64 (by omega) (by omega)]; omega
    have hix : idxNat (.int .i64 (i : Int)) 8 = .ok i := ix_nat hlt
    have hp := pair_at (ls := ls) (i := i) (by omega)
    obtain ⟨x, hx⟩ : ∃ x, x = ls.getD (2 * i) .dead := ⟨_, rfl⟩
    obtain ⟨y, hy⟩ : ∃ y, y = ls.getD (2 * i + 1) .dead := ⟨_, rfl⟩
    obtain ⟨lx, hlx⟩ : ∃ lx, lx = s.lists.getD (2 * i) [] := ⟨_, rfl⟩
    obtain ⟨ly, hly⟩ : ∃ ly, ly = s.lists.getD (2 * i + 1) [] := ⟨_, rfl⟩
    have sx := m.lst (2 * i) (by omega)
    have sy := m.lst (2 * i + 1) (by omega)
    rw [← hx, ← hlx] at sx
    rw [← hy, ← hly] at sy
    rw [← hx, ← hy] at hp
    have Lx : lenR (cfgR ro) h' 44 x = .ok (.int .i64 lx.length) := by have := sx.lenR (t := 44) un44; rw [u32s_len] at this; exact this
    have Ly : lenR (cfgR ro) h' 44 y = .ok (.int .i64 ly.length) := by have := sy.lenR (t := 44) un44; rw [u32s_len] at this; exact this
    by_cases g1 : 100 < lx.length
    · have g1' : (100 : Int) < (lx.length : Int) := by omega
      simp -implicitDefEqProofs [hlt, hlt', hix, hp, Lx, g1, g1']
      exact hq false (by simp)
    · have g1' : ¬ (100 : Int) < (lx.length : Int) := by omega
      by_cases g2 : 100 < ly.length
      · have g2' : (100 : Int) < (ly.length : Int) := by omega
        simp -implicitDefEqProofs [hlt, hlt', hix, hp, Lx, Ly, g1, g1', g2, g2']
        exact hq false (by simp)
      · have g2' : ¬ (100 : Int) < (ly.length : Int) := by omega
        simp -implicitDefEqProofs [hlt, hlt', hix, hp, Lx, Ly, g1, g1', g2, g2', w1]
        refine .mk (m := m2 - 1) (by omega) ?_
        rw [hI]
        refine ⟨rfl, i + 1, by omega, fun l hm => ?_, rfl⟩
        rw [show 2 * (i + 1) = 2 * i + 1 + 1 by omega, List.take_add_one, List.take_add_one, List.getElem?_eq_getElem (by omega), List.getElem?_eq_getElem (by omega)] at hm
        simp only [Option.toList_some, List.mem_append, List.mem_singleton] at hm
        rcases hm with (hm | hm) | hm
        · exact hfi l hm
        · have : lx = l := by rw [hm, hlx, List.getD_eq_getElem?_getD, List.getElem?_eq_getElem (by omega)]; rfl
          rw [← this]; omega
        · have : ly = l := by rw [hm, hly, List.getD_eq_getElem?_getD, List.getElem?_eq_getElem (by omega)]; rfl
          rw [← this]; omega
  · have hlt' : ¬ (i : Int) < 8 := by omega
    have hi8 : i = 8 := by omega
    rw [hi8, List.take_of_length_le (by omega)] at hfi
    have hL : lenR (cfgR ro) h' 43 sv = .ok (.int .i64 (s.sent.length : Nat)) := by have := m.sent.lenR (t := 43) un43; simpa [m.svl] using this
    simp -implicitDefEqProofs [hlt, hlt', hL]
    obtain ⟨J, hJ⟩ : ∃ J : Nat → List AVal → AHeap → Prop, J = fun m env h3 => h3 = h' ∧ ∃ i : Nat, i + m = s.sent.length ∧ (∀ t ∈ s.sent.take i, t.length ≤ 500) ∧ env = (.dead :: .cell (.int .u16 s.r :: .int .u64 s.clock :: .int .u32 s.n :: .int .u32 s.next :: sv :: ls) :: .dead :: .dead :: .dead :: .dead :: .dead :: .dead :: .dead :: .dead :: .dead :: .dead :: .dead :: .dead :: .dead :: .dead :: .dead :: .dead :: .dead :: .dead :: .dead :: .dead :: .dead :: .dead :: sv :: .int .i64 (s.sent.length : Nat) :: .int .i64 (i : Nat) :: .dead :: .dead :: .dead :: .dead :: .dead :: .dead :: .dead :: .dead :: .dead :: .dead :: .dead :: []) := ⟨_, rfl⟩
    refine loop_of J ?_ s.sent.length (by rw [hJ]; exact ⟨rfl, 0, by omega, by simp, rfl⟩)
    intro m3 env h5 hj
    rw [hJ] at hj
    obtain ⟨rfl, k, hkm, hfk, rfl⟩ := hj
    by_cases hk : k < s.sent.length
    · have hk' : (k : Int) < (s.sent.length : Int) := by omega
      have w6 : IntKind.i64.wrap ((k : Int) + 1) = ((k + 1 : Nat) : Int) := by rw [w64 (by omega) (by omega)]; omega
      have hX : indexAddrR Try.prog 43 sv (.int .i64 (k : Int)) = .ok (elp sv 1 k) := m.sent.idx un43 sz24 (by simp [m.svl, hk])
      have hA : loadR (cfgR ro) h5 24 (elp sv 1 k) = .ok (svs.getD k .dead) := m.sent.load1 (e := [svs.getD k .dead]) (by rw [List.getElem?_map, List.getElem?_eq_getElem (by rw [m.svl]; exact hk)]; simp [List.getD_eq_getElem?_getD, m.svl, hk]) rfl ag24
      have hb1 := m.one k hk
      obtain ⟨b, hbb⟩ : ∃ b, b = s.sent.getD k [] := ⟨_, rfl⟩
      obtain ⟨bv, hbv⟩ : ∃ bv, bv = svs.getD k .dead := ⟨_, rfl⟩
      rw [← hbv] at hA hb1
      rw [← hbb] at hb1
      have Lb : lenR (cfgR ro) h5 24 bv = .ok (.int .i64 b.length) := hb1.lenR un24
      by_cases g1 : 500 < b.length
      · have g1' : (500 : Int) < (b.length : Int) := by omega
        simp -implicitDefEqProofs [hk, hk', hX, hA, Lb, g1, g1']
        exact hq false (by simp)
      · have g1' : ¬ (500 : Int) < (b.length : Int) := by omega
        simp -implicitDefEqProofs [hk, hk', hX, hA, Lb, g1, g1', w6]
        refine .mk (m := m3 - 1) (by omega) ?_
        rw [hJ]
        refine ⟨rfl, k + 1, by omega, fun t hm => ?_, rfl⟩
        rw [List.take_add_one, List.getElem?_eq_getElem hk] at hm
        simp only [Option.toList_some, List.mem_append, List.mem_singleton] at hm
        rcases hm with hm | hm
        · exact hfk t hm
        · have : b = t := by rw [hm, hbb, List.getD_eq_getElem?_getD, List.getElem?_eq_getElem hk]; rfl
          rw [← this]; omega
    · have hk' : ¬ (k : Int) < (s.sent.length : Int) := by omega
      have hkl : k = s.sent.length := by omega
      rw [hkl, List.take_length] at hfk
      simp -implicitDefEqProofs [hk, hk', hL]
      refine hq _ (fun hb => ⟨hfi, hfk, ?_⟩)
      simp at hb
      omega
end
end Go.Proofs.Ytomhcjiefmaopaa
set_option linter.all false
set_option maxRecDepth 100000
set_option maxHeartbeats 4000000
namespace Go.Proofs.Ytomhcjiefmaopaa
open Go Go.RowKit Go.Proofs
/-! an archive's bytes, read -/
/-- reading on, if there was no error -/
def st (cs : List UInt8) (s : Nat × Nat) (lim : Nat) : Nat × Nat × Nat := if s.2 = 0 then rdNum cs s.1 lim else (0, s.1, s.2)
theorem st_lt {cs : List UInt8} {s : Nat × Nat} {lim : Nat} (hs : s.1 ≤ cs.length) : (st cs s lim).2.1 ≤ cs.length ∧ (st cs s lim).1 ≤ lim := by
  unfold st
  split
  · have h := rdGo_lt (show rdGo cs s.1 lim 9 0 0 = ((rdNum cs s.1 lim).1, (rdNum cs s.1 lim).2.1, (rdNum cs s.1 lim).2.2) from rfl)
    by_cases hx : (rdNum cs s.1 lim).2.2 = 0
    · have := h.1 hx; omega
    · have := h.2.1 hx; omega
  · exact ⟨hs, Nat.zero_le _⟩
def gMany {α : Type} (f : Nat → α × Nat × Nat) : Nat → Nat → List α × Nat × Nat
  | 0, a => ([], a, 0)
  | k + 1, a => if (f a).2.2 ≠ 0 then ([], (f a).2.1, (f a).2.2) else ((f a).1 :: (gMany f k (f a).2.1).1, (gMany f k (f a).2.1).2)
def gNum (c : List UInt8) (a : Nat) : Nat × Nat × Nat := rdNum c a 268435456
def gList (c : List UInt8) (a : Nat) : List Nat × Nat × Nat := if (rdNum c a 64).2.2 ≠ 0 then ([], (rdNum c a 64).2) else gMany (gNum c) (rdNum c a 64).1 (rdNum c a 64).2.1
def gText (c : List UInt8) (a : Nat) : List UInt8 × Nat × Nat :=
  if (rdNum c a 1048576).2.2 ≠ 0 then ([], a, (rdNum c a 1048576).2.2) else
  if c.length - (rdNum c a 1048576).2.1 < (rdNum c a 1048576).1 then ([], a, 14) else ((c.drop (rdNum c a 1048576).2.1).take (rdNum c a 1048576).1, (rdNum c a 1048576).2.1 + (rdNum c a 1048576).1, 0)
def gSent (c : List UInt8) (a : Nat) : List (List UInt8) × Nat × Nat := if (rdNum c a 65536).2.2 ≠ 0 then ([], (rdNum c a 65536).2) else gMany (gText c) (rdNum c a 65536).1 (rdNum c a 65536).2.1
def onS {α : Type} (f : Nat → α × Nat × Nat) (z : α) (s : Nat × Nat) : α × Nat × Nat := if s.2 = 0 then f s.1 else (z, s)
def stMany {α : Type} (f : Nat × Nat → α × Nat × Nat) : Nat → Nat × Nat → List α × Nat × Nat
  | 0, s => ([], s)
  | k + 1, s => ((f s).1 :: (stMany f k (f s).2).1, (stMany f k (f s).2).2)
theorem rdNum_le {c : List UInt8} {a lim : Nat} (ha : a ≤ c.length) : (rdNum c a lim).2.1 ≤ c.length ∧ (rdNum c a lim).1 ≤ lim := by
  have h := rdGo_lt (show rdGo c a lim 9 0 0 = ((rdNum c a lim).1, (rdNum c a lim).2.1, (rdNum c a lim).2.2) from rfl)
  by_cases hx : (rdNum c a lim).2.2 = 0
  · have := h.1 hx; omega
  · have := h.2.1 hx; omega
theorem gMany_le {α : Type} {f : Nat → α × Nat × Nat} {c : List UInt8} (hf : ∀ a, a ≤ c.length → (f a).2.1 ≤ c.length) : ∀ k a, a ≤ c.length → (gMany f k a).2.1 ≤ c.length ∧ (gMany f k a).1.length ≤ k
  | 0, a, ha => ⟨ha, Nat.le_refl _⟩
  | k + 1, a, ha => by
    unfold gMany
    split
    · exact ⟨hf a ha, Nat.zero_le _⟩
    · have := gMany_le hf k (f a).2.1 (hf a ha)
      exact ⟨this.1, by simp only [List.length_cons]; omega⟩
theorem gMany_step {α : Type} {f : Nat → α × Nat × Nat} {k a : Nat} : gMany f (k + 1) a = if (f a).2.2 ≠ 0 then ([], (f a).2.1, (f a).2.2) else ((f a).1 :: (gMany f k (f a).2.1).1, (gMany f k (f a).2.1).2) := rfl
theorem gList_le {c : List UInt8} {a : Nat} (ha : a ≤ c.length) : (gList c a).2.1 ≤ c.length ∧ (gList c a).1.length ≤ 64 := by
  unfold gList
  have h := rdNum_le (lim := 64) ha
  split
  · exact ⟨h.1, by simp⟩
  · have := gMany_le (f := gNum c) (fun a ha => (rdNum_le ha).1) (rdNum c a 64).1 (rdNum c a 64).2.1 h.1
    omega
theorem gText_le {c : List UInt8} {a : Nat} (ha : a ≤ c.length) : (gText c a).2.1 ≤ c.length ∧ (gText c a).1.length ≤ 1048576 := by
  unfold gText
  have h := rdNum_le (lim := 1048576) ha
  split
  · exact ⟨ha, by simp⟩
  · split
    · exact ⟨ha, by simp⟩
    · refine ⟨by simp only; omega, ?_⟩
      simp only [List.length_take, List.length_drop]; omega
theorem gSent_le {c : List UInt8} {a : Nat} (ha : a ≤ c.length) : (gSent c a).2.1 ≤ c.length ∧ (gSent c a).1.length ≤ 65536 := by
  unfold gSent
  have h := rdNum_le (lim := 65536) ha
  split
  · exact ⟨h.1, by simp⟩
  · have := gMany_le (f := gText c) (fun a ha => (gText_le ha).1) (rdNum c a 65536).1 (rdNum c a 65536).2.1 h.1
    omega
/-- what reading leaves -/
def Rso (r : Nat) (h h' : AHeap) : Prop := h.next ≤ h'.next ∧ ∀ o, o < h.next → o ≠ r → h'.get o = h.get o
theorem Rso.refl {r : Nat} {h : AHeap} : Rso r h h := ⟨Nat.le_refl _, fun _ _ _ => rfl⟩
theorem Rso.trans {r : Nat} {a b c : AHeap} (h : Rso r a b) (k : Rso r b c) : Rso r a c := ⟨Nat.le_trans h.1 k.1, fun o h1 h2 => (k.2 o (Nat.lt_of_lt_of_le h1 h.1) h2).trans (h.2 o h1 h2)⟩
theorem Rst.so {r : Nat} {h h' : AHeap} (k : Rst r h h') : Rso r h h' := ⟨Nat.le_of_eq k.1.symm, fun o _ ho => k.2 o ho⟩
theorem Old.so {r : Nat} {h h' : AHeap} (k : Old h h') : Rso r h h' := ⟨k.1, fun o ho _ => k.2 o ho⟩
theorem Rso.rd {r : Nat} {h h' : AHeap} {b : List UInt8} {a : Nat} {e : Int} (k : Old h h') (hr : RdAt h r b a e) : RdAt h' r b a e := ⟨by rw [k.2 r hr.2]; exact hr.1, Nat.lt_of_lt_of_le hr.2 k.1⟩
theorem Mine.keepR {h0 h h' : AHeap} {sz r : Nat} {es : List (List AVal)} {v : AVal} (m : Mine h0 h sz es v) (k : Rso r h h') (hr : r < h0.next) : Mine h0 h' sz es v := by
  obtain ⟨hs, ⟨rfl, rfl⟩ | ⟨q, fz, rfl, h1, h2, h3⟩⟩ := m
  · exact Mine.nil _ _ _
  · exact ⟨hs, .inr ⟨q, fz, rfl, h1, Nat.lt_of_lt_of_le h2 k.1, by rw [k.2 q h2 (by omega)]; exact h3⟩⟩
section
variable {ro : Nat → Option (List AVal)}
theorem num37s {h : AHeap} {r : Nat} {cs : List UInt8} {s : Nat × Nat} {limit : Nat} (hr : RdAt h r cs s.1 s.2) (hl : cs.length ≤ 2 ^ 40) (ha : s.1 ≤ cs.length) (hlim : limit < 2 ^ 63) {Q : AVal → AHeap → Prop}
    (hq : ∀ h', RdAt h' r cs (st cs s limit).2.1 (st cs s limit).2.2 → Rst r h h' → Q (.int .u64 (st cs s limit).1) h') : Ev (cfgR ro) 37 [.ptr r 0, .int .u64 limit] h Q := by
  by_cases hx : s.2 = 0
  · unfold st at hq
    simp only [if_pos hx] at hq
    refine num37 hr hl ha hlim (fun _ v p x h' e1 e2 e3 => ?_) (fun h => absurd (by omega) h)
    rw [e1] at hq
    exact hq h' e2 e3
  · unfold st at hq
    simp only [if_neg hx] at hq
    exact num37 hr hl ha hlim (fun h => absurd (by omega) hx) (fun _ => hq h hr Rst.refl)
theorem list50 {h : AHeap} {r : Nat} {c : List UInt8} {s : Nat × Nat} (hr : RdAt h r c s.1 s.2) (hl : c.length ≤ 2 ^ 40) (ha : s.1 ≤ c.length) {Q : AVal → AHeap → Prop}
    (hq : ∀ v' h', RdAt h' r c (onS (gList c) [] s).2.1 (onS (gList c) [] s).2.2 → Rso r h h' → Mine h h' 1 (u32s (if (onS (gList c) [] s).2.2 = 0 then (onS (gList c) [] s).1 else [])) v' → Q v' h') : Ev (cfgR ro) 50 [.ptr r 0] h Q := by
  refine Ev.wp rfl rfl Try.func50 rfl ?_
  simp -implicitDefEqProofs [Try.f50]
  refine num37s (limit := 64) hr hl ha (by omega) (fun h1 r1 s1 => ?_)
  have hlt := st_lt (lim := 64) ha
  obtain ⟨S, hS⟩ : ∃ S, S = st c s 64 := ⟨_, rfl⟩
  rw [← hS] at r1 hlt ⊢
  -- what is left to be read
  obtain ⟨G, hG⟩ : ∃ G : List Nat × Nat × Nat, G = onS (gList c) [] s := ⟨_, rfl⟩
  rw [← hG] at hq
  have hGS : G = if S.2.2 = 0 then gMany (gNum c) S.1 S.2.1 else ([], S.2) := by
    rw [hG, hS]
    unfold onS st gList
    by_cases h0 : s.2 = 0
    · rw [if_pos h0, if_pos h0]
      by_cases h1 : (rdNum c s.1 64).2.2 = 0
      · rw [if_neg (by simpa using h1), if_pos h1]
      · rw [if_pos h1, if_neg h1]
    · rw [if_neg h0, if_neg h0, if_neg h0]
  have hS0 : S.2.2 ≠ 0 → S.1 = 0 := fun hx => by
    rw [hS] at hx ⊢
    unfold st at hx ⊢
    split
    · rename_i h0
      rw [if_pos h0] at hx
      exact ((rdGo_lt (show rdGo c s.1 64 9 0 0 = ((rdNum c s.1 64).1, (rdNum c s.1 64).2.1, (rdNum c s.1 64).2.2) from rfl)).2.1 hx).2
    · rfl
  simp -implicitDefEqProofs
  obtain ⟨I, hI⟩ : ∃ I : Nat → List AVal → AHeap → Prop, I = fun m env h' => ∃ (i a : Nat) (l : List Nat) (v : AVal), i + m = S.1 ∧ l.length = i ∧ RdAt h' r c a S.2.2 ∧ a ≤ c.length ∧ Rso r h h' ∧ Mine h h' 1 (u32s l) v ∧ (S.2.2 = 0 → G = (l ++ (gMany (gNum c) m a).1, (gMany (gNum c) m a).2)) ∧ (S.2.2 ≠ 0 → l = [] ∧ a = S.2.1) ∧ env = (.ptr r 0 :: .dead :: .dead :: v :: .dead :: .int .u64 (S.1 : Nat) :: .int .u64 (i : Nat) :: .dead :: .dead :: .dead :: .dead :: .dead :: .dead :: .dead :: .dead :: .dead :: .dead :: .dead :: .dead :: []) := ⟨_, rfl⟩
  refine loop_of I ?_ S.1 (by rw [hI]; exact ⟨0, S.2.1, [], .nils, by omega, rfl, r1, hlt.1, s1.so, Mine.nil _ _ _, fun h0 => by rw [hGS, if_pos h0]; rfl, fun _ => ⟨rfl, rfl⟩, rfl⟩)
  intro m env h' hi
  rw [hI] at hi
  obtain ⟨i, a, l, v, him, hli, hra, hac, hso, hm, hg0, hg1, rfl⟩ := hi
  by_cases hlt2 : i < S.1
  · have hlt' : (i : Int) < (S.1 : Int) := by omega
    have hx0 : S.2.2 = 0 := by
      rcases Nat.eq_zero_or_pos S.2.2 with h | h
      · exact h
      · have := hS0 (by omega); omega
    simp -implicitDefEqProofs [hlt2, hlt', hx0]
    rw [hx0] at hra
    refine num37 (limit := 268435456) hra hl hac (by omega) (fun _ v2 p x h2 e1 e2 e3 => ?_) (fun h => absurd rfl h)
    have hle := rdNum_le (c := c) (a := a) (lim := 268435456) hac
    rw [e1] at hle
    simp only at hle
    have w1 : IntKind.u32.wrap (v2 : Int) = (v2 : Int) := by rw [wrap32]; omega
    have w2 : IntKind.u64.wrap ((i : Int) + 1) = ((i + 1 : Nat) : Int) := by rw [wrap64]; omega
    obtain ⟨v3, h3, f3, m3, n3, k3⟩ := ((hm.keepR e3.so hr.2).keep ((Old.refl h2).push (.row 1 false [.int .u32 v2]))).append1G (bytes := 4) (e := [.int .u32 v2]) (by omega) rfl (by rw [u32s_len]; omega) (by have := hso.1; have := e3.1; simp; omega)
    have hr3 : RdAt h3 r c p x := by
      refine ⟨?_, ?_⟩
      · rw [k3 r hr.2, AHeap.get_push, if_neg (by have := e2.2; omega)]; exact e2.1
      · have := e2.2; simp at n3; omega
    have hso3 : Rso r h h3 := by
      refine ⟨by have := hso.1; have := e3.1; simp at n3; omega, fun o ho hne => ?_⟩
      have := hso.1
      have := e3.1
      rw [k3 o ho, AHeap.get_push, if_neg (by omega), e3.2 o hne, hso.2 o ho hne]
    have vc : cellsV v3 = .ok [v3] := (m3.sl (c := cfgR ro)).one
    simp -implicitDefEqProofs [w1, buildSliceR, reps, f3, vc]
    refine err38 hr3 ?_
    obtain ⟨m', rfl⟩ : ∃ m', m = m' + 1 := ⟨m - 1, by omega⟩
    have hgn : gNum c a = (v2, p, x) := e1
    by_cases hx : x = 0
    · subst hx
      simp -implicitDefEqProofs [w2]
      refine .mk (m := m') (by omega) ?_
      rw [hI]
      refine ⟨i + 1, p, l ++ [v2], v3, by omega, by simp [hli], by rw [hx0]; exact hr3, hle.1, hso3, by simpa [u32s] using m3, fun h0 => ?_, fun h0 => absurd hx0 h0, rfl⟩
      rw [hg0 h0, gMany_step, hgn]
      simp
    · have hx' : ¬ (x : Int) = 0 := by omega
      simp -implicitDefEqProofs [hx, hx']
      have hGe : G = (l, p, x) := by rw [hg0 hx0, gMany_step, hgn]; simp [hx]
      rw [hGe] at hq
      simp only [if_neg hx] at hq
      exact hq _ _ hr3 hso3 (Mine.nil _ _ _)
  · have hlt' : ¬ (i : Int) < (S.1 : Int) := by omega
    have hm0 : m = 0 := by omega
    have hvc : cellsV v = .ok [v] := (hm.sl (c := cfgR ro)).one
    simp -implicitDefEqProofs [hlt2, hlt', hvc]
    subst hm0
    by_cases hx0 : S.2.2 = 0
    · have hGe : G = (l, a, 0) := by rw [hg0 hx0]; simp [gMany]
      rw [hGe] at hq
      simp only [if_true] at hq
      rw [hx0] at hra
      exact hq v h' hra hso hm
    · obtain ⟨rfl, rfl⟩ := hg1 hx0
      have hGe : G = ([], S.2) := by rw [hGS, if_neg hx0]
      rw [hGe] at hq
      simp only [if_neg hx0] at hq
      exact hq v h' hra hso hm
end
end Go.Proofs.Ytomhcjiefmaopaa
set_option linter.all false
set_option maxRecDepth 100000
set_option maxHeartbeats 4000000
namespace Go.Proofs.Ytomhcjiefmaopaa
open Go Go.RowKit Go.Proofs
def vobj : AVal → Nat → Prop
  | .sl o _ _, q => q = o
  | _, _ => False
/-- an append touches nothing but its own row -/
theorem app_frame {sz b n : Nat} {h h' : AHeap} {v v' : AVal} {new : List AVal} (e : appCore sz b h v n new = .ok (v', h')) (hv : notSlc v) : h.next ≤ h'.next ∧ (∀ o, o < h.next → ¬ vobj v o → h'.get o = h.get o) ∧ ∀ o, vobj v' o → vobj v o ∨ h.next ≤ o := by
  unfold appCore at e
  cases v <;> simp only at e <;> try (cases e; done)
  · split at e
    · cases e; exact ⟨Nat.le_refl _, fun _ _ _ => rfl, fun o ho => ho.elim⟩
    · split at e
      · cases e
      · cases e
        refine ⟨by simp, fun o ho _ => by rw [AHeap.get_push, if_neg (by omega)], fun o ho => ?_⟩
        have : o = h.next := ho
        exact .inr (by omega)
  · rename_i q off len
    split at e
    · rename_i esz fz vs hg
      split at e
      · split at e
        · cases hov : overR vs (off + len * sz) new with
          | err m => rw [hov] at e; cases e
          | ok ws =>
            rw [hov] at e
            cases e
            refine ⟨Nat.le_refl _, fun o ho hn => get_set_ne (fun e2 => hn e2.symm), fun o ho => .inl ho⟩
        · split at e
          · cases e
          · cases htk : takeR vs off (len * sz) with
            | err m => rw [htk] at e; cases e
            | ok ws =>
              rw [htk] at e
              cases e
              refine ⟨by simp, fun o ho hn => ?_, fun o ho => ?_⟩
              · rw [AHeap.get_push, if_neg (by simp; omega), AHeap.get_del, if_neg (fun e2 : o = q => hn e2)]
              · have : o = (h.del q).next := ho
                simp at this
                exact .inr (by omega)
      · cases e
    · cases e
  · exact ((hv _ _ _ _).1 rfl).elim
  · split at e
    · cases e; exact ⟨Nat.le_refl _, fun _ _ _ => rfl, fun o ho => .inl ho⟩
    · cases e
theorem Mine.keepO {h0 h h' : AHeap} {sz : Nat} {es : List (List AVal)} {v : AVal} (m : Mine h0 h sz es v) (k : ∀ o, vobj v o → h'.get o = h.get o) (hn : h.next ≤ h'.next) : Mine h0 h' sz es v := by
  obtain ⟨m1, m2⟩ := m
  refine ⟨m1, m2.imp_right ?_⟩
  rintro ⟨q, fz, rfl, g1, g2, g3⟩
  exact ⟨q, fz, rfl, g1, Nat.lt_of_lt_of_le g2 hn, by rw [k q rfl]; exact g3⟩
theorem Mine.obj {h0 h : AHeap} {sz : Nat} {es : List (List AVal)} {v : AVal} (m : Mine h0 h sz es v) : ∀ o, vobj v o → h0.next ≤ o ∧ o < h.next := by
  obtain ⟨_, ⟨_, rfl⟩ | ⟨q, fz, rfl, g1, g2, _⟩⟩ := m
  · exact fun o ho => ho.elim
  · intro o ho
    have : o = q := ho
    subst this; exact ⟨g1, g2⟩
theorem st_on (c : List UInt8) (s : Nat × Nat) (lim : Nat) : st c s lim = onS (fun a => rdNum c a lim) 0 s := by
  unfold st onS; rfl
theorem on_le {α : Type} {f : Nat → α × Nat × Nat} {z : α} {c : List UInt8} (hf : ∀ a, a ≤ c.length → (f a).2.1 ≤ c.length) {s : Nat × Nat} (hs : s.1 ≤ c.length) : (onS f z s).2.1 ≤ c.length := by
  unfold onS
  split
  · exact hf _ hs
  · exact hs
theorem on_err {α : Type} {f : Nat → α × Nat × Nat} {z : α} {s : Nat × Nat} (h : (onS f z s).2.2 = 0) : s.2 = 0 := by
  unfold onS at h
  split at h
  · rename_i h0; exact h0
  · exact h
theorem stMany_snoc {α : Type} {f : Nat × Nat → α × Nat × Nat} : ∀ (k : Nat) (s : Nat × Nat), stMany f (k + 1) s = ((stMany f k s).1 ++ [(f (stMany f k s).2).1], (f (stMany f k s).2).2)
  | 0, s => rfl
  | k + 1, s => by
    have := stMany_snoc (f := f) k (f s).2
    rw [stMany, this]
    rfl
theorem stMany_len {α : Type} {f : Nat × Nat → α × Nat × Nat} : ∀ (k : Nat) (s : Nat × Nat), (stMany f k s).1.length = k
  | 0, s => rfl
  | k + 1, s => by simp [stMany, stMany_len k]
section
variable {ro : Nat → Option (List AVal)}
theorem text51 {h : AHeap} {r : Nat} {c : List UInt8} {s : Nat × Nat} (hr : RdAt h r c s.1 s.2) (hl : c.length ≤ 2 ^ 40) (ha : s.1 ≤ c.length) {Q : AVal → AHeap → Prop}
    (hq : ∀ h', RdAt h' r c (onS (gText c) [] s).2.1 (onS (gText c) [] s).2.2 → Rst r h h' → Q (.str (onS (gText c) [] s).1) h') : Ev (cfgR ro) 51 [.ptr r 0, .int .i64 1048576] h Q := by
  refine Ev.wp rfl rfl Try.func51 rfl ?_
  have w0 : IntKind.u64.wrap 1048576 = 1048576 := by decide
  have hr1 := hr.1
  have hmx : foldR max2R (.int .i64 1048576) [.int .i64 0] = .ok (.int .i64 1048576) := by rfl
  simp -implicitDefEqProofs [Try.f51, hr1, w0, hmx]
  refine num37s (limit := 1048576) hr hl ha (by omega) (fun h1 r1 s1 => ?_)
  have hlt := st_lt (lim := 1048576) ha
  obtain ⟨S, hS⟩ : ∃ S, S = st c s 1048576 := ⟨_, rfl⟩
  obtain ⟨G, hG⟩ : ∃ G : List UInt8 × Nat × Nat, G = onS (gText c) [] s := ⟨_, rfl⟩
  rw [← hS] at r1 hlt ⊢
  rw [← hG] at hq
  have hGS : G = if S.2.2 ≠ 0 then ([], s.1, S.2.2) else if c.length - S.2.1 < S.1 then ([], s.1, 14) else ((c.drop S.2.1).take S.1, S.2.1 + S.1, 0) := by
    rw [hG, hS]
    unfold onS st gText
    by_cases h0 : s.2 = 0
    · rw [if_pos h0, if_pos h0]
    · rw [if_neg h0, if_neg h0]
      simp only [if_pos h0]
  have hp : S.2.2 ≠ 0 → S.2.1 = s.1 := fun hx => by
    rw [hS] at hx ⊢
    unfold st at hx ⊢
    split
    · rename_i h0
      rw [if_pos h0] at hx
      exact ((rdGo_lt (show rdGo c s.1 1048576 9 0 0 = ((rdNum c s.1 1048576).1, (rdNum c s.1 1048576).2.1, (rdNum c s.1 1048576).2.2) from rfl)).2.1 hx).1
    · rfl
  obtain ⟨n, p, x⟩ := S
  simp only at *
  have w1 : IntKind.i64.wrap (n : Int) = (n : Int) := w64 (by omega) (by omega)
  have hr2 := r1.1
  by_cases hx : x = 0
  · subst hx
    simp -implicitDefEqProofs [w1, hr2]
    refine left68 r1 hl hlt.1 ?_
    obtain ⟨q, hqq⟩ : ∃ q, q = c.length - p := ⟨_, rfl⟩
    rw [← hqq] at hGS ⊢
    by_cases hn : q < n
    · have hn' : (q : Int) < (n : Int) := by omega
      simp -implicitDefEqProofs [hn, hn', hr2]
      have hGe : G = ([], s.1, 14) := by rw [hGS]; simp [hn]
      rw [hGe] at hq
      refine fail69 (a := s.1) (e := 0) (x := 14) (RdAt.mk r1.2) (fun h3 r3 s3 => ?_)
      simp -implicitDefEqProofs
      exact hq h3 (by simpa using r3) (s1.trans (Rst.set.trans s3))
    · have hn' : ¬ (q : Int) < (n : Int) := by omega
      have w2 : IntKind.i64.wrap ((p : Int) + (n : Int)) = ((p + n : Nat) : Int) := by rw [w64 (by omega) (by omega)]; omega
      obtain ⟨pn, hpn⟩ : ∃ pn, pn = p + n := ⟨_, rfl⟩
      rw [← hpn] at w2 hGS
      have w3 : IntKind.i64.wrap ((pn : Int) - (n : Int)) = (p : Int) := by rw [w64 (by omega) (by omega)]; omega
      have hGe : G = ((c.drop p).take n, pn, 0) := by rw [hGS]; simp [hn]
      rw [hGe] at hq
      simp -implicitDefEqProofs [hn, hn', hr2, w2, w3]
      have hbd : bounds2 c.length c.length (some (.int .i64 (p : Int))) (some (.int .i64 (pn : Int))) = .ok (p, pn) := by
        unfold bounds2
        simp only [bd_nat (show pn ≤ c.length by omega), Res.ok_bind, bd_nat (show p ≤ pn by omega)]
      have hsl : List.drop p (List.take pn c) = (c.drop p).take n := by rw [List.drop_take, show pn - p = n by omega]
      simp -implicitDefEqProofs [hbd, hsl]
      exact hq _ (RdAt.mk r1.2) (s1.trans Rst.set)
  · have hx' : ¬ (x : Int) = 0 := by omega
    simp -implicitDefEqProofs [w1, hr2, hx, hx']
    have hGe : G = ([], s.1, x) := by rw [hGS]; simp [hx]
    rw [hGe] at hq
    rw [hp hx] at r1
    exact hq h1 r1 s1
theorem head49 {h : AHeap} {r : Nat} {c : List UInt8} (hr : RdAt h r c 0 0) (hl : c.length ≤ 2 ^ 40) {Q : AVal → AHeap → Prop}
    (hq : ∀ h', Rst r h h' → (c.take 4 = [67, 80, 65, 1] → RdAt h' r c 4 0) → Q (.bool (decide (c.take 4 = [67, 80, 65, 1]))) h') : Ev (cfgR ro) 49 [.ptr r 0] h Q := by
  refine Ev.wp rfl rfl Try.func49 rfl ?_
  simp -implicitDefEqProofs [Try.f49]
  obtain ⟨I, hI⟩ : ∃ I : Nat → List AVal → AHeap → Prop, I = fun m env h' => ∃ i : Nat, i + m = 4 ∧ RdAt h' r c i 0 ∧ i ≤ c.length ∧ Rst r h h' ∧ c.take i = ([67, 80, 65, 1] : List UInt8).take i ∧ env = (.ptr r 0 :: .dead :: .dead :: .dead :: .int .i64 (i : Nat) :: .dead :: .dead :: .dead :: .dead :: .dead :: .dead :: .dead :: .dead :: []) := ⟨_, rfl⟩
  refine loop_of I ?_ 4 (by rw [hI]; exact ⟨0, by omega, hr, Nat.zero_le _, Rst.refl, rfl, rfl⟩)
  intro m env h' hi
  rw [hI] at hi
  obtain ⟨i, him, hri, hic, hsi, hti, rfl⟩ := hi
  by_cases hlt : i < 4
  · have hlt' : (i : Int) < 4 := by omega
    have w1 : IntKind.i64.wrap ((i : Int) + 1) = ((i + 1 : Nat) : Int) := by rw [w64 (by omega) (by omega)]; omega
    simp -implicitDefEqProofs [hlt, hlt']
    refine byte36 hri hl hic (fun _ hlc h2 r2 s2 => ?_) (fun _ hlc h2 r2 s2 => ?_) (fun h => absurd rfl h)
    · have hix : idxNat (.int .i64 (i : Int)) 4 = .ok i := ix_nat hlt
      obtain ⟨b, hb⟩ : ∃ b, ([67, 80, 65, 1] : List UInt8)[i]? = some b := ⟨_, List.getElem?_eq_getElem (by simpa using hlt)⟩
      have hsnoc : ([67, 80, 65, 1] : List UInt8).take (i + 1) = ([67, 80, 65, 1] : List UInt8).take i ++ [b] := by rw [List.take_add_one, hb]; rfl
      have hcs : c.take (i + 1) = c.take i ++ [c[i]] := by rw [List.take_add_one, List.getElem?_eq_getElem hlc]; rfl
      simp -implicitDefEqProofs [hix, hb]
      refine orD (fun he => ?_) (fun he => ?_)
      · have he' : c[i] = b := by
          apply UInt8.toNat_inj.1
          exact Int.ofNat.inj he
        simp -implicitDefEqProofs [w1]
        refine .mk (m := m - 1) (by omega) ?_
        rw [hI]
        exact ⟨i + 1, by omega, r2, by omega, hsi.trans s2, by rw [hcs, hsnoc, hti, he'], rfl⟩
      · simp -implicitDefEqProofs
        have hne : ¬ c.take 4 = [67, 80, 65, 1] := fun h4 => by
          have h5 : (c.take 4)[i]? = some b := by rw [h4]; exact hb
          rw [List.getElem?_take, if_pos hlt, List.getElem?_eq_getElem hlc] at h5
          exact he (by rw [Option.some.inj h5])
        have hq' := hq h2 (hsi.trans s2) (fun h => absurd h hne)
        rw [decide_eq_false hne] at hq'
        exact hq'
    · have hix : idxNat (.int .i64 (i : Int)) 4 = .ok i := ix_nat hlt
      obtain ⟨b, hb⟩ : ∃ b, ([67, 80, 65, 1] : List UInt8)[i]? = some b := ⟨_, List.getElem?_eq_getElem (by simpa using hlt)⟩
      have hb0 : b ≠ 0 := by
        rcases (show i = 0 ∨ i = 1 ∨ i = 2 ∨ i = 3 by omega) with rfl | rfl | rfl | rfl <;> (cases hb; decide)
      have hb1 : ¬ (0 : Int) = (b.toNat : Int) := fun h => hb0 (UInt8.toNat_inj.1 (by show b.toNat = 0; omega))
      have hb2 : ¬ 0 = b.toNat := fun h => hb1 (by omega)
      simp -implicitDefEqProofs [hix, hb, hb1, hb2]
      have hne : ¬ c.take 4 = [67, 80, 65, 1] := fun h4 => by
        have := congrArg List.length h4
        rw [List.length_take] at this
        simp at this
        omega
      have hq' := hq h2 (hsi.trans s2) (fun h => absurd h hne)
      rw [decide_eq_false hne] at hq'
      exact hq'
  · have hlt' : ¬ (i : Int) < 4 := by omega
    have hi4 : i = 4 := by omega
    rw [hi4] at hti hri
    simp -implicitDefEqProofs [hlt, hlt']
    have hq' := hq h' hsi (fun _ => hri)
    rw [decide_eq_true (by simpa using hti)] at hq'
    exact hq'
end
end Go.Proofs.Ytomhcjiefmaopaa
set_option linter.all false
set_option maxRecDepth 100000
set_option maxHeartbeats 4000000
namespace Go.Proofs.Ytomhcjiefmaopaa
open Go Go.RowKit Go.Proofs
def rd1 (c : List UInt8) : Nat × Nat × Nat := st c (4, 0) 65535
def rd2 (c : List UInt8) : Nat × Nat × Nat := st c (rd1 c).2 1099511627776
def rd3 (c : List UInt8) : Nat × Nat × Nat := st c (rd2 c).2 268435456
def rd4 (c : List UInt8) : Nat × Nat × Nat := st c (rd3 c).2 268435457
def rdL (c : List UInt8) : List (List Nat) × Nat × Nat := stMany (onS (gList c) []) 16 (rd4 c).2
def rdT (c : List UInt8) : List (List UInt8) × Nat × Nat := onS (gSent c) [] (rdL c).2
def decE (c : List UInt8) : Nat := if (rdT c).2.2 = 0 ∧ (rdT c).2.1 < c.length then 15 else (rdT c).2.2
def decV (c : List UInt8) : Sta := ⟨(rd1 c).1, (rd2 c).1, (rd3 c).1, (rd4 c).1, (rdT c).1, (rdL c).1⟩
def errA (bs : List UInt8) : Nat := match openS bs with
  | none => 31
  | some c => if c.take 4 = [67, 80, 65, 1] then decE c else 30
def zeroA : List AVal := .int .u16 0 :: .int .u64 0 :: .int .u32 0 :: .int .u32 0 :: List.replicate 17 .nils
/-- what is set of the lists -/
def cl (vs : List AVal) : List AVal := vs ++ List.replicate (16 - vs.length) .nils
theorem cl_set {vs : List AVal} (hk : vs.length < 16) (a b c d e x : AVal) : overR (a :: b :: c :: d :: e :: cl vs) (5 + vs.length) [x] = .ok (a :: b :: c :: d :: e :: cl (vs ++ [x])) := by
  unfold overR
  rw [if_pos (by simp [cl]; omega)]
  congr 1
  have h1 : cl vs = vs ++ (.nils :: List.replicate (15 - vs.length) .nils) := by
    unfold cl; rw [show 16 - vs.length = (15 - vs.length) + 1 by omega, List.replicate_succ]
  have h2 : cl (vs ++ [x]) = vs ++ (x :: List.replicate (15 - vs.length) .nils) := by
    unfold cl; rw [List.length_append, List.length_singleton, show 16 - (vs.length + 1) = 15 - vs.length by omega]; simp
  rw [h1, h2]
  generalize List.replicate (15 - vs.length) AVal.nils = q
  rw [show 5 + vs.length = vs.length + 1 + 1 + 1 + 1 + 1 by omega]
  simp only [List.take_succ_cons, List.length_cons, List.length_nil, List.cons_append, List.append_assoc]
  rw [show vs.length + 1 + 1 + 1 + 1 + 1 + (0 + 1) = vs.length + 1 + 1 + 1 + 1 + 1 + 1 by omega]
  simp only [List.drop_succ_cons]
  simp
section
variable {ro : Nat → Option (List AVal)}
theorem decode19 {h : AHeap} {v : AVal} {bs : List UInt8} (hv : BS (cfgR ro) h v bs) (hs : ∀ o f l q, v ≠ .slc o f l q ∧ v ≠ .esl) (hn : bs.length ≤ 67108864) {Q : AVal → AHeap → Prop}
    (hq1 : ∀ h', errA bs ≠ 0 → Old h h' → Q (.tuple [.agg zeroA, .int .i64 (errA bs : Nat)]) h')
    (hq2 : ∀ h' c sv ls svs, openS bs = some c → c.take 4 = [67, 80, 65, 1] → decE c = 0 → Old h h' → StM (cfgR ro) h' sv ls svs (decV c) → Q (.tuple [.agg (stA sv ls (decV c)), .int .i64 0]) h') : Ev (cfgR ro) 19 [v] h Q := by
  refine Ev.wp rfl rfl Try.func19 rfl ?_
  have hL : lenR (cfgR ro) h 24 v = .ok (.int .i64 bs.length) := hv.lenR un24
  have g1 : ¬ (67108864 : Int) < (bs.length : Int) := by omega
  have g2 : ¬ 67108864 < bs.length := by omega
  simp -implicitDefEqProofs [Try.f19, hL, g1, g2]
  refine open34 hv hs (by omega) (fun c vc h1 hop mc k1 => ?_) (fun h1 hop k1 => ?_)
  rotate_left
  · simp -implicitDefEqProofs
    refine scp_to rfl ?_
    simp -implicitDefEqProofs
    have he : errA bs = 31 := by unfold errA; rw [hop]
    rw [he] at hq1
    exact hq1 h1 (by omega) k1
  have hcl : c.length ≤ 2 ^ 30 := by
    unfold openS at hop
    split at hop
    · cases hop
    · split at hop
      · cases hop; rw [List.length_take]; omega
      · cases hop
  simp -implicitDefEqProofs
  refine from35 mc.toBS (fun h2 r hrn r2 o2 n2 => ?_)
  simp -implicitDefEqProofs
  refine head49 r2 (by omega) (fun h3 s3 hr3 => ?_)
  have hold : ∀ h', Rso r h2 h' → Old h h' := fun h' k => by
    have := k1.1
    have := o2.1
    refine ⟨by have := k.1; omega, fun o ho => ?_⟩
    rw [k.2 o (by omega) (by omega), o2.2 o (by omega), k1.2 o ho]
  by_cases hhd : c.take 4 = [67, 80, 65, 1]
  rotate_left
  · rw [decide_eq_false hhd]
    simp -implicitDefEqProofs
    refine scp_to rfl ?_
    simp -implicitDefEqProofs
    have he : errA bs = 30 := by unfold errA; rw [hop]; simp [hhd]
    rw [he] at hq1
    exact hq1 h3 (by omega) (hold h3 s3.so)
  rw [decide_eq_true hhd]
  have rr := hr3 hhd
  have he : errA bs = decE c := by unfold errA; rw [hop]; simp [hhd]
  rw [he] at hq1
  have hc4 : 4 ≤ c.length := by
    have := congrArg List.length hhd
    rw [List.length_take] at this
    simp at this
    omega
  simp -implicitDefEqProofs
  have l1 := st_lt (cs := c) (s := (4, 0)) (lim := 65535) hc4
  refine num37s (s := (4, 0)) (limit := 65535) rr (by omega) hc4 (by omega) (fun h4 r4 s4 => ?_)
  rw [show st c (4, 0) 65535 = rd1 c from rfl] at r4 l1 ⊢
  simp -implicitDefEqProofs
  have l2 := st_lt (cs := c) (s := (rd1 c).2) (lim := 1099511627776) l1.1
  refine num37s (s := (rd1 c).2) (limit := 1099511627776) r4 (by omega) l1.1 (by omega) (fun h5 r5 s5 => ?_)
  rw [show st c (rd1 c).2 1099511627776 = rd2 c from rfl] at r5 l2 ⊢
  simp -implicitDefEqProofs
  have l3 := st_lt (cs := c) (s := (rd2 c).2) (lim := 268435456) l2.1
  refine num37s (s := (rd2 c).2) (limit := 268435456) r5 (by omega) l2.1 (by omega) (fun h6 r6 s6 => ?_)
  rw [show st c (rd2 c).2 268435456 = rd3 c from rfl] at r6 l3 ⊢
  have w1 : IntKind.u16.wrap ((rd1 c).1 : Int) = ((rd1 c).1 : Int) := by rw [wrap16]; omega
  have w2 : IntKind.u32.wrap ((rd3 c).1 : Int) = ((rd3 c).1 : Int) := by rw [wrap32]; omega
  simp -implicitDefEqProofs [w1, w2]
  have l4 := st_lt (cs := c) (s := (rd3 c).2) (lim := 268435457) l3.1
  refine num37s (s := (rd3 c).2) (limit := 268435457) r6 (by omega) l3.1 (by omega) (fun h7 r7 s7 => ?_)
  rw [show st c (rd3 c).2 268435457 = rd4 c from rfl] at r7 l4 ⊢
  have w3 : IntKind.u32.wrap ((rd4 c).1 : Int) = ((rd4 c).1 : Int) := by rw [wrap32]; omega
  simp -implicitDefEqProofs [w3]
  have so7 : Rso r h2 h7 := ((((s3.trans s4).trans s5).trans s6).trans s7).so
  obtain ⟨n1, hn1⟩ : ∃ n, n = (rd1 c).1 := ⟨_, rfl⟩
  obtain ⟨n2, hn2⟩ : ∃ n, n = (rd2 c).1 := ⟨_, rfl⟩
  obtain ⟨n3, hn3⟩ : ∃ n, n = (rd3 c).1 := ⟨_, rfl⟩
  obtain ⟨n4, hn4⟩ : ∃ n, n = (rd4 c).1 := ⟨_, rfl⟩
  rw [← hn1, ← hn2, ← hn3, ← hn4]
  obtain ⟨I, hI⟩ : ∃ I : Nat → List AVal → AHeap → Prop, I = fun m env h' => ∃ (i : Nat) (s : Nat × Nat) (L : List (List Nat)) (vs : List AVal), i + m = 8 ∧ stMany (onS (gList c) []) (2 * i) (rd4 c).2 = (L, s) ∧ vs.length = 2 * i ∧ RdAt h' r c s.1 s.2 ∧ s.1 ≤ c.length ∧ Rso r h2 h' ∧ (s.2 = 0 → ∀ j, j < 2 * i → Mine h2 h' 1 (u32s (L.getD j [])) (vs.getD j .dead)) ∧ env = (.dead :: .dead :: .cell (.int .u16 0 :: .int .u64 0 :: .int .u32 0 :: .int .u32 0 :: List.replicate 17 .nils) :: .dead :: .cell (.int .u16 n1 :: .int .u64 n2 :: .int .u32 n3 :: .int .u32 n4 :: .nils :: cl vs) :: .ptr r 0 :: .dead :: .dead :: .dead :: .dead :: .dead :: .dead :: .dead :: .dead :: .dead :: .dead :: .dead :: .dead :: .dead :: .dead :: .dead :: .dead :: .dead :: .dead :: .dead :: .dead :: .dead :: .dead :: .dead :: .dead :: .dead :: .dead :: .dead :: .dead :: .dead :: .dead :: .dead :: .dead :: .dead :: .int .i64 (i : Nat) :: .dead :: .dead :: .dead :: .dead :: .dead :: .dead :: .dead :: .dead :: .dead :: .dead :: .dead :: .dead :: .dead :: .dead :: .dead :: .dead :: .dead :: .dead :: .dead :: .dead :: .dead :: .dead :: .dead :: .dead :: .dead :: .dead :: .dead :: .dead :: .dead :: .dead :: .dead :: .dead :: .dead :: .dead :: .dead :: .dead :: .dead :: .dead :: []) := ⟨_, rfl⟩
  refine loop_of I ?_ 8 (by rw [hI]; exact ⟨0, (rd4 c).2, [], [], by omega, rfl, rfl, r7, l4.1, so7, fun _ j hj => by omega, rfl⟩)
  intro m env h' hi
  rw [hI] at hi
  obtain ⟨i, s, L, vs, him, hst, hvl, hra, hac, hso, hmi, rfl⟩ := hi
  by_cases hlt : i < 8
  · have hlt' : (i : Int) < 8 := by omega
    have w1 : IntKind.i64.wrap ((i : Int) + 1) = ((i + 1 : Nat) : Int) := by rw [w64 (by omega) (by omega)]; omega
    have hix : idxNat (.int .i64 (i : Int)) 8 = .ok i := ix_nat hlt
    simp -implicitDefEqProofs [hlt, hlt', hix]
    refine list50 (s := s) hra (by omega) hac (fun va ha ra sa ma => ?_)
    have va1 := (ma.sl (c := cfgR ro)).one
    simp -implicitDefEqProofs
    have hac2 : (onS (gList c) [] s).2.1 ≤ c.length := on_le (fun a ha => (gList_le ha).1) hac
    obtain ⟨s1, hs1⟩ : ∃ s1, s1 = (onS (gList c) [] s).2 := ⟨_, rfl⟩
    rw [← hs1] at ra ma hac2
    refine list50 (s := s1) ra (by omega) hac2 (fun vb hb rb sb mb => ?_)
    have vb1 := (mb.sl (c := cfgR ro)).one
    have hac3 : (onS (gList c) [] s1).2.1 ≤ c.length := on_le (fun a ha => (gList_le ha).1) hac2
    have c0 := cl_set (vs := vs) (by omega) (.int .u16 n1) (.int .u64 n2) (.int .u32 n3) (.int .u32 n4) .nils va
    have c1 := cl_set (vs := vs ++ [va]) (by simp; omega) (.int .u16 n1) (.int .u64 n2) (.int .u32 n3) (.int .u32 n4) .nils vb
    rw [hvl, show 2 * i = i * 2 by omega] at c0
    rw [List.length_append, List.length_singleton, hvl, show 5 + (2 * i + 1) = 5 + i * 2 + 1 by omega] at c1
    simp -implicitDefEqProofs [hix, va1, vb1, c0, c1, w1]
    refine .mk (m := m - 1) (by omega) ?_
    rw [hI]
    obtain ⟨s2, hs2⟩ : ∃ s2, s2 = (onS (gList c) [] s1).2 := ⟨_, rfl⟩
    rw [← hs2] at rb mb hac3
    have hst2 : stMany (onS (gList c) []) (2 * (i + 1)) (rd4 c).2 = (L ++ [(onS (gList c) [] s).1, (onS (gList c) [] s1).1], s2) := by
      rw [show 2 * (i + 1) = 2 * i + 1 + 1 by omega, stMany_snoc, stMany_snoc, hst]
      simp only
      rw [← hs1, ← hs2, List.append_assoc]
      rfl
    have hLl : L.length = 2 * i := by have := stMany_len (f := onS (gList c) []) (2 * i) (rd4 c).2; rw [hst] at this; exact this
    refine ⟨i + 1, s2, _, vs ++ [va, vb], by omega, hst2, by simp [hvl]; omega, rb, hac3, (hso.trans sa).trans sb, fun h0 j hj => ?_, by simp⟩
    have e1 : s1.2 = 0 := by rw [hs2] at h0; exact on_err h0
    have e0 : s.2 = 0 := by rw [hs1] at e1; exact on_err e1
    rcases (show j < 2 * i ∨ j = 2 * i ∨ j = 2 * i + 1 by omega) with hj | rfl | rfl
    · have := ((hmi e0 j hj).keepR sa r2.2).keepR sb r2.2
      simp only [List.getD_eq_getElem?_getD, List.append_assoc] at this ⊢
      rw [List.getElem?_append_left (by omega), List.getElem?_append_left (by omega)]
      exact this
    · rw [if_pos e1] at ma
      have := (ma.base hso.1).keepR sb r2.2
      simp only [List.getD_eq_getElem?_getD, List.append_assoc]
      rw [List.getElem?_append_right (by omega), List.getElem?_append_right (by omega), hLl, hvl, Nat.sub_self]
      exact this
    · rw [if_pos h0] at mb
      have := mb.base (Nat.le_trans hso.1 sa.1)
      simp only [List.getD_eq_getElem?_getD, List.append_assoc]
      rw [List.getElem?_append_right (by omega), List.getElem?_append_right (by omega), hLl, hvl, show 2 * i + 1 - 2 * i = 1 by omega]
      exact this
  · have hlt' : ¬ (i : Int) < 8 := by omega
    have hi8 : i = 8 := by omega
    subst hi8
    have hrl : rdL c = (L, s) := hst
    have hcl16 : cl vs = vs := by unfold cl; rw [hvl]; simp
    rw [hcl16]
    simp -implicitDefEqProofs [hlt, hlt']
    have ls := st_lt (cs := c) (s := s) (lim := 65536) hac
    refine num37s (s := s) (limit := 65536) hra (by omega) hac (by omega) (fun h8 r8 s8 => ?_)
    obtain ⟨S, hS⟩ : ∃ S, S = st c s 65536 := ⟨_, rfl⟩
    obtain ⟨G, hG⟩ : ∃ G, G = rdT c := ⟨_, rfl⟩
    rw [← hS] at r8 ls ⊢
    have hGS : G = if S.2.2 = 0 then gMany (gText c) S.1 S.2.1 else ([], S.2) := by
      rw [hG, hS]
      unfold rdT
      rw [hrl]
      simp only
      unfold onS st gSent
      by_cases h0 : s.2 = 0
      · rw [if_pos h0, if_pos h0]
        by_cases h1 : (rdNum c s.1 65536).2.2 = 0
        · rw [if_neg (by simpa using h1), if_pos h1]
        · rw [if_pos h1, if_neg h1]
      · rw [if_neg h0, if_neg h0, if_neg h0]
    have hS0 : S.2.2 ≠ 0 → S.1 = 0 := fun hx => by
      rw [hS] at hx ⊢
      unfold st at hx ⊢
      split
      · rename_i h0
        rw [if_pos h0] at hx
        exact ((rdGo_lt (show rdGo c s.1 65536 9 0 0 = ((rdNum c s.1 65536).1, (rdNum c s.1 65536).2.1, (rdNum c s.1 65536).2.2) from rfl)).2.1 hx).2
      · rfl
    have hSs : S.2.2 = 0 → s.2 = 0 := fun hx => by
      rw [hS, st_on] at hx; exact on_err hx
    have so8 := hso.trans s8.so
    simp -implicitDefEqProofs
    obtain ⟨J, hJ⟩ : ∃ J : Nat → List AVal → AHeap → Prop, J = fun m env h' => ∃ (k a : Nat) (T : List (List UInt8)) (svs : List AVal) (w : AVal), k + m = S.1 ∧ T.length = k ∧ svs.length = k ∧ RdAt h' r c a S.2.2 ∧ a ≤ c.length ∧ Rso r h8 h' ∧ Mine h8 h' 1 (svs.map fun v => [v]) w ∧ (∀ i, i < k → ∃ q, svs.getD i .dead = .sl q 0 (T.getD i []).length ∧ h8.next ≤ q ∧ q < h'.next ∧ h'.get q = some (.row 1 true ((T.getD i []).map bcell)) ∧ ¬ vobj w q) ∧ (S.2.2 = 0 → G = (T ++ (gMany (gText c) m a).1, (gMany (gText c) m a).2)) ∧ (S.2.2 ≠ 0 → T = [] ∧ a = S.2.1) ∧ env = (.dead :: .dead :: .cell (.int .u16 0 :: .int .u64 0 :: .int .u32 0 :: .int .u32 0 :: List.replicate 17 .nils) :: .dead :: .cell (.int .u16 n1 :: .int .u64 n2 :: .int .u32 n3 :: .int .u32 n4 :: w :: vs) :: .ptr r 0 :: .dead :: .dead :: .dead :: .dead :: .dead :: .dead :: .dead :: .dead :: .dead :: .dead :: .dead :: .dead :: .dead :: .dead :: .dead :: .dead :: .dead :: .dead :: .dead :: .dead :: .dead :: .dead :: .dead :: .dead :: .dead :: .dead :: .dead :: .dead :: .dead :: .dead :: .dead :: .dead :: .dead :: .dead :: .dead :: .dead :: .dead :: .dead :: .dead :: .dead :: .dead :: .dead :: .dead :: .dead :: .dead :: .dead :: .dead :: .dead :: .dead :: .dead :: .int .u64 (S.1 : Nat) :: .int .u64 (k : Nat) :: .dead :: .dead :: .dead :: .dead :: .dead :: .dead :: .dead :: .dead :: .dead :: .dead :: .dead :: .dead :: .dead :: .dead :: .dead :: .dead :: .dead :: .dead :: .dead :: .dead :: []) := ⟨_, rfl⟩
    refine loop_of J ?_ S.1 (by rw [hJ]; exact ⟨0, S.2.1, [], [], .nils, by omega, rfl, rfl, r8, ls.1, Rso.refl, Mine.nil _ _ _, fun _ h => by omega, fun h0 => by rw [hGS, if_pos h0]; rfl, fun _ => ⟨rfl, rfl⟩, rfl⟩)
    -- what stands behind the readings
    have fin : ∀ (ha : AHeap) (a x : Nat) (T : List (List UInt8)) (svs : List AVal) (w : AVal), G = (T, a, x) → Rso r h8 ha → svs.length = T.length → Mine h8 ha 1 (svs.map fun v => [v]) w → (∀ i, i < T.length → ∃ q, svs.getD i .dead = .sl q 0 (T.getD i []).length ∧ h8.next ≤ q ∧ q < ha.next ∧ ha.get q = some (.row 1 true ((T.getD i []).map bcell)) ∧ ¬ vobj w q) → x = 0 → ¬ a < c.length → StM (cfgR ro) ha w vs svs (decV c) ∧ decE c = 0 := by
      intro ha a x T svs w hGe sa hsl mw hT hx hlast
      subst hx
      have hrt : rdT c = (T, a, 0) := by rw [← hG]; exact hGe
      have hS2 : S.2.2 = 0 := by
        rcases Nat.eq_zero_or_pos S.2.2 with h | h
        · exact h
        · rw [hGS, if_neg (by omega)] at hGe
          have : S.2.2 = 0 := by have := congrArg (fun z => z.2.2) hGe; exact this
          exact this
      refine ⟨⟨by omega, fun j hj => ?_, mw.sl, by rw [hsl]; simp [decV, hrt], fun j hj => ?_⟩, by unfold decE; rw [hrt]; simp [hlast]⟩
      · have := ((hmi (hSs hS2) j (by omega)).keepR s8.so r2.2).keepR sa r2.2
        have hdl : (decV c).lists = L := by unfold decV; rw [hrl]
        rw [hdl]
        exact this.sl
      · have hds : (decV c).sent = T := by unfold decV; rw [hrt]
        rw [hds] at hj ⊢
        obtain ⟨q, q1, q2, q3, q4, _⟩ := hT j hj
        rw [q1]
        exact BM.toBS (h0 := h8) ⟨bes_one _, .inr ⟨q, true, by rw [bes_len], q2, q3, by rw [bes_flat]; exact q4⟩⟩
    have zA : (zeroA = .int .u16 0 :: .int .u64 0 :: .int .u32 0 :: .int .u32 0 :: List.replicate 17 .nils) := rfl
    have hvt : List.take 16 vs = vs := List.take_of_length_le (by omega)
    have hvt2 : List.take 17 (AVal.nils :: vs) = AVal.nils :: vs := List.take_of_length_le (by simp; omega)
    intro m3 env h9 hj
    rw [hJ] at hj
    obtain ⟨k, a, T, svs, w, hkm, hTl, hsl, r9, ha9, s9, mw, mT, hg0, hg1, rfl⟩ := hj
    have hdecE : ∀ T a x, G = (T, a, x) → decE c = if x = 0 ∧ a < c.length then 15 else x := fun T a x hGe => by
      unfold decE; rw [← hG, hGe]
    by_cases hk : k < S.1
    · have hk' : (k : Int) < (S.1 : Int) := by omega
      have hx0 : S.2.2 = 0 := by
        rcases Nat.eq_zero_or_pos S.2.2 with h | h
        · exact h
        · have := hS0 (by omega); omega
      rw [hx0] at r9
      have wc := (mw.sl (c := cfgR ro)).one
      simp -implicitDefEqProofs [hk, hk', hvl, wc]
      refine text51 (s := (a, 0)) r9 (by omega) ha9 (fun hb rb sb => ?_)
      rw [show onS (gText c) [] (a, 0) = gText c a from rfl] at rb ⊢
      have hgl := gText_le (c := c) ha9
      obtain ⟨m', rfl⟩ : ∃ m', m3 = m' + 1 := ⟨m3 - 1, by omega⟩
      have hst := gMany_step (f := gText c) (k := m') (a := a)
      obtain ⟨g, hg⟩ : ∃ g, g = gText c a := ⟨_, rfl⟩
      rw [← hg] at rb hgl hst ⊢
      obtain ⟨t, p, x⟩ := g
      simp only at rb hgl hst ⊢
      obtain ⟨H1, hH1⟩ : ∃ H1, H1 = hb.push (.row 1 true (t.map bcell)) := ⟨_, rfl⟩
      obtain ⟨H2, hH2⟩ : ∃ H2, H2 = H1.push (.row 1 false [.sl hb.next 0 t.length]) := ⟨_, rfl⟩
      have nH1 : H1.next = hb.next + 1 := by rw [hH1]; rfl
      have nH2 : H2.next = hb.next + 2 := by rw [hH2]; show H1.next + 1 = _; omega
      have o12 : Old hb H2 := by rw [hH2, hH1]; exact ((Old.refl hb).push _).push _
      have hgt : H2.get H1.next = some (.row 1 false [.sl hb.next 0 t.length]) := by rw [hH2, get_push_next]
      have hgb : H2.get hb.next = some (.row 1 true (t.map bcell)) := by rw [hH2, AHeap.get_push, if_neg (by omega), hH1, get_push_next]
      have mwb : Mine h8 hb 1 (svs.map fun v => [v]) w := mw.keepR sb.so (Nat.lt_of_lt_of_le r2.2 (Nat.le_trans hso.1 s8.so.1))
      have hbn : h8.next ≤ hb.next := Nat.le_trans s9.1 sb.so.1
      obtain ⟨w', h5, f5, m5, n5, k5⟩ := (mwb.keep o12).append1G (bytes := 24) (e := [.sl hb.next 0 t.length]) (by omega) rfl (by simp; omega) (by omega)
      obtain ⟨_, fr1, fr2⟩ := app_frame f5 mwb.notSlc
      have wobj := mwb.obj
      have hr8 : r < h8.next := Nat.lt_of_lt_of_le r2.2 (Nat.le_trans hso.1 s8.so.1)
      have hnb : ¬ vobj w hb.next := fun hv => by have := (wobj _ hv).2; omega
      have rd5 : RdAt h5 r c p x := ⟨by rw [fr1 r (by omega) (fun hv => by have := (wobj _ hv).1; omega), o12.2 r rb.2]; exact rb.1, by omega⟩
      have so5 : Rso r h8 h5 := ⟨by omega, fun o ho hne => by rw [fr1 o (by omega) (fun hv => by have := (wobj _ hv).1; omega), o12.2 o (by omega), sb.2 o hne, s9.2 o ho hne]⟩
      have mT5 : ∀ i, i < k + 1 → ∃ q, (svs ++ [AVal.sl hb.next 0 t.length]).getD i .dead = .sl q 0 ((T ++ [t]).getD i []).length ∧ h8.next ≤ q ∧ q < h5.next ∧ h5.get q = some (.row 1 true (((T ++ [t]).getD i []).map bcell)) ∧ ¬ vobj w' q := by
        intro i hi
        rcases (show i < k ∨ i = k by omega) with hi | rfl
        · obtain ⟨q, q1, q2, q3, q4, q5⟩ := mT i hi
          simp only [List.getD_eq_getElem?_getD] at q1 q4 ⊢
          rw [List.getElem?_append_left (by omega), List.getElem?_append_left (by omega)]
          have hqn : q < hb.next := by rw [sb.1]; exact q3
          refine ⟨q, q1, q2, by omega, by rw [fr1 q (by omega) q5, o12.2 q hqn, sb.2 q (by omega)]; exact q4, fun hv => ?_⟩
          rcases fr2 q hv with h | h
          · exact q5 h
          · omega
        · simp only [List.getD_eq_getElem?_getD]
          rw [List.getElem?_append_right (by omega), List.getElem?_append_right (by omega), hsl, hTl, Nat.sub_self]
          refine ⟨hb.next, rfl, hbn, by omega, by rw [fr1 _ (by omega) hnb, hgb]; rfl, fun hv => ?_⟩
          rcases fr2 _ hv with h | h
          · exact hnb h
          · omega
      have m5' : Mine h8 h5 1 ((svs ++ [AVal.sl hb.next 0 t.length]).map fun v => [v]) w' := by rw [List.map_append]; exact m5
      have w5c := (m5.sl (c := cfgR ro)).one
      have w2 : IntKind.u64.wrap ((k : Int) + 1) = ((k + 1 : Nat) : Int) := by rw [wrap64]; omega
      have hbm : (t.map fun b => AVal.int .u8 b.toNat) = t.map bcell := rfl
      simp -implicitDefEqProofs [buildSliceR, reps, hbm, ← hH1, ← hH2, hgt, f5, w5c]
      refine err38 rd5 ?_
      by_cases hx : x = 0
      · subst hx
        simp -implicitDefEqProofs [w2]
        refine .mk (m := m') (by omega) ?_
        rw [hJ]
        refine ⟨k + 1, p, T ++ [t], svs ++ [AVal.sl hb.next 0 t.length], w', by omega, by simp [hTl], by simp [hsl], by rw [hx0]; exact rd5, hgl.1, so5, m5', mT5, fun h0 => ?_, fun h0 => absurd hx0 h0, rfl⟩
        rw [hg0 h0, hst]
        simp
      · have hx' : ¬ (x : Int) = 0 := by omega
        have hGe : G = (T, p, x) := by rw [hg0 hx0, hst]; simp [hx]
        have hd := hdecE _ _ _ hGe
        rw [if_neg (by omega)] at hd
        simp -implicitDefEqProofs [hx, hx']
        refine done39 rd5 (by omega) hgl.1 ?_
        rw [if_neg (by omega)]
        simp -implicitDefEqProofs [hx, hx']
        refine scp_to rfl ?_
        simp -implicitDefEqProofs
        rw [hd] at hq1
        exact hq1 h5 hx (hold h5 ((hso.trans s8.so).trans so5))
    · have hk' : ¬ (k : Int) < (S.1 : Int) := by omega
      have hm0 : m3 = 0 := by omega
      subst hm0
      have hGe : G = (T, a, S.2.2) := by
        by_cases h0 : S.2.2 = 0
        · rw [hg0 h0, h0]; simp [gMany]
        · obtain ⟨e1, e2⟩ := hg1 h0
          rw [hGS, if_neg h0, e1, e2]
      have hd := hdecE _ _ _ hGe
      simp -implicitDefEqProofs [hk, hk']
      refine done39 r9 (by omega) ha9 ?_
      by_cases hx : S.2.2 = 0
      · by_cases hlast : a < c.length
        · rw [if_pos ⟨by omega, hlast⟩]
          rw [if_pos ⟨hx, hlast⟩] at hd
          simp -implicitDefEqProofs
          refine scp_to rfl ?_
          simp -implicitDefEqProofs
          rw [hd] at hq1
          exact hq1 h9 (by omega) (hold h9 ((hso.trans s8.so).trans s9))
        · rw [if_neg (by omega)]
          obtain ⟨f1, f2⟩ := fin h9 a S.2.2 T svs w hGe s9 (by omega) mw (by rw [hTl]; exact mT) hx hlast
          have hv16 : List.take 17 (List.take 17 (w :: vs)) = w :: vs := by rw [List.take_take]; exact List.take_of_length_le (by simp; omega)
          have hvw : List.take 16 vs = vs := hvt
          simp -implicitDefEqProofs [hx, hv16, hvl, hvw]
          have := hq2 h9 c w vs svs hop hhd f2 (hold h9 ((hso.trans s8.so).trans s9)) f1
          simp only [stA, decV] at this
          rw [← hn1, ← hn2, ← hn3, ← hn4] at this
          exact this
      · rw [if_neg (by omega)]
        rw [if_neg (fun h => hx h.1)] at hd
        have hx' : ¬ (S.2.2 : Int) = 0 := by omega
        simp -implicitDefEqProofs [hx, hx']
        refine scp_to rfl ?_
        simp -implicitDefEqProofs
        rw [hd] at hq1
        exact hq1 h9 hx (hold h9 ((hso.trans s8.so).trans s9))
end
end Go.Proofs.Ytomhcjiefmaopaa
set_option linter.all false
set_option maxRecDepth 100000
set_option maxHeartbeats 4000000
namespace Go.Proofs.Ytomhcjiefmaopaa
open Go Go.RowKit Go.Proofs
section
variable {ro : Nat → Option (List AVal)}
theorem readtext53 {h : AHeap} {v : AVal} {b : List UInt8} {a : Nat} (hv : BS (cfgR ro) h v b) (hns : notSlc v) (hl : b.length ≤ 2 ^ 38) (ha : a ≤ b.length) {Q : AVal → AHeap → Prop}
    (hq : Q (.tuple [.str (gText b a).1, .int .i64 (gText b a).2.1, .int .i64 (gText b a).2.2]) h) : Ev (cfgR ro) 53 [v, .int .i64 a, .int .i64 1048576] h Q := by
  refine Ev.wp rfl rfl Try.func53 rfl ?_
  have w0 : IntKind.u64.wrap 1048576 = 1048576 := by decide
  have hL : lenR (cfgR ro) h 24 v = .ok (.int .i64 b.length) := hv.lenR un24
  simp -implicitDefEqProofs [Try.f53, w0]
  refine readnum43 (limit := 1048576) hv (by omega) (by omega) (by omega) (fun n p x e1 => ?_)
  have hle := rdNum_le (c := b) (a := a) (lim := 1048576) ha
  unfold gText at hq
  rw [e1] at hle hq
  simp only at hle hq
  by_cases hx : x = 0
  · subst hx
    obtain ⟨q, hqq⟩ : ∃ q, q = b.length - p := ⟨_, rfl⟩
    have w1 : IntKind.i64.wrap ((b.length : Int) - (p : Int)) = (q : Int) := by rw [w64 (by omega) (by omega)]; omega
    have w2 : IntKind.u64.wrap (q : Int) = (q : Int) := by rw [wrap64]; omega
    rw [← hqq] at hq
    by_cases hn : q < n
    · have hn' : (q : Int) < (n : Int) := by omega
      simp -implicitDefEqProofs [hL, w1, w2, hn, hn']
      simpa [hn] using hq
    · have hn' : ¬ (q : Int) < (n : Int) := by omega
      have w3 : IntKind.i64.wrap (n : Int) = (n : Int) := w64 (by omega) (by omega)
      obtain ⟨pn, hpn⟩ : ∃ pn, pn = p + n := ⟨_, rfl⟩
      have w4 : IntKind.i64.wrap ((p : Int) + (n : Int)) = (pn : Int) := by rw [w64 (by omega) (by omega)]; omega
      obtain ⟨c1, c2, _⟩ := Sl.cut (lo := some (.int .i64 (p : Int))) (hi := some (.int .i64 (pn : Int))) (a := p) (b := pn) hv (by omega) hns (fun top ht => by rw [bes_len] at ht ⊢; exact bd_both (by omega) (by omega) _ _) (by omega) (by rw [bes_len]; omega)
      have c3 : BS (cfgR ro) h (cutV v 1 p pn) ((b.drop p).take n) := by
        have : ((bes b).take pn).drop p = bes ((b.drop p).take n) := by
          unfold bes
          rw [List.drop_take, show pn - p = n by omega, ← List.map_drop, ← List.map_take]
        rw [this] at c2
        exact c2
      have c4 := c3.conv (s := 24) (d := 9) (e := 5) un24 un9 un5
      have i1 : convR (cfgR ro) h 3 39 (.int .i64 (q : Int)) = .ok (.int .u64 (q : Int)) := by simp [w2]
      have i2 : convR (cfgR ro) h 39 3 (.int .u64 (n : Int)) = .ok (.int .i64 (n : Int)) := by simp [w3]
      simp -implicitDefEqProofs [hL, w1, i1, i2, hn, hn', w4, c1, c4, -convR]
      have : Q (.tuple [.str ((b.drop p).take n), .int .i64 (pn : Nat), .int .i64 0]) h := by simpa [hn, hpn] using hq
      exact this
  · have hx' : ¬ (x : Int) = 0 := by omega
    simp -implicitDefEqProofs [hx, hx']
    simpa [hx] using hq
theorem list52 {h : AHeap} {v : AVal} {b : List UInt8} {a : Nat} (hv : BS (cfgR ro) h v b) (hl : b.length ≤ 2 ^ 38) (ha : a ≤ b.length) {Q : AVal → AHeap → Prop}
    (hq : ∀ v' h', Old h h' → cellsV v' = .ok [v'] → ((gList b a).2.2 = 0 → Mine h h' 1 (u32s (gList b a).1) v') → Q (.tuple [v', .int .i64 (gList b a).2.1, .int .i64 (gList b a).2.2]) h') : Ev (cfgR ro) 52 [v, .int .i64 a] h Q := by
  refine Ev.wp rfl rfl Try.func52 rfl ?_
  simp -implicitDefEqProofs [Try.f52]
  refine readnum43 (limit := 64) hv (by omega) (by omega) (by omega) (fun n p x e1 => ?_)
  have hle := rdNum_le (c := b) (a := a) (lim := 64) ha
  have hxn := (rdGo_lt (show rdGo b a 64 9 0 0 = ((rdNum b a 64).1, (rdNum b a 64).2.1, (rdNum b a 64).2.2) from rfl)).2.1
  obtain ⟨G, hG⟩ : ∃ G, G = gList b a := ⟨_, rfl⟩
  have hGe : G = if x ≠ 0 then ([], p, x) else gMany (gNum b) n p := by rw [hG]; unfold gList; rw [e1]
  rw [← hG] at hq
  rw [e1] at hle hxn
  simp only at hle hxn
  simp -implicitDefEqProofs
  obtain ⟨I, hI⟩ : ∃ I : Nat → List AVal → AHeap → Prop, I = fun m env h' => ∃ (k a x : Nat) (l : List Nat) (w z : AVal), k ≤ 64 ∧ a ≤ b.length ∧ Old h h' ∧ Mine h h' 1 (u32s l) w ∧ l.length = k ∧ ((x = 0 ∧ k + m = n ∧ G = (l ++ (gMany (gNum b) m a).1, (gMany (gNum b) m a).2)) ∨ (x ≠ 0 ∧ G.2 = (a, x))) ∧ env = (v :: .int .i64 (a : Nat) :: .dead :: .dead :: .dead :: .dead :: .dead :: w :: .int .u64 (n : Nat) :: .int .i64 (x : Nat) :: .int .u64 (k : Nat) :: .dead :: .dead :: .dead :: .dead :: .dead :: .dead :: .dead :: .dead :: .dead :: .dead :: .dead :: .dead :: .dead :: .dead :: z :: .dead :: .dead :: .dead :: .dead :: .dead :: .dead :: .dead :: .dead :: .dead :: .dead :: .dead :: .dead :: .dead :: .dead :: .dead :: .dead :: .dead :: []) := ⟨_, rfl⟩
  refine loop_of I ?_ n (by
    rw [hI]
    refine ⟨0, p, x, [], .nils, .dead, by omega, hle.1, Old.refl h, Mine.nil _ _ _, rfl, ?_, rfl⟩
    by_cases hx : x = 0
    · exact .inl ⟨hx, by omega, by rw [hGe, if_neg (by omega)]; simp⟩
    · exact .inr ⟨hx, by rw [hGe, if_pos hx]⟩)
  intro m env h' hi
  rw [hI] at hi
  obtain ⟨k, a1, x1, l, w, z, hk, ha1, oh, mw, hll, hd, rfl⟩ := hi
  have wc := (mw.sl (c := cfgR ro)).one
  by_cases hx : x1 = 0
  · obtain ⟨_, hkm, hg⟩ := hd.resolve_right (fun h => h.1 hx)
    subst hx
    by_cases hlt : k < n
    · have hlt' : (k : Int) < (n : Int) := by omega
      have hv' := hv.old oh
      simp -implicitDefEqProofs [hlt, hlt']
      refine readnum43 (limit := 268435456) hv' (by omega) (by omega) (by omega) (fun v2 p2 x2 e2 => ?_)
      have hle2 := rdNum_le (c := b) (a := a1) (lim := 268435456) ha1
      rw [e2] at hle2
      simp only at hle2
      have w1 : IntKind.u32.wrap (v2 : Int) = (v2 : Int) := by rw [wrap32]; omega
      have w2 : IntKind.u64.wrap ((k : Int) + 1) = ((k + 1 : Nat) : Int) := by rw [wrap64]; omega
      obtain ⟨v3, h3, f3, m3, o3⟩ := (mw.keep ((Old.refl h').push (.row 1 false [.int .u32 v2]))).append1 (bytes := 4) (e := [.int .u32 v2]) (by omega) rfl (by rw [u32s_len]; omega) (oh.trans ((Old.refl h').push _))
      have vc := (m3.sl (c := cfgR ro)).one
      simp -implicitDefEqProofs [w1, buildSliceR, reps, f3, vc, w2]
      obtain ⟨m', rfl⟩ : ∃ m', m = m' + 1 := ⟨m - 1, by omega⟩
      have hgn : gNum b a1 = (v2, p2, x2) := e2
      refine .mk (m := m') (by omega) ?_
      rw [hI]
      refine ⟨k + 1, p2, x2, l ++ [v2], v3, _, by omega, hle2.1, o3, by simpa [u32s] using m3, by simp [hll], ?_, rfl⟩
      by_cases hx2 : x2 = 0
      · refine .inl ⟨hx2, by omega, ?_⟩
        rw [hg, gMany_step, hgn]
        simp [hx2]
      · refine .inr ⟨hx2, ?_⟩
        rw [hg, gMany_step, hgn]
        simp [hx2]
    · have hlt' : ¬ (k : Int) < (n : Int) := by omega
      have hm0 : m = 0 := by omega
      subst hm0
      have hGf : G = (l, a1, 0) := by rw [hg]; simp [gMany]
      rw [hGf] at hq
      simp -implicitDefEqProofs [hlt, hlt', wc]
      exact hq w h' oh wc (fun _ => mw)
  · obtain ⟨_, hg⟩ := hd.resolve_left (fun h => hx h.1)
    have hx' : ¬ (x1 : Int) = 0 := by omega
    have hq' := hq w h' oh wc (fun h => by rw [hg] at h; exact absurd h hx)
    rw [hg] at hq'
    by_cases hlt : k < n
    · have hlt' : (k : Int) < (n : Int) := by omega
      simp -implicitDefEqProofs [hlt, hlt', hx, hx', wc]
      exact hq'
    · have hlt' : ¬ (k : Int) < (n : Int) := by omega
      simp -implicitDefEqProofs [hlt, hlt', hx, hx', wc]
      exact hq'
end
end Go.Proofs.Ytomhcjiefmaopaa
