/-
  A part of the proof of GossipBytes, over the seat Ytomhcjiefmaopaa: for every input the law returns true, and the input reads as it did.
-/
import Derived.Test.YtomhcjiefmaopaaR3G
set_option linter.all false
set_option maxRecDepth 100000
set_option maxHeartbeats 4000000
namespace Go.Proofs.Ytomhcjiefmaopaa
open Go Go.RowKit Go.Proofs

def bodyS : List En → List UInt8
  | [] => []
  | e :: l => numS e.1 ++ (numS e.2 ++ bodyS l)
def encS (mark : UInt8) (l : List En) : List UInt8 := mark :: (numS l.length ++ bodyS l)
theorem bodyS_append : ∀ a b : List En, bodyS (a ++ b) = bodyS a ++ bodyS b
  | [], b => rfl
  | e :: a, b => by simp [bodyS, bodyS_append a b]
theorem body_len : ∀ {l : List En}, (∀ e ∈ l, enOk e) → (bodyS l).length ≤ 18 * l.length
  | [], _ => by simp [bodyS]
  | e :: l, h => by
    have h1 := h e (by simp)
    have h2 := body_len (l := l) (fun x hx => h x (by simp [hx]))
    have h3 := numS_len 8 e.1 (by have := h1.1; omega)
    have h4 := numS_len 8 e.2 (by have := h1.2; omega)
    simp [bodyS]; omega

/-- the reading of entries: so many are left -/
def lpS (cs : List UInt8) : Nat → Nat → List En → List En × Nat × Nat
  | 0, p, acc => (acc, p, 0)
  | m + 1, p, acc =>
    if (rdNum cs p 65535).2.2 ≠ 0 then (acc, (rdNum cs p 65535).2.1, (rdNum cs p 65535).2.2) else
    if (rdNum cs (rdNum cs p 65535).2.1 268435456).2.2 ≠ 0 then (acc, (rdNum cs (rdNum cs p 65535).2.1 268435456).2.1, (rdNum cs (rdNum cs p 65535).2.1 268435456).2.2) else
    lpS cs m (rdNum cs (rdNum cs p 65535).2.1 268435456).2.1 (acc ++ [((rdNum cs p 65535).1, (rdNum cs (rdNum cs p 65535).2.1 268435456).1)])
theorem lpS_step {cs : List UInt8} {m p : Nat} {acc : List En} {r p1 e1 s p2 e2 : Nat} (h1 : rdNum cs p 65535 = (r, p1, e1)) (h2 : rdNum cs p1 268435456 = (s, p2, e2)) :
    lpS cs (m + 1) p acc = if e1 ≠ 0 then (acc, p1, e1) else if e2 ≠ 0 then (acc, p2, e2) else lpS cs m p2 (acc ++ [(r, s)]) := by
  rw [lpS, h1]; simp only []; rw [h2]
def listS (cs : List UInt8) : List En × Nat × Nat :=
  if (rdNum cs 1 65536).2.2 ≠ 0 then ([], (rdNum cs 1 65536).2.1, (rdNum cs 1 65536).2.2) else lpS cs (rdNum cs 1 65536).1 (rdNum cs 1 65536).2.1 []
/-- the vector that bytes are, and an error -/
def decS (mark : Nat) (bs : List UInt8) : List En × Nat :=
  match openS bs with
  | none => ([], 31)
  | some cs => if (cs.getD 0 0).toNat ≠ mark ∨ cs.length = 0 then ([], 30) else
    if (listS cs).2.2 ≠ 0 then ([], (listS cs).2.2) else if (listS cs).2.1 < cs.length then ([], 15) else if rightB (listS cs).1 = false then ([], 11) else ((listS cs).1, 0)

section
variable {ro : Nat → Option (List AVal)}

theorem wr_new {h0 h : AHeap} : WrAt (h0.push (.row 0 false [.nils])) (h0.push (.row 0 false [.nils])) h0.next [] := ⟨.nils, by simp, BM.nil, by simp, Nat.le_refl _⟩

theorem enc9 {h : AHeap} {v : AVal} {l : List En} (hv : Ens (cfgR ro) h v l) (hn : l.length ≤ 100) (hok : ∀ e ∈ l, enOk e) {Q : AVal → AHeap → Prop}
    (hq : ∀ v' h', Old h h' → BM h h' v' (sealS (encS 210 l)) → Q v' h') : Ev (cfgR ro) 9 [v] h Q := by
  refine Ev.wp rfl rfl Try.func9 rfl ?_
  have hL : ∀ h', Old h h' → lenR (cfgR ro) h' 23 v = .ok (.int .i64 l.length) := fun h' ho => by have := (hv.old ho).lenR (t := 23) un23; simpa using this
  have hX : ∀ i, i < l.length → indexAddrR Try.prog 23 v (.int .i64 (i : Int)) = .ok (elp v 2 i) := fun i hi => hv.idx un23 sz88 (by simpa using hi)
  have hA : ∀ h', Old h h' → ∀ i (hi : i < l.length), loadR (cfgR ro) h' 88 (elp v 2 i) = .ok (.agg (ecells (l.getD i (0, 0)))) := fun h' ho i hi => (hv.old ho).load (Ens.at hi) ag88 sz88
  obtain ⟨hb, hhb⟩ : ∃ hb, hb = h.push (.row 0 false [.nils]) := ⟨_, rfl⟩
  have k0 : Old h hb := by rw [hhb]; exact (Old.refl h).push _
  have w0 : WrAt hb hb h.next [] := by rw [hhb]; exact wr_new (h := h)
  have old : ∀ h', Wst hb h.next hb h' → Old h h' := fun h' k => ⟨Nat.le_trans k0.1 k.1, fun o ho => by rw [k.2 o (Nat.lt_of_lt_of_le ho k0.1) (by omega)]; exact k0.2 o ho⟩
  simp [Try.f9]
  rw [← hhb]
  refine byte30 (b := 210) w0 (by simp) (fun h1 w1 s1 => ?_)
  have hl1 := hL h1 (old _ s1)
  have e1 : IntKind.u64.wrap (l.length : Int) = (l.length : Int) := by rw [wrap64]; omega
  simp [hl1, e1]
  refine num31 (by omega) w1 (by simp) (fun h2 w2 s2 => ?_)
  have s2 := s1.trans s2
  have hl2 := hL h2 (old _ s2)
  simp [hl2]
  have nl := numS_len 8 l.length (by omega)
  obtain ⟨I, hI⟩ : ∃ I : Nat → List AVal → AHeap → Prop, I = fun m env h' => ∃ (i : Nat), i + m = l.length ∧ Wst hb h.next hb h' ∧ WrAt hb h' h.next (([] ++ [210]) ++ numS l.length ++ bodyS (l.take i)) ∧ env = (.dead :: .dead :: .dead :: .ptr h.next 0 :: .dead :: .dead :: .dead :: .dead :: .dead :: .dead :: .dead :: v :: .int .i64 l.length :: .int .i64 i :: .dead :: .dead :: .dead :: .dead :: .dead :: .dead :: .dead :: .dead :: .dead :: .dead :: .dead :: .dead :: .dead :: .dead :: []) := ⟨_, rfl⟩
  refine loop_of I ?_ l.length (by rw [hI]; exact ⟨0, by simp, s2, by simpa [bodyS] using w2, rfl⟩)
  rintro m env h' hi
  rw [hI] at hi
  obtain ⟨i, hin, hs, hw, rfl⟩ := hi
  have hwi : IntKind.i64.wrap ((i : Int) + 1) = ((i + 1 : Nat) : Int) := by rw [w64 (by omega) (by omega)]; omega
  simp
  refine orD (fun h3 => ?_) (fun h3 => ?_)
  · have ha := hA h' (old _ hs) i h3
    have hcells : l.getD i (0, 0) = l[i] := by simp [h3]
    obtain ⟨⟨r, s⟩, he⟩ : ∃ e, e = l.getD i (0, 0) := ⟨_, rfl⟩
    have hoke : enOk (r, s) := by rw [he, hcells]; exact hok _ (List.getElem_mem h3)
    have hb1 := body_len (l := l.take i) (fun e hm => hok e (List.mem_of_mem_take hm))
    have hb2 : (l.take i).length = i := by simp; omega
    rw [hb2] at hb1
    rw [← he] at ha
    simp only [ecells] at ha
    have f1 : IntKind.u64.wrap (r : Int) = (r : Int) := by have := hoke.1; rw [wrap64]; simp at this; omega
    have f2 : IntKind.u64.wrap (s : Int) = (s : Int) := by have := hoke.2; rw [wrap64]; simp at this; omega
    have r63 : r < 2 ^ 63 := by have := hoke.1; simp at this; omega
    have s63 : s < 2 ^ 63 := by have := hoke.2; simp at this; omega
    have rl := numS_len 8 r (by omega)
    simp [hX i h3, ha, f1, f2]
    refine num31 r63 hw (by simp; omega) (fun h4 w4 s4 => ?_)
    simp [f2]
    refine num31 s63 w4 (by simp; omega) (fun h5 w5 s5 => ?_)
    obtain ⟨i1, hi1⟩ : ∃ x : Int, x = ((i + 1 : Nat) : Int) := ⟨_, rfl⟩
    rw [← hi1] at hwi
    simp [hwi]
    refine .mk (m := m - 1) (by omega) (by
      rw [hI]
      refine ⟨i + 1, by omega, (hs.trans s4).trans s5, ?_, by rw [hi1]⟩
      rw [List.take_succ_eq_append_getElem h3, bodyS_append, ← hcells, ← he]
      have : bodyS [(r, s)] = numS r ++ numS s := by simp [bodyS]
      rw [this]
      simpa using w5)
  · rw [List.take_of_length_le (by omega)] at hw
    have hb1 := body_len hok
    simp
    refine bytes33 hw (by simp; omega) (fun v2 h4 m4 k4 => ?_)
    have ko := (old _ hs).trans k4
    simp
    refine seal32 m4.toBS (by simp; omega) (fun v3 h5 m5 k5 => ?_)
    simp
    refine hq _ _ (ko.trans k5) ?_
    have : sealS ([] ++ [210] ++ numS l.length ++ bodyS l) = sealS (encS 210 l) := by simp [encS]
    rw [this] at m5
    obtain ⟨e1, e2⟩ := m5
    exact ⟨e1, e2.imp id fun ⟨q, fz, a1, a2, a3, a4⟩ => ⟨q, fz, a1, Nat.le_trans ko.1 a2, a3, a4⟩⟩

theorem bytes11 {h : AHeap} {v : AVal} {l : List En} (hv : Ens (cfgR ro) h v l) (hn : l.length ≤ 100) (hok : ∀ e ∈ l, enOk e) {Q : AVal → AHeap → Prop}
    (hq : ∀ v' h', Old h h' → BM h h' v' (sealS (encS 210 l)) → Q v' h') : Ev (cfgR ro) 11 [v] h Q := by
  refine Ev.wp rfl rfl Try.func11 rfl ?_
  have hL : ∀ h', Old h h' → lenR (cfgR ro) h' 26 v = .ok (.int .i64 l.length) := fun h' ho => by have := (hv.old ho).lenR (t := 26) un26; simpa using this
  have hX : ∀ i, i < l.length → indexAddrR Try.prog 26 v (.int .i64 (i : Int)) = .ok (elp v 2 i) := fun i hi => hv.idx un26 sz89 (by simpa using hi)
  have hO : ∀ i d, i < l.length → addOff (elp v 2 i) d = .ok (elpo v 2 i d) := fun i d hi => elp_off hv (by simpa using hi)
  have hA0 : ∀ h', Old h h' → ∀ i (hi : i < l.length), loadR (cfgR ro) h' 38 (elpo v 2 i 0) = .ok (.int .u16 (l.getD i (0, 0)).1) := fun h' ho i hi => (hv.old ho).loadF (Ens.at hi) rfl ag38
  have hA1 : ∀ h', Old h h' → ∀ i (hi : i < l.length), loadR (cfgR ro) h' 40 (elpo v 2 i 1) = .ok (.int .u32 (l.getD i (0, 0)).2) := fun h' ho i hi => (hv.old ho).loadF (Ens.at hi) rfl ag40
  have e1 : IntKind.u64.wrap (l.length : Int) = (l.length : Int) := by rw [wrap64]; omega
  have k1 : Old h (h.push (.row 1 false [.int .u8 210])) := (Old.refl h).push _
  have m1 : BM h (h.push (.row 1 false [.int .u8 210])) (.sl h.next 0 1) [210] := ⟨bes_one _, .inr ⟨h.next, false, rfl, Nat.le_refl _, by simp, by rw [get_push_next]; rfl⟩⟩
  simp [Try.f11, buildSliceR, reps, hL _ k1, e1]
  have nl := numS_len 8 l.length (by omega)
  refine num41 l.length (by omega) _ (fun v2 h2 m2 k2 => ?_)
  have b2 := m2.toBS (c := cfgR ro)
  obtain ⟨v3, h3, g3, m3, k3⟩ := (m1.keep k2).app (nb := numS l.length) (k1.trans k2) (by simp; omega)
  simp [b2.lenA, b2.read, g3]
  obtain ⟨I, hI⟩ : ∃ I : Nat → List AVal → AHeap → Prop, I = fun m env h' => ∃ (i : Nat) (o : AVal), i + m = l.length ∧ Old h h' ∧ BM h h' o (([210] ++ numS l.length) ++ bodyS (l.take i)) ∧ env = (v :: .dead :: .dead :: o :: .int .i64 i :: .dead :: .dead :: .dead :: .dead :: .dead :: .dead :: .dead :: .dead :: .dead :: .dead :: .dead :: .dead :: .dead :: .dead :: .dead :: .dead :: .dead :: .dead :: .dead :: .dead :: .dead :: .dead :: .dead :: .dead :: .dead :: .dead :: .dead :: .dead :: .dead :: .dead :: .dead :: .dead :: .dead :: []) := ⟨_, rfl⟩
  refine loop_of I ?_ l.length (by rw [hI]; exact ⟨0, v3, by simp, k3, by simpa [bodyS] using m3, rfl⟩)
  rintro m env h' hi
  rw [hI] at hi
  obtain ⟨i, o, hin, ho, hm, rfl⟩ := hi
  have hwi : IntKind.i64.wrap ((i : Int) + 1) = ((i + 1 : Nat) : Int) := by rw [w64 (by omega) (by omega)]; omega
  simp [hL _ ho]
  refine orD (fun h5 => ?_) (fun h5 => ?_)
  · have ha0 := hA0 h' ho i h5
    have hcells : l.getD i (0, 0) = l[i] := by simp [h5]
    obtain ⟨⟨r, s⟩, he⟩ : ∃ e, e = l.getD i (0, 0) := ⟨_, rfl⟩
    have hoke : enOk (r, s) := by rw [he, hcells]; exact hok _ (List.getElem_mem h5)
    have hb1 := body_len (l := l.take i) (fun e hm => hok e (List.mem_of_mem_take hm))
    have hb2 : (l.take i).length = i := by simp; omega
    rw [hb2] at hb1
    rw [← he] at ha0
    have f1 : IntKind.u64.wrap (r : Int) = (r : Int) := by have := hoke.1; rw [wrap64]; simp at this; omega
    have f2 : IntKind.u64.wrap (s : Int) = (s : Int) := by have := hoke.2; rw [wrap64]; simp at this; omega
    have r63 : r < 2 ^ 63 := by have := hoke.1; simp at this; omega
    have s63 : s < 2 ^ 63 := by have := hoke.2; simp at this; omega
    have rl := numS_len 8 r (by omega)
    have sl := numS_len 8 s (by omega)
    simp [hX i h5, hO i 0 h5, ha0, f1]
    refine num41 r r63 _ (fun v6 h6 m6 k6 => ?_)
    have b6 := m6.toBS (c := cfgR ro)
    obtain ⟨v7, h7, g7, m7, k7⟩ := (hm.keep k6).app (nb := numS r) (ho.trans k6) (by simp; omega)
    have ha1 := hA1 h7 k7 i h5
    rw [← he] at ha1
    simp [b6.lenA, b6.read, g7, hX i h5, hO i 1 h5, ha1, f2]
    refine num41 s s63 _ (fun v8 h8 m8 k8 => ?_)
    have b8 := m8.toBS (c := cfgR ro)
    obtain ⟨v9, h9, g9, m9, k9⟩ := (m7.keep k8).app (nb := numS s) (k7.trans k8) (by simp; omega)
    obtain ⟨i1, hi1⟩ : ∃ x : Int, x = ((i + 1 : Nat) : Int) := ⟨_, rfl⟩
    rw [← hi1] at hwi
    simp [b8.lenA, b8.read, g9, hwi]
    refine .mk (m := m - 1) (by omega) (by
      rw [hI]
      refine ⟨i + 1, v9, by omega, k9, ?_, by rw [hi1]⟩
      rw [List.take_succ_eq_append_getElem h5, bodyS_append, ← hcells, ← he]
      have : bodyS [(r, s)] = numS r ++ numS s := by simp [bodyS]
      rw [this]
      simpa using m9)
  · rw [List.take_of_length_le (by omega)] at hm
    have hb1 := body_len hok
    simp
    refine seal42 hm.toBS (by simp; omega) (fun v6 h6 m6 k6 => ?_)
    simp
    refine hq _ _ (ho.trans k6) ?_
    have : sealS ([210] ++ numS l.length ++ bodyS l) = sealS (encS 210 l) := by simp [encS]
    rw [this] at m6
    obtain ⟨e1, e2⟩ := m6
    exact ⟨e1, e2.imp id fun ⟨q, fz, a1, a2, a3, a4⟩ => ⟨q, fz, a1, Nat.le_trans ho.1 a2, a3, a4⟩⟩
end
end Go.Proofs.Ytomhcjiefmaopaa
