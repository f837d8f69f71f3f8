/-
  A part of the proof of GossipBytes, over the seat Ytomhcjiefmaopaa: for every input the law returns true, and the input reads as it did.
-/
import Derived.Test.YtomhcjiefmaopaaR3J
set_option linter.all false
set_option maxRecDepth 100000
set_option maxHeartbeats 4000000
namespace Go.Proofs.Ytomhcjiefmaopaa
open Go Go.RowKit Go.Proofs

theorem open_seal (x : List UInt8) : openS (sealS x) = some x := by
  unfold openS
  have hl : (sealS x).length = x.length + 4 := by simp [sealS, crc4]
  rw [if_neg (by omega), hl, show x.length + 4 - 4 = x.length by omega]
  have ht : (sealS x).take x.length = x := by unfold sealS; simp
  rw [ht, if_pos rfl]
theorem lp_body : ∀ (l : List En) (pre : List UInt8) (acc : List En), (∀ e ∈ l, e.1 ≤ 65535 ∧ e.2 ≤ 268435456) → lpS (pre ++ bodyS l) l.length pre.length acc = (acc ++ l, (pre ++ bodyS l).length, 0)
  | [], pre, acc, _ => by simp [lpS, bodyS]
  | e :: l, pre, acc, h => by
    obtain ⟨h1, h2⟩ := h e (by simp)
    have r1 := rdNum_num (pre := pre) (post := numS e.2 ++ bodyS l) (m := e.1) (limit := 65535) (by omega) h1
    have r2 := rdNum_num (pre := pre ++ numS e.1) (post := bodyS l) (m := e.2) (limit := 268435456) (by omega) h2
    have e1 : pre ++ bodyS (e :: l) = pre ++ (numS e.1 ++ (numS e.2 ++ bodyS l)) := rfl
    have e2 : pre ++ (numS e.1 ++ (numS e.2 ++ bodyS l)) = (pre ++ numS e.1) ++ (numS e.2 ++ bodyS l) := by simp
    rw [e1, List.length_cons, e2]
    rw [e2] at r1
    rw [List.length_append] at r2
    rw [lpS_step r1 r2]
    simp only [ne_eq, not_true_eq_false, if_false]
    have ih := lp_body l ((pre ++ numS e.1) ++ numS e.2) (acc ++ [e]) (fun x hx => h x (by simp [hx]))
    have e3 : (pre ++ numS e.1) ++ (numS e.2 ++ bodyS l) = ((pre ++ numS e.1) ++ numS e.2) ++ bodyS l := by simp
    rw [e3]
    have e4 : pre.length + (numS e.1).length + (numS e.2).length = ((pre ++ numS e.1) ++ numS e.2).length := by simp; omega
    rw [e4, ih]
    simp
theorem dec_enc {l : List En} (hn : l.length ≤ 65536) (hok : ∀ e ∈ l, enOk e) (hr : rightB l = true) : decS 210 (sealS (encS 210 l)) = (l, 0) := by
  unfold decS
  rw [open_seal]
  have hb : ∀ e ∈ l, e.1 ≤ 65535 ∧ e.2 ≤ 268435456 := by
    intro e he
    obtain ⟨i, hi, rfl⟩ := List.getElem_of_mem he
    have h1 := List.all_eq_true.1 hr i (List.mem_range.2 hi)
    unfold okB at h1
    simp [hi] at h1
    have h2 := (hok _ (List.getElem_mem hi)).1
    exact ⟨by omega, h1.1.2⟩
  have hlist : listS (encS 210 l) = (l, (encS 210 l).length, 0) := by
    have r0 := rdNum_num (pre := [210]) (post := bodyS l) (m := l.length) (limit := 65536) (by omega) hn
    have e0 : encS 210 l = [210] ++ (numS l.length ++ bodyS l) := rfl
    have e1 : encS 210 l = ([210] ++ numS l.length) ++ bodyS l := by simp [encS]
    unfold listS
    rw [show rdNum (encS 210 l) 1 65536 = (l.length, 1 + (numS l.length).length, 0) from r0]
    simp only [ne_eq, not_true_eq_false, if_false]
    have := lp_body l ([210] ++ numS l.length) [] hb
    rw [← e1, show (([210] : List UInt8) ++ numS l.length).length = 1 + (numS l.length).length from by simp; omega] at this
    rw [this]; simp
  simp only [hlist]
  rw [if_neg]
  · simp [hr]
  · have h1 : (encS 210 l).getD 0 0 = 210 := rfl
    rw [h1]
    simp [encS]

theorem lp_len {cs : List UInt8} : ∀ (m p : Nat) (acc : List En), (lpS cs m p acc).1.length ≤ acc.length + m
  | 0, p, acc => by simp [lpS]
  | m + 1, p, acc => by
    rw [lpS]
    split
    · simp
    · split
      · simp
      · have := lp_len (cs := cs) m (rdNum cs (rdNum cs p 65535).2.1 268435456).2.1 (acc ++ [((rdNum cs p 65535).1, (rdNum cs (rdNum cs p 65535).2.1 268435456).1)])
        simp only [List.length_append, List.length_cons, List.length_nil] at this
        omega
theorem list_len (cs : List UInt8) : (listS cs).1.length ≤ 65536 := by
  unfold listS
  split
  · simp
  · rename_i h
    have h1 := lp_len (cs := cs) (rdNum cs 1 65536).1 (rdNum cs 1 65536).2.1 []
    have h2 := (rdGo_lt (show rdGo cs 1 65536 9 0 0 = ((rdNum cs 1 65536).1, (rdNum cs 1 65536).2.1, (rdNum cs 1 65536).2.2) from rfl)).1 (by simpa using h)
    simp at h1
    omega
theorem dec_len (bs : List UInt8) : (decS 210 bs).1.length ≤ 2 ^ 40 := by
  unfold decS
  split
  · simp
  · rename_i cs _
    have := list_len cs
    repeat' split
    all_goals simp
    omega

def isTrueR : Res (AVal × AHeap) → Bool
  | .ok (.bool true, _) => true
  | _ => false
theorem isTrueR_ok {r : Res (AVal × AHeap)} (h : isTrueR r = true) : ∃ h', r = .ok (.bool true, h') := by
  unfold isTrueR at h
  split at h
  · exact ⟨_, rfl⟩
  · cases h
section
variable {ro : Nat → Option (List AVal)}
theorem anchor6 : ∃ h', Run (cfgR ro) 6 [] heap0 (.bool true) h' := by
  have h : isTrueR (callF (cfgR ro) 400 6 [] heap0) = true := by kernel_rfl
  obtain ⟨h', e⟩ := isTrueR_ok h
  exact ⟨h', 400, e⟩

theorem law3 {v b : AVal} {l : List En} {bs : List UInt8} (hv : ∀ h, Ens (cfgR ro) h v l) (hok : ∀ e ∈ l, enOk e) (hb : ∀ h, BS (cfgR ro) h b bs) (hs : ∀ o f l q, b ≠ .slc o f l q) : Ev (cfgR ro) 3 [v, b] heap0 (fun v h => v = .bool true) := by
  refine Ev.wp rfl rfl Try.func3 rfl ?_
  obtain ⟨h1, ha⟩ := anchor6 (ro := ro)
  have hL : ∀ h, lenR (cfgR ro) h 23 v = .ok (.int .i64 l.length) := fun h => by have := (hv h).lenR (t := 23) un23; simpa using this
  have hL2 : ∀ h, lenR (cfgR ro) h 24 b = .ok (.int .i64 bs.length) := fun h => (hb h).lenR un24
  simp [Try.f3, Ev.run ha, hL]
  refine orD (fun h2 => ?_) (fun h2 => ?_)
  · simp [h2]
  simp [h2, hL2]
  refine orD (fun h3 => ?_) (fun h3 => ?_)
  · simp
  simp
  refine vec7 (hv h1) (by omega) (fun x h4 k4 m4 => ?_)
  have dl : (decS 210 bs).1.length ≤ 2 ^ 40 := dec_len bs
  have hx : ∀ h5, Old h4 h5 → Ens (cfgR ro) h5 x l := fun h5 ho => (Mine.sl m4).old ho
  simp
  refine right8 (hx h4 (Old.refl _)) (by omega) ?_
  simp
  refine orB (fun h6 => ?_) (fun h6 => ?_)
  · simp [h6]
    refine enc9 (hv h4) (by omega) hok (fun c h7 k7 m7 => ?_)
    have bl := body_len hok
    have nl := numS_len 8 l.length (by omega)
    have hcl : (sealS (encS 210 l)).length ≤ 2 ^ 40 := by simp [sealS, crc4, encS]; omega
    simp
    refine dec10 m7.toBS m7.noSlc hcl (fun u h8 k8 m8 => ?_)
    rw [dec_enc (by omega) hok h6] at m8 ⊢
    have bc : BS (cfgR ro) h8 c (sealS (encS 210 l)) := m7.toBS.old k8
    have cc : convR (cfgR ro) h8 24 9 c = .ok (.str (sealS (encS 210 l))) := bc.conv un24 un9 un5
    simp [-convR, cc]
    refine bytes11 (hx h8 (k7.trans k8)) (by omega) hok (fun w h9 k9 m9 => ?_)
    have cw : convR (cfgR ro) h9 24 9 w = .ok (.str (sealS (encS 210 l))) := m9.toBS.conv un24 un9 un5
    have cc9 : convR (cfgR ro) h9 24 9 c = .ok (.str (sealS (encS 210 l))) := (bc.old k9).conv un24 un9 un5
    simp [-convR, cw, cc9]
    refine ⟨.inl (by decide +kernel), ?_⟩
    refine same12 ((Mine.sl m8).old k9) (hx h9 ((k7.trans k8).trans k9)) (show l.length ≤ 2 ^ 40 by omega) ?_
    simp [-convR, cw, cc9]
    refine dec10 (hb _) hs (by omega) (fun u1 ha ka ma => ?_)
    simp
    refine read13 (hb _) hs (by omega) (fun u2 hb2 kb mb => ?_)
    simp
    refine same12 ((Mine.sl ma).old kb) mb.sl dl ?_
    simp
  · simp [h6]
    refine dec10 (hb _) hs (by omega) (fun u1 ha ka ma => ?_)
    simp
    refine read13 (hb _) hs (by omega) (fun u2 hb2 kb mb => ?_)
    simp
    refine same12 ((Mine.sl ma).old kb) mb.sl dl ?_
    simp
end
end Go.Proofs.Ytomhcjiefmaopaa
