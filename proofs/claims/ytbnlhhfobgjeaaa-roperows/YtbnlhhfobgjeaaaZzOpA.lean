/-
  One operation that is no call of a Go function.
-/
import Derived.Test.YtbnlhhfobgjeaaaZzOp9
set_option linter.all false
namespace Go.Proofs.Ytbnlhhfobgjeaaa
open Go Go.RowKit

section
variable {F : Fix} {ι : Inj} {h : AHeap} {w : World} {bad : List Nat} {env : List AVal} {ev : Operand → Value}

theorem opnds_ok {ρ : RoMap} (hev : ∀ x a, opnd bad env x = .ok a → VRel ι ρ a (ev x)) : ∀ (l : List Operand) (as : List AVal), opnds bad env l = .ok as → VRels ι ρ as (l.map ev)
  | [], as, hq => by simp [opnds] at hq; subst hq; rfl
  | x :: l, as, hq => by
    unfold opnds at hq
    obtain ⟨a, ha, hq1⟩ := Res.bind_ok hq
    obtain ⟨r, hr, hq2⟩ := Res.bind_ok hq1
    cases hq2
    exact ⟨ev x, l.map ev, rfl, hev x a ha, opnds_ok hev l r hr⟩

theorem opndParts_ok {ρ : RoMap} (hev : ∀ x a, opnd bad env x = .ok a → VRel ι ρ a (ev x)) : ∀ (l : List (Nat × Operand)) (as : List (Nat × AVal)), opndParts bad env l = .ok as → PartsRel ι ρ as (l.map fun p => (p.1, ev p.2))
  | [], as, hq => by simp [opndParts] at hq; subst hq; exact .nil
  | x :: l, as, hq => by
    unfold opndParts at hq
    obtain ⟨a, ha, hq1⟩ := Res.bind_ok hq
    obtain ⟨r, hr, hq2⟩ := Res.bind_ok hq1
    cases hq2
    exact .cons (hev _ _ ha) (opndParts_ok hev l r hr)

theorem optR_ok {ρ : RoMap} (hev : ∀ x a, opnd bad env x = .ok a → VRel ι ρ a (ev x)) {x : Option Operand} {a : Option AVal} (hq : optR (opnd bad env) x = .ok a) : OptV ι ρ a (x.map ev) := by
  unfold optR at hq
  split at hq
  · cases hq; trivial
  · obtain ⟨v, hv, hq1⟩ := Res.bind_ok hq
    cases hq1
    exact hev _ _ hv

theorem pureV_ok {v : AVal} {h' : AHeap} {x : Res AVal} (hq : pureV h x = .ok (v, h')) : x = .ok v ∧ h' = h := by
  unfold pureV at hq
  obtain ⟨a, ha, hq1⟩ := Res.bind_ok hq
  cases hq1; exact ⟨ha, rfl⟩

theorem OpTo.value {P : Program} {s : Sem Value} {v : AVal} {u : Value} (r : Rel F ι h w) (hs : s.run P w = .ok u w) (hv : VRel ι F.ρ v u) : OpTo P (do pure (.value (← s))) w (Out F ι h w v h) :=
  ⟨u, w, .inl (by simp [hs]), ι, hv, r, Step.refl _ _ _⟩

theorem OpTo.made {P : Program} {s : Sem Value} {v : AVal} {h' : AHeap} (hs : ∃ u w' ι', s.run P w = .ok u w' ∧ VRel ι' F.ρ v u ∧ Rel F ι' h' w' ∧ Step ι h w ι' h' w') : OpTo P (do pure (.value (← s))) w (Out F ι h w v h') := by
  obtain ⟨u, w', ι', h1, h2, h3, h4⟩ := hs
  exact ⟨u, w', .inl (by simp [h1]), ι', h2, h3, h4⟩

theorem store_ok (r : Rel F ι h w) {t : Nat} {x v : AVal} {h' : AHeap} {xv vv : Value} (hq : storeR F.c h t x v = .ok h') (hx : VRel ι F.ρ x xv) (hv : VRel ι F.ρ v vv) :
    ∃ w', (Instr.storeAt t xv vv).run F.c.P w = .ok () w' ∧ Rel F ι h' w' ∧ Step ι h w ι h' w' := by
  unfold storeR at hq
  split at hq
  rotate_left; · cases hq
  rename_i o off
  split at hq
  rotate_left; · cases hq
  rename_i ez fz vs ho
  obtain ⟨n, hn, hq1⟩ := Res.bind_ok hq
  obtain ⟨cs, hcs, hq2⟩ := Res.bind_ok hq1
  split at hq2
  rotate_left; · cases hq2
  rename_i hl
  obtain ⟨vs', hov, hq3⟩ := Res.bind_ok hq2
  cases hq3
  obtain ⟨e, he, rfl⟩ := hx
  obtain ⟨c1, c2⟩ := hv.cells hcs
  have hlen := c1.length
  obtain ⟨w', s1, s2, s3⟩ := write_ok (xo := e.base + off) r ho he (.inl rfl) hov c1 c2
  refine ⟨w', ?_, s2, s3⟩
  have hsz : vv.cells.size = n := by simp at hlen; omega
  simp [Instr.storeAt, Instr.sureAddr, storeVar, run_size hn, hsz, s1]

theorem load_ok (ok : F.Ok) (r : Rel F ι h w) {t : Nat} {x v : AVal} {xv : Value} (hq : loadR F.c h t x = .ok v) (hx : VRel ι F.ρ x xv) : ∃ u, (Instr.loadAt t xv).run F.c.P w = .ok u w ∧ VRel ι F.ρ v u := by
  unfold loadR at hq
  obtain ⟨rw', hr, hq1⟩ := Res.bind_ok hq
  unfold rowR at hr
  split at hr
  · rename_i o off
    split at hr
    · rename_i ez fz vs ho
      cases hr
      obtain ⟨e, he, rfl⟩ := hx
      obtain ⟨e', g1, g2, _⟩ := r.cells ho
      rw [he] at g1; cases g1
      obtain ⟨u, u1, u2⟩ := g2.loadVar (P := F.c.P) hq1
      exact ⟨u, by simp [Instr.loadAt, Instr.sureAddr, u1], u2⟩
    · cases hr
  · rename_i ro off
    split at hr
    · rename_i vs ho
      cases hr
      obtain ⟨e, he, rfl⟩ := hx
      obtain ⟨e', g1, g2⟩ := r.roCells ok ho
      rw [he] at g1; cases g1
      obtain ⟨u, u1, u2⟩ := g2.loadVar (P := F.c.P) hq1
      exact ⟨u, by simp [Instr.loadAt, Instr.sureAddr, u1], u2⟩
    · cases hr
  · cases hr

set_option maxHeartbeats 2000000 in
theorem opR_ok (ok : F.Ok) (r : Rel F ι h w) (hev : ∀ x a, opnd bad env x = .ok a → VRel ι F.ρ a (ev x)) {o : Oper} {v : AVal} {h' : AHeap} (hq : opR F.c bad env h o = .ok (v, h')) (fr : Fresh ι h.next h'.next) :
    OpTo F.c.P (execOp ev o) w (Out F ι h w v h') := by
  unfold opR at hq
  split at hq
  case h_1 x ho =>
    obtain ⟨h1, rfl⟩ := pureV_ok hq
    simp only [execOp, ho]
    exact ⟨_, w, .inl rfl, ι, hev _ _ h1, r, Step.refl _ _ _⟩
  case h_2 x ho =>
    obtain ⟨h1, rfl⟩ := pureV_ok hq
    simp only [execOp, ho]
    exact ⟨_, w, .inl rfl, ι, hev _ _ h1, r, Step.refl _ _ _⟩
  case h_3 x a b ho =>
    obtain ⟨c, hc, hq1⟩ := Res.bind_ok hq
    have hcv := hev _ _ hc
    split at hq1
    · obtain ⟨h1, rfl⟩ := pureV_ok hq1
      simp only [VRel] at hcv
      exact ⟨ev a, w, .inl (by simp [execOp, ho, hcv, asBool]), ι, hev _ _ h1, r, Step.refl _ _ _⟩
    · obtain ⟨h1, rfl⟩ := pureV_ok hq1
      simp only [VRel] at hcv
      exact ⟨ev b, w, .inl (by simp [execOp, ho, hcv, asBool]), ι, hev _ _ h1, r, Step.refl _ _ _⟩
    · cases hq1
  case h_4 t ho =>
    obtain ⟨z, hz, hq1⟩ := Res.bind_ok hq
    simp only [execOp, ho]
    exact OpTo.made (alloc_ok r hz hq1 fr)
  case h_5 t x ho =>
    obtain ⟨a, ha, hq1⟩ := Res.bind_ok hq
    simp only [execOp, ho]
    exact OpTo.made (box_ok r hq1 (hev _ _ ha) fr)
  case h_6 t ps ho =>
    obtain ⟨l, hl, hq1⟩ := Res.bind_ok hq
    obtain ⟨h1, rfl⟩ := pureV_ok hq1
    simp only [execOp, ho]
    obtain ⟨u, u1, u2⟩ := build_ok (w := w) (pv := ps.map fun (i, x) => (i, ev x)) h1 (by simpa using opndParts_ok hev _ _ hl)
    exact OpTo.value r u1 u2
  case h_7 t n ps ho =>
    obtain ⟨l, hl, hq1⟩ := Res.bind_ok hq
    simp only [execOp, ho]
    exact OpTo.made (buildSlice_ok (pv := ps.map fun (i, x) => (i, ev x)) r hq1 (by simpa using opndParts_ok hev _ _ hl) fr)
  case h_8 t a ho =>
    obtain ⟨p, hp, hq1⟩ := Res.bind_ok hq
    obtain ⟨h1, rfl⟩ := pureV_ok hq1
    simp only [execOp, ho]
    obtain ⟨u, u1, u2⟩ := load_ok ok r h1 (hev _ _ hp)
    exact OpTo.value r u1 u2
  case h_9 t a x ho =>
    obtain ⟨p, hp, hq1⟩ := Res.bind_ok hq
    obtain ⟨y, hy, hq2⟩ := Res.bind_ok hq1
    obtain ⟨hh, hst, hq3⟩ := Res.bind_ok hq2
    cases hq3
    obtain ⟨w', s1, s2, s3⟩ := store_ok r hst (hev _ _ hp) (hev _ _ hy)
    exact ⟨undef, w', .inr ⟨by simp [execOp, ho, s1], rfl⟩, ι, ⟨_, rfl, rfl⟩, s2, s3⟩
  case h_10 x ho =>
    obtain ⟨p, hp, hq1⟩ := Res.bind_ok hq
    obtain ⟨h1, rfl⟩ := pureV_ok hq1
    have hv := hev _ _ hp
    unfold nilCheckR at h1
    split at h1
    · cases h1
      obtain ⟨e, he, hve⟩ := hv
      exact ⟨ev x, w, .inl (by simp [execOp, ho, hve]), ι, ⟨e, he, hve⟩, r, Step.refl _ _ _⟩
    · cases h1
      obtain ⟨e, he, hve⟩ := hv
      exact ⟨ev x, w, .inl (by simp [execOp, ho, hve]), ι, ⟨e, he, hve⟩, r, Step.refl _ _ _⟩
    · cases h1
  case h_11 op xt x y yt ho =>
    obtain ⟨a, ha, hq1⟩ := Res.bind_ok hq
    obtain ⟨b, hb, hq2⟩ := Res.bind_ok hq1
    split at hq2
    rotate_left; · cases hq2
    rename_i hg
    obtain ⟨h1, rfl⟩ := pureV_ok hq2
    obtain ⟨g1, g2⟩ := guard_ok (w := w) ok (hev _ _ ha) (hev _ _ hb) hg
    obtain ⟨u, u1, u2⟩ := binR_ok ok r h1 (hev _ _ ha) (hev _ _ hb) g2
    exact ⟨u, w, .inl (by simp [execOp, ho, g1, u1]), ι, u2, r, Step.refl _ _ _⟩
  case h_12 op t x ho =>
    obtain ⟨a, ha, hq1⟩ := Res.bind_ok hq
    obtain ⟨h1, rfl⟩ := pureV_ok hq1
    obtain ⟨u, u1, u2⟩ := un_ok (w := w) (P := F.c.P) h1 (hev _ _ ha)
    simp only [execOp, ho]
    exact OpTo.value r u1 u2
  case h_13 s d x ho =>
    obtain ⟨a, ha, hq1⟩ := Res.bind_ok hq
    obtain ⟨su, hsu, hq1'⟩ := Res.bind_ok hq1
    obtain ⟨du, hdu, hq2⟩ := Res.bind_ok hq1'
    have hv := hev _ _ ha
    have hus := undR_ok hsu
    have hud := undR_ok hdu
    simp only [execOp, ho]
    split at hq2
    · rename_i el b
      obtain ⟨wd, hwd, hq3⟩ := Res.bind_ok hq2
      have huw := undR_ok hwd
      split at hq3
      · cases hq3
        simp only [VRel] at hv
        obtain ⟨u, w', ι', u1, u2, u3, u4⟩ := strBytes_ok (e := el) (b := b) r fr
        rw [hv]
        exact OpTo.made ⟨u, w', ι', by cases su <;> simp [convert, run_und hus, run_und hud, run_und huw, u1], u2, u3, u4⟩
      · cases hq3
    · rename_i el o' off n
      obtain ⟨wd, hwd, hq3⟩ := Res.bind_ok hq2
      have huw := undR_ok hwd
      split at hq3
      · split at hq3
        · rename_i ez fz vs hob
          split at hq3
          · rename_i hsd
            cases hq3
            subst hsd
            rw [hud] at hus; cases hus
            have hv0 := hv
            obtain ⟨e, xo, cap, he, hve, hcap, hlc, hxo⟩ := hv
            obtain ⟨e', g1, _, g⟩ := r.obj o' _ hob
            rw [he] at g1; cases g1
            obtain ⟨c, T, f, a1, a2, a3, a4, a5, a6, a7, a8⟩ := g
            have hlt : e.blk < w.heap.size := (Array.getElem?_eq_some_iff.1 a1).1
            have hnew : ∃ f', (w.freeze { block := e.blk, off := c.size } 1) = { w with heap := w.heap.setIfInBounds e.blk (.cells c T f') } ∧ c.size ≤ f'.1 := by
              obtain ⟨lo, hi⟩ := f
              refine ⟨if lo == hi then (c.size, c.size + 1) else (min lo c.size, max hi (c.size + 1)), ?_, ?_⟩
              · simp only [World.freeze]
                rw [if_neg (by simp)]
                congr 1
                apply Array.ext_getElem?
                intro k
                rw [Array.getElem?_modify, Array.getElem?_setIfInBounds]
                by_cases hk : e.blk = k
                · subst hk
                  simp only [if_true, a1, hlt, Option.map_some]
                · simp only [hk, if_false]
              · split
                · exact Nat.le_refl _
                · rename_i hne
                  simp only
                  rcases a6 with a6 | a6
                  · cases a6; simp at hne
                  · omega
            obtain ⟨f', hf1, hf2⟩ := hnew
            obtain ⟨t1, t2⟩ := r.set (w' := { w with heap := w.heap.setIfInBounds e.blk (.cells c T f') }) (.row ez true vs) hob he ⟨rfl, rfl, rfl, by simp, fun k _ hk => by simp [Ne.symm hk]⟩
              ⟨c, T, f', by simp [hlt], a2, a3, a4, by simp, .inr hf2, a7, a8⟩
            refine OpTo.made ⟨ev x, _, ι, ?_, hv0, t1, t2⟩
            rw [hve]
            have hsh : w.shape? e.blk = some (T, c.size) := by simp [World.shape?, a1]
            simp [convert, run_und hud, run_und huw, markStringish, hsh, hf1]
          · cases hq3
        · cases hq3
      · cases hq3
    · obtain ⟨h1, rfl⟩ := pureV_ok hq2
      obtain ⟨u, u1, u2⟩ := conv_ok ok r h1 hv
      exact OpTo.value r u1 u2
  case h_14 t x ho =>
    obtain ⟨a, ha, hq1⟩ := Res.bind_ok hq
    obtain ⟨d, hd, hq2⟩ := Res.bind_ok hq1
    have hu := undR_ok hd
    split at hq2
    · cases hq2
    · rename_i hne
      cases hq2
      refine ⟨.iface t (ev x), w, .inl ?_, ι, ⟨_, rfl, hev _ _ ha⟩, r, Step.refl _ _ _⟩
      cases d <;> simp [execOp, ho, Instr.makeInterface, run_und hu]
      exact absurd rfl (hne _)
  case h_15 fn first cap ho =>
    split at hq
    · rename_i f
      obtain ⟨a, ha, hq1⟩ := Res.bind_ok hq
      obtain ⟨b, hb, hq2⟩ := Res.bind_ok hq1
      cases hq2
      exact ⟨.func (.func f) (first.map ev) (cap.map ev), w, .inl (by simp [execOp, ho, Instr.makeFunc]), ι, ⟨_, _, rfl, by simpa using opnds_ok hev _ _ ha, by simpa using opnds_ok hev _ _ hb⟩, r, Step.refl _ _ _⟩
    · cases hq
  case h_16 t rr ho =>
    split at hq
    · cases hq
      have := r.push fr (.map #[] 0) (.map []) ⟨w.heap.size, 0, 0, 0⟩ rfl ⟨#[], 0, by simp, rfl, rfl, by simp⟩
      exact ⟨.map (some w.heap.size), _, .inl (by simp [execOp, ho, Instr.makeMap]), _, ⟨_, upd_self _ _ _, rfl⟩, this.1, this.2⟩
    · cases hq
  case h_17 t l m ho =>
    obtain ⟨a, ha, hq1⟩ := Res.bind_ok hq
    obtain ⟨b, hb, hq2⟩ := Res.bind_ok hq1
    simp only [execOp, ho]
    exact OpTo.made (makeSlice_ok r hq2 (hev _ _ ha) (hev _ _ hb) fr)
  case h_18 t x lo hi mx ho =>
    obtain ⟨a, ha, hq1⟩ := Res.bind_ok hq
    obtain ⟨b, hb, hq2⟩ := Res.bind_ok hq1
    obtain ⟨c, hc, hq3⟩ := Res.bind_ok hq2
    obtain ⟨d, hd, hq4⟩ := Res.bind_ok hq3
    obtain ⟨h1, rfl⟩ := pureV_ok hq4
    simp only [execOp, ho]
    obtain ⟨u, u1, u2⟩ := slice_ok r h1 (hev _ _ ha) (optR_ok hev hb) (optR_ok hev hc) (optR_ok hev hd)
    exact OpTo.value r u1 u2
  case h_19 t x f ho =>
    obtain ⟨a, ha, hq1⟩ := Res.bind_ok hq
    obtain ⟨h1, rfl⟩ := pureV_ok hq1
    simp only [execOp, ho]
    obtain ⟨u, u1, u2⟩ := fieldAddr_ok (w := w) h1 (hev _ _ ha)
    exact OpTo.value r u1 u2
  case h_20 t x f ho =>
    obtain ⟨a, ha, hq1⟩ := Res.bind_ok hq
    obtain ⟨h1, rfl⟩ := pureV_ok hq1
    simp only [execOp, ho]
    obtain ⟨u, u1, u2⟩ := field_ok (w := w) h1 (hev _ _ ha)
    exact OpTo.value r u1 u2
  case h_21 t x i ho =>
    obtain ⟨a, ha, hq1⟩ := Res.bind_ok hq
    obtain ⟨b, hb, hq2⟩ := Res.bind_ok hq1
    obtain ⟨h1, rfl⟩ := pureV_ok hq2
    simp only [execOp, ho]
    obtain ⟨u, u1, u2⟩ := indexAddr_ok (w := w) h1 (hev _ _ ha) (hev _ _ hb)
    exact OpTo.value r u1 u2
  case h_22 t x i ho =>
    obtain ⟨a, ha, hq1⟩ := Res.bind_ok hq
    obtain ⟨b, hb, hq2⟩ := Res.bind_ok hq1
    obtain ⟨h1, rfl⟩ := pureV_ok hq2
    simp only [execOp, ho]
    obtain ⟨u, u1, u2⟩ := index_ok (w := w) h1 (hev _ _ ha) (hev _ _ hb)
    exact OpTo.value r u1 u2
  case h_23 t x k cok ho =>
    obtain ⟨a, ha, hq1⟩ := Res.bind_ok hq
    obtain ⟨b, hb, hq2⟩ := Res.bind_ok hq1
    obtain ⟨h1, rfl⟩ := pureV_ok hq2
    simp only [execOp, ho]
    obtain ⟨u, u1, u2⟩ := lookup_ok ok r h1 (hev _ _ ha) (hev _ _ hb)
    exact OpTo.value r u1 u2
  case h_24 t m k x ho =>
    obtain ⟨a, ha, hq1⟩ := Res.bind_ok hq
    obtain ⟨b, hb, hq2⟩ := Res.bind_ok hq1
    obtain ⟨y, hy, hq3⟩ := Res.bind_ok hq2
    obtain ⟨hh, hm, hq4⟩ := Res.bind_ok hq3
    cases hq4
    obtain ⟨w', s1, s2, s3⟩ := mapUpdate_ok ok r hm (hev _ _ ha) (hev _ _ hb) (hev _ _ hy)
    exact ⟨undef, w', .inr ⟨by simp [execOp, ho, s1], rfl⟩, ι, ⟨_, rfl, rfl⟩, s2, s3⟩
  case h_25 x i ho =>
    obtain ⟨a, ha, hq1⟩ := Res.bind_ok hq
    obtain ⟨h1, rfl⟩ := pureV_ok hq1
    simp only [execOp, ho]
    obtain ⟨u, u1, u2⟩ := extract_ok (w := w) h1 (hev _ _ ha)
    exact OpTo.value r u1 u2
  case h_26 x ho =>
    split at hq
    · rename_i b hb
      obtain ⟨args, ha, hq1⟩ := Res.bind_ok hq
      obtain ⟨cs, he⟩ : ∃ cs, execOp ev o = builtin b x.argTypes o.type cs (x.args.map ev) := by
        refine ⟨x.args.map fun | .const _ => true | _ => false, ?_⟩
        simp only [execOp, ho, resolve, hb]
        rfl
      rw [he]
      exact builtin_ok ok r hq1 (by simpa using opnds_ok hev _ _ ha) fr
    · cases hq
  case h_27 => cases hq
end
end Go.Proofs.Ytbnlhhfobgjeaaa
