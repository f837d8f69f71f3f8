/-
  A part of the proof of WorldHarms, over the seat YthobdlehakbkaaaGreatDoor: for every input the law returns true, and the input reads as it did.
-/
import Derived.Test.YthobdlehakbkaaaGreatDoorGe
set_option linter.all false
set_option linter.all false
namespace Go.Proofs.YthobdlehakbkaaaGreatDoor
open Go Go.RowKit

def insR1 (vs : List AVal) (i : Nat) (x : List AVal) : List AVal := if i = 0 then x ++ vs else vs ++ x
/-- slices.Insert(s, i, x), elements of sz cells; `one`: into a slice of one element, too -/
def insKP (sz : Nat) (one : Bool) : Prim := fun args h =>
  match args with
  | [.nils, .int .i64 i, .sl q 0 1] => if i = 0 then match h.get q with
    | some (.row e false x) => if e = sz ∧ x.length = e then .ok (.sl (h.next + 9) 0 1, (h.bump 9).push (.row e true x)) else .err 416
    | _ => .err 410
    else .err 411
  | [.sl o 0 1, .int .i64 i, .sl q 0 1] => if q = o ∨ i < 0 ∨ 1 < i ∨ one = false then .err 412 else match h.get o, h.get q with
    | some (.row e _ vs), some (.row e' false x) => if e = sz ∧ e' = e ∧ x.length = e ∧ e ≤ vs.length then .ok (.sl (h.next + 9) 0 2, ((h.bump 9).del o).push (.row e true (insR1 (vs.take e) i.toNat x))) else .err 413
    | _, _ => .err 414
  | _ => .err 415
/-- what a run with a known capacity leads to -/
def InsQK (sz : Nat) (h : AHeap) (o n cap : Nat) (row : List AVal) (v : AVal) (h' : AHeap) : Prop :=
  h'.next ≤ h.next + 8 ∧ (∀ p, p < h.next → p ≠ o → h'.get p = h.get p) ∧
    ((∃ fz D, v = .slc o 0 (n + 1) cap ∧ n + 1 ≤ cap ∧ h'.get o = some (.row sz fz (row ++ D))) ∨ ∃ p fz, h.next ≤ p ∧ v = .sl p 0 (n + 1) ∧ h'.get p = some (.row sz fz row))

/-- the end of it: from the run's state to that which is told -/
theorem insK_end {sz : Nat} {F : Fix} {ι : Inj} {h h1 h1' : AHeap} {w w' : World} {o n cap : Nat} {row : List AVal} {v1 : AVal} {u : Value}
    (r : Rel F ι h w) (hown : ∀ b, Own ι h1 b → Own ι h b) (hnx : h1.next = h.next) (hfr : Fresh ι h.next (h.next + 10))
    (hsame : ∀ p, p ≠ o → h1.get p = h.get p) (hsl : ∀ a b c, v1 = .slc o a b c → ∃ e, ι o = some e ∧ e.K = cap * sz)
    (hQ : InsQK sz h1 o n cap row v1 h1') (hout : Out F ι h1 w v1 h1' u w') {h' : AHeap} (hh' : ∀ p, h'.get p = if p = h.next + 9 then some (.row sz true row) else if p = o then none else h.get p) (hn' : h'.next = h.next + 10) :
    Out F ι h w (.sl (h.next + 9) 0 (n + 1)) h' u w' := by
  obtain ⟨q1, q2, q3⟩ := hQ
  obtain ⟨ι', v2, r2, st⟩ := hout
  rw [hnx] at q1 q2 q3
  have hN : ι' (h.next + 9) = none := by
    rcases st.dom (h.next + 9) with h0 | h0 | ⟨_, h0⟩
    · exact h0
    · rw [← h0]; exact hfr _ (by omega) (by omega)
    · omega
  -- where the result lies
  obtain ⟨p, e, p1, p2, p3, p4, p5, p6⟩ : ∃ p e, (∃ y, h1'.get p = some y) ∧ ι' p = some e ∧ (p = o ∨ h.next ≤ p) ∧ F.N ≤ e.blk ∧ ObjRel ι' F.ρ w' e (.row sz true row) ∧
      VRel (upd ι' (h.next + 9) e) F.ρ (.sl (h.next + 9) 0 (n + 1)) u := by
    rcases q3 with ⟨fz, D, rfl, hc, q4⟩ | ⟨p, fz, hp, rfl, q4⟩
    · obtain ⟨e, i1, i2, i3⟩ := r2.obj _ _ q4
      obtain ⟨e', x, j1, rfl, j3, j4⟩ := v2
      rw [i1] at j1; cases j1
      obtain ⟨e0, k1, k2⟩ := hsl _ _ _ rfl
      have := st.sub _ _ k1
      rw [i1] at this; cases this
      refine ⟨o, e, ⟨_, q4⟩, i1, .inl rfl, i2, i3.cut, ⟨e, x, cap, upd_self _ _ _, rfl, ?_, j3, by simpa using j4⟩⟩
      obtain ⟨_, _, _, _, g2, _⟩ := i3
      rw [g2, Nat.add_zero]; exact k2.symm
    · obtain ⟨e, i1, i2, i3⟩ := r2.obj _ _ q4
      obtain ⟨e', x, cap', j1, rfl, j2, j3, j4⟩ := v2
      rw [i1] at j1; cases j1
      exact ⟨p, e, ⟨_, q4⟩, i1, .inr hp, i2, ObjRel.cut (D := []) (by rw [List.append_nil]; exact i3), ⟨e, x, cap', upd_self _ _ _, rfl, j2, j3, j4⟩⟩
  obtain ⟨y, p1⟩ := p1
  have hs := upd_sub e hN
  -- the objects
  have hobj : ∀ k z, h'.get k = some z → (k = h.next + 9 ∧ z = .row sz true row) ∨ (k ≠ h.next + 9 ∧ k ≠ o ∧ k < h.next ∧ h.get k = some z ∧ h1'.get k = some z) := by
    intro k z hk
    rw [hh'] at hk
    split at hk
    · rename_i hk'; cases hk; exact .inl ⟨hk', rfl⟩
    · split at hk
      · cases hk
      · rename_i hk1 hk2
        have hlt := r.lt _ _ hk
        exact .inr ⟨hk1, hk2, hlt, hk, by rw [q2 k hlt hk2, hsame k hk2]; exact hk⟩
  refine ⟨upd ι' (h.next + 9) e, p6, ⟨r2.below, ?_, ?_, ?_⟩, ⟨st.sub.trans hs, ?_, by omega, ?_, ?_⟩⟩
  · intro k z hk
    rcases hobj k z hk with ⟨rfl, rfl⟩ | ⟨k1, k2, k3, k4, k5⟩
    · exact ⟨e, upd_self _ _ _, p4, p5.mono hs rfl⟩
    · obtain ⟨f, f1, f2, f3⟩ := r2.obj _ _ k5
      exact ⟨f, hs _ _ f1, f2, f3.mono hs rfl⟩
  · intro k k' z z' f f' hk hk' hf hf' hb
    rcases hobj k z hk with ⟨rfl, rfl⟩ | ⟨k1, k2, k3, k4, k5⟩ <;> rcases hobj k' z' hk' with ⟨h6, h7⟩ | ⟨j1, j2, j3, j4, j5⟩
    · exact h6.symm
    · exfalso
      rw [upd_self] at hf; cases hf
      obtain ⟨g, g1, _, _⟩ := r2.obj _ _ j5
      have := hs _ _ g1; rw [hf'] at this; cases this
      have := r2.inj _ _ _ _ _ _ p1 j5 p2 g1 hb
      rcases p3 with p3 | p3
      · exact j2 (by rw [← this, p3])
      · omega
    · exfalso
      subst h6
      rw [upd_self] at hf'; cases hf'
      obtain ⟨g, g1, _, _⟩ := r2.obj _ _ k5
      have := hs _ _ g1; rw [hf] at this; cases this
      have := r2.inj _ _ _ _ _ _ p1 k5 p2 g1 hb.symm
      rcases p3 with p3 | p3
      · exact k2 (by rw [← this, p3])
      · omega
    · obtain ⟨g, g1, _, _⟩ := r2.obj _ _ k5
      have e1 := hs _ _ g1; rw [hf] at e1; cases e1
      obtain ⟨g', g1', _, _⟩ := r2.obj _ _ j5
      have e2 := hs _ _ g1'; rw [hf'] at e2; cases e2
      exact r2.inj _ _ _ _ _ _ k5 j5 g1 g1' hb
  · intro k z hk
    rcases hobj k z hk with ⟨rfl, rfl⟩ | ⟨k1, k2, k3, k4, k5⟩
    · omega
    · omega
  · intro k
    by_cases hk : k = h.next + 9
    · subst hk; right; right; omega
    · unfold upd
      rw [if_neg hk]
      rcases st.dom k with h0 | h0 | ⟨h0, h2⟩
      · exact .inl h0
      · exact .inr (.inl h0)
      · exact .inr (.inr ⟨by omega, by omega⟩)
  · exact st.keep.mono fun j _ hj => hown j hj
  · rintro b ⟨k, z, f, hk, hf, rfl⟩
    have key : Own ι' h1' f.blk := by
      rcases hobj k z hk with ⟨rfl, rfl⟩ | ⟨k1, k2, k3, k4, k5⟩
      · rw [upd_self] at hf; cases hf; exact ⟨p, y, e, p1, p2, rfl⟩
      · obtain ⟨g, g1, _, _⟩ := r2.obj _ _ k5
        have e1 := hs _ _ g1; rw [hf] at e1; cases e1
        exact ⟨k, z, f, k5, g1, rfl⟩
    exact (st.own _ key).imp (hown _) id

/-- the primitive is sound -/
theorem insK_ok {sz : Nat} {one : Bool} {cI : Cfg} (S : SureC cI) (F : Fix) (hP : F.c.P = cI.P) (ok : F.Ok) (f : Nat)
    (run : ∀ (h : AHeap) (o q cap i : Nat) (vs D x : List AVal) (fz : Bool), one = true → h.get o = some (.row sz fz (vs ++ D)) → vs.length = sz → sz + D.length = cap * sz → h.get q = some (.row sz false x) → x.length = sz → q ≠ o → o < h.next → q < h.next → i ≤ 1 → 1 ≤ cap →
      Ev { cI with ro := F.c.ro } f [.slc o 0 1 cap, .int .i64 i, .sl q 0 1] h (InsQK sz h o 1 cap (insR1 vs i x)))
    (run0 : ∀ (h : AHeap) (q : Nat) (x : List AVal), h.get q = some (.row sz false x) → x.length = sz → q < h.next →
      Ev { cI with ro := F.c.ro } f [.nils, .int .i64 0, .sl q 0 1] h (InsQK sz h (h.next + 8) 0 0 x)) :
    ∀ args h v h', insKP sz one args h = .ok (v, h') → h.next ≤ h'.next ∧
      ∀ ι w (av : Array Value), Rel F ι h w → VRels ι F.ρ args av.toList → Fresh ι h.next h'.next → CallTo F.c.P f av w (Out F ι h w v h') := by
  intro args h v h' hq
  unfold insKP at hq
  split at hq
  · rename_i i q
    split at hq
    rotate_left; · cases hq
    rename_i hi; subst hi
    split at hq
    rotate_left; · cases hq
    rename_i ez x hgq
    split at hq
    rotate_left; · cases hq
    rename_i hcnd
    obtain ⟨rfl, hxl⟩ := hcnd
    cases hq
    refine ⟨by simp; omega, fun ι w av r ha fr => ?_⟩
    obtain ⟨k, v1, h1', e1, e2⟩ := run0 h q x hgq hxl (r.lt _ _ hgq)
    obtain ⟨_, _, hC⟩ := sound (S.sureF F ok hP) k
    obtain ⟨n1, hc⟩ := hC _ _ _ _ _ e1
    have fr' : Fresh ι h.next (h.next + 10) := fr
    have hto := hc ι w av (Rel.cast (F := F) rfl rfl r) ha (fr'.left (by have := e2.1; omega))
    have conv : ∀ u w', Out { F with c := { cI with ro := F.c.ro } } ι h w v1 h1' u w' → Out F ι h w (.sl (h.next + 9) 0 1) ((h.bump 9).push (.row ez true x)) u w' := by
      intro u w' ⟨ι', o1, o2, o3⟩
      refine insK_end (n := 0) (o := h.next + 8) (cap := 0) r (fun b hb => hb) rfl fr' (fun _ _ => rfl) (fun a b c hv => ?_) e2 ⟨ι', o1, Rel.cast (F := { F with c := { cI with ro := F.c.ro } }) (F' := F) rfl rfl o2, o3⟩ (fun p => ?_) rfl
      · exfalso
        rcases e2.2.2 with ⟨fz, D, _, hc0, _⟩ | ⟨p, fz, _, hv2, _⟩
        · omega
        · rw [hv2] at hv; cases hv
      · rw [AHeap.get_push]
        show (if p = h.next + 9 then some (AObj.row ez true x) else h.get p) = _
        by_cases h9 : p = h.next + 9
        · rw [if_pos h9, if_pos h9]
        · rw [if_neg h9, if_neg h9]
          by_cases h8 : p = h.next + 8
          · rw [if_pos h8, h8]
            cases hg : h.get (h.next + 8) with
            | none => rfl
            | some z => have := r.lt _ _ hg; omega
          · rw [if_neg h8]
    rcases hto with ⟨u, w', c1, c2⟩ | ⟨c1, c2⟩
    · exact .inl ⟨u, w', by rw [hP]; exact c1, conv _ _ c2⟩
    · refine .inr ⟨by rw [hP]; exact c1, ?_⟩
      rw [hP]
      refine Calls.mono c2 fun e w' he => ?_
      cases e with
      | returned u => exact conv _ _ he
      | panicked _ => exact he.elim
      | outgrown => exact he.elim
  · rename_i o i q
    split at hq
    · cases hq
    rename_i hcond
    obtain ⟨c1, c2, c3, hone⟩ : q ≠ o ∧ 0 ≤ i ∧ i ≤ 1 ∧ one = true := ⟨fun e => hcond (.inl e), by omega, by omega, by cases one <;> simp_all⟩
    obtain ⟨j, rfl⟩ : ∃ j : Nat, i = j := ⟨i.toNat, by omega⟩
    split at hq
    rotate_left; · cases hq
    rename_i ez fz vs ez' x hgo hgq
    split at hq
    rotate_left; · cases hq
    rename_i hlen
    obtain ⟨rfl, rfl, hxl, hlen⟩ := hlen
    cases hq
    refine ⟨by simp; omega, fun ι w av r ha fr => ?_⟩
    obtain ⟨v1, _, hav, a1, v2, _, rfl, a2, v3, _, rfl, a3, a4⟩ := ha
    simp only [VRels] at a4; subst a4
    obtain ⟨en, xo, cap, hen, rfl, hcap, hlc, hxo⟩ := a1
    obtain ⟨en', g1, gN, g⟩ := r.obj _ _ hgo
    rw [hen] at g1; cases g1
    have hez : en.esz = ez' := by obtain ⟨_, _, _, _, g2, _⟩ := g; exact g2
    have hK : en.K = cap * ez' := by rw [hez] at hcap; omega
    have hvl : vs.length ≤ cap * ez' := by obtain ⟨_, _, _, _, _, _, g4, _⟩ := g; rw [← hK]; exact g4
    have hfill := g.fill
    rw [hK, ← List.take_append_drop ez' vs, List.append_assoc, List.take_append_drop] at hfill
    obtain ⟨D, hD⟩ : ∃ D, D = vs.drop ez' ++ List.replicate (cap * ez' - vs.length) AVal.dead := ⟨_, rfl⟩
    rw [← hD] at hfill
    have hDl : ez' + D.length = cap * ez' := by rw [hD]; simp; omega
    have htl : (vs.take ez').length = ez' := by simp; omega
    obtain ⟨r1, st1⟩ := r.set (.row ez' fz (vs.take ez' ++ D)) hgo hen (Keep.refl _ w) hfill
    obtain ⟨h1, hh1⟩ : ∃ h1, h1 = h.set o (.row ez' fz (vs.take ez' ++ D)) := ⟨_, rfl⟩
    rw [← hh1] at r1 st1
    have hn1 : h1.next = h.next := by rw [hh1]; rfl
    have hg1o : h1.get o = some (.row ez' fz (vs.take ez' ++ D)) := by rw [hh1, AHeap.get_set, if_pos rfl]
    have hg1 : ∀ p, p ≠ o → h1.get p = h.get p := fun p hp => by rw [hh1, AHeap.get_set, if_neg hp]
    have hg1q := hg1 q c1
    rw [hgq] at hg1q
    obtain ⟨k, v1, h1', e1, e2⟩ := run h1 o q cap j (vs.take ez') D x fz hone hg1o htl hDl hg1q hxl c1 (by rw [hn1]; exact r.lt _ _ hgo) (by rw [hn1]; exact r.lt _ _ hgq) (by omega) hlc
    obtain ⟨_, _, hC⟩ := sound (S.sureF F ok hP) k
    obtain ⟨n1, hc⟩ := hC _ _ _ _ _ e1
    have fr' : Fresh ι h.next (h.next + 10) := fr
    have hown : ∀ b, Own ι h1 b → Own ι h b := by
      rintro b ⟨p, z, e, p1, p2, rfl⟩
      by_cases hp : p = o
      · subst hp; exact ⟨p, _, e, hgo, p2, rfl⟩
      · rw [hg1 p hp] at p1; exact ⟨p, z, e, p1, p2, rfl⟩
    have hto := hc ι w av (Rel.cast (F := F) rfl rfl r1) (by rw [hav]; exact ⟨_, _, rfl, ⟨en, xo, hen, rfl, hlc, by simpa using hxo⟩, _, _, rfl, a2, _, _, rfl, a3, rfl⟩) (by rw [hn1]; exact fr'.left (by have := e2.1; omega))
    have conv : ∀ u w', Out { F with c := { cI with ro := F.c.ro } } ι h1 w v1 h1' u w' → Out F ι h w (.sl (h.next + 9) 0 2) (((h.bump 9).del o).push (.row ez' true (insR1 (vs.take ez') j x))) u w' := by
      intro u w' ⟨ι', o1, o2, o3⟩
      refine insK_end (o := o) (cap := cap) r hown hn1 fr' hg1 (fun a b c _ => ⟨en, hen, hK⟩) e2 ⟨ι', o1, Rel.cast (F := { F with c := { cI with ro := F.c.ro } }) (F' := F) rfl rfl o2, o3⟩ (fun p => ?_) rfl
      rw [AHeap.get_push]
      show (if p = h.next + 9 then some (AObj.row ez' true (insR1 (vs.take ez') j x)) else ((h.bump 9).del o).get p) = _
      rw [AHeap.get_del]
      rfl
    rw [Int.toNat_natCast]
    rcases hto with ⟨u, w', c1, c2⟩ | ⟨c1, c2⟩
    · exact .inl ⟨u, w', by rw [hP]; exact c1, conv _ _ c2⟩
    · refine .inr ⟨by rw [hP]; exact c1, ?_⟩
      rw [hP]
      refine Calls.mono c2 fun e w' he => ?_
      cases e with
      | returned u => exact conv _ _ he
      | panicked _ => exact he.elim
      | outgrown => exact he.elim
  · cases hq
end Go.Proofs.YthobdlehakbkaaaGreatDoor
