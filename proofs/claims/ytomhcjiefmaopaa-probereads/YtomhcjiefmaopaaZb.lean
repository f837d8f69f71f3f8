/-
  A part of the proof of ProbeReads, over the seat Ytomhcjiefmaopaa: for every input the law returns true, and the input reads as it did.
-/
import Derived.Test.YtomhcjiefmaopaaZa
set_option linter.all false
namespace Go.Proofs.Ytomhcjiefmaopaa
open Go Go.RowKit

section
variable {F : Fix} {ι : Inj} {h : AHeap} {w : World}

theorem bound_ok {x : AVal} {xv : Value} {y n : Nat} {cd : BoundsCode} (hq : boundR x y = .ok n) (hx : VRel ι F.ρ x xv) : (Instr.sliceBound xv y cd).run F.c.P w = .ok n w ∧ n ≤ y := by
  unfold boundR at hq
  split at hq
  · simp only [VRel] at hx; subst hx
    split at hq
    · rename_i hi; cases hq
      refine ⟨?_, by omega⟩
      simp only [Instr.sliceBound, asIntOf, Sem.run_bind, Sem.run_pure, Result.andThen_ok, if_pos hi]
    · cases hq
  · cases hq

def OptV (ι : Inj) (ρ : RoMap) : Option AVal → Option Value → Prop
  | none, none => True
  | some a, some v => VRel ι ρ a v
  | _, _ => False

theorem bounds2_ok {len top l hh : Nat} {lo hi : Option AVal} {lov hiv : Option Value} {isS : Bool} (hq : bounds2 len top lo hi = .ok (l, hh)) (h1 : OptV ι F.ρ lo lov) (h2 : OptV ι F.ρ hi hiv) (hlt : len ≤ top) (cap : Nat) (hc : top ≤ cap) :
    (Instr.sliceBounds isS len cap lov hiv none).run F.c.P w = .ok (l, hh, cap) w ∧ l ≤ hh ∧ hh ≤ top := by
  unfold bounds2 at hq
  obtain ⟨hv, e1, hq⟩ := Res.bind_ok hq
  obtain ⟨lv, e2, hq⟩ := Res.bind_ok hq
  cases hq
  have hb : ∀ {x : AVal} {xv : Value} {y n : Nat} {cd : BoundsCode} (z : Nat), boundR x y = .ok n → VRel ι F.ρ x xv → y ≤ z → (Instr.sliceBound xv z cd).run F.c.P w = .ok n w := by
    intro x xv y n cd z hq hx hyz
    unfold boundR at hq
    split at hq
    · simp only [VRel] at hx; subst hx
      split at hq
      · rename_i hi; cases hq
        simp only [Instr.sliceBound, asIntOf, Sem.run_bind, Sem.run_pure, Result.andThen_ok]
        rw [if_pos ⟨hi.1, by omega⟩]; rfl
      · cases hq
    · cases hq
  have hh1 : hh ≤ top ∧ ∀ cd, (match hiv with | some v => Instr.sliceBound v cap cd | none => pure len : Sem Nat).run F.c.P w = .ok hh w := by
    cases hi with
    | none => cases hiv with
      | none => cases e1; exact ⟨hlt, fun _ => rfl⟩
      | some _ => exact h2.elim
    | some a => cases hiv with
      | none => exact h2.elim
      | some v => exact ⟨(bound_ok (w := w) (cd := .index) e1 h2).2, fun cd => hb cap e1 h2 hc⟩
  have hl1 : l ≤ hh ∧ ∀ cd, (match lov with | some v => Instr.sliceBound v hh cd | none => pure 0 : Sem Nat).run F.c.P w = .ok l w := by
    cases lo with
    | none => cases lov with
      | none => cases e2; exact ⟨Nat.zero_le _, fun _ => rfl⟩
      | some _ => exact h1.elim
    | some a => cases lov with
      | none => exact h1.elim
      | some v => exact ⟨(bound_ok (w := w) (cd := .index) e2 h1).2, fun cd => (bound_ok e2 h1).1⟩
  refine ⟨?_, hl1.1, hh1.1⟩
  cases hiv with
  | none =>
    have a1 := hh1.2 .index
    cases lov with
    | none =>
      have a2 := hl1.2 .index
      simp only [Sem.run_pure] at a1 a2; cases a1; cases a2
      simp [Instr.sliceBounds]
    | some v =>
      have a2 := hl1.2 .sliceB
      simp only [Sem.run_pure] at a1; cases a1
      simp only at a2
      simp [Instr.sliceBounds, a2]
  | some u =>
    have a1 := hh1.2 (if isS then .sliceAcap else .sliceAlen)
    simp only at a1
    cases lov with
    | none =>
      have a2 := hl1.2 .index
      simp only [Sem.run_pure] at a2; cases a2
      simp [Instr.sliceBounds, a1]
    | some v =>
      have a2 := hl1.2 .sliceB
      simp only at a2
      simp [Instr.sliceBounds, a1, a2]

theorem bounds3_ok {top l hh m : Nat} {lo : Option AVal} {hi mx : AVal} {lov : Option Value} {hiv mv : Value} {len cap : Nat} (hq : bounds3 top lo hi mx = .ok (l, hh, m)) (h1 : OptV ι F.ρ lo lov) (h2 : VRel ι F.ρ hi hiv) (h3 : VRel ι F.ρ mx mv) (hc : top ≤ cap) :
    (Instr.sliceBounds true len cap lov (some hiv) (some mv)).run F.c.P w = .ok (l, hh, m) w ∧ l ≤ hh ∧ hh ≤ m ∧ m ≤ top := by
  unfold bounds3 at hq
  obtain ⟨m', e0, hq⟩ := Res.bind_ok hq
  obtain ⟨hv, e1, hq⟩ := Res.bind_ok hq
  obtain ⟨lv, e2, hq⟩ := Res.bind_ok hq
  cases hq
  have b0 : ∀ cd, (Instr.sliceBound mv cap cd).run F.c.P w = .ok m w := by
    intro cd
    unfold boundR at e0
    split at e0
    · simp only [VRel] at h3; subst h3
      split at e0
      · rename_i hi; cases e0
        simp only [Instr.sliceBound, asIntOf, Sem.run_bind, Sem.run_pure, Result.andThen_ok]
        rw [if_pos ⟨hi.1, by omega⟩]; rfl
      · cases e0
    · cases e0
  have m0 := (bound_ok (w := w) (cd := .index) e0 h3).2
  have b1 := fun cd => (bound_ok (w := w) (cd := cd) e1 h2).1
  have m1 := (bound_ok (w := w) (cd := .index) e1 h2).2
  cases lo with
  | none => cases lov with
    | none => cases e2; exact ⟨by simp [Instr.sliceBounds, b0, b1], Nat.zero_le _, m1, m0⟩
    | some _ => exact h1.elim
  | some a => cases lov with
    | none => exact h1.elim
    | some v =>
      have b2 := fun cd => (bound_ok (w := w) (cd := cd) e2 h1).1
      exact ⟨by simp [Instr.sliceBounds, b0, b1, b2], (bound_ok (w := w) (cd := .index) e2 h1).2, m1, m0⟩

theorem slcOf_ok {o off size l hh m cap : Nat} {e : Ent} {x : Nat} (he : ι o = some e) (hx : x = e.base + off ∨ cap = 0) (hlh : l ≤ hh) (hm : hh ≤ m) (hmc : m ≤ cap) :
    VRel ι F.ρ (slcOf o off size l hh m) (.slice (if m = l then some ⟨e.blk, x, none⟩ else some ((⟨e.blk, x, none⟩ : Addr).add (l * size))) (hh - l) (m - l)) := by
  unfold slcOf
  by_cases hml : m = l
  · subst hml
    have : hh = m := by omega
    subst this
    simp only [if_true, Nat.sub_self]
    exact ⟨e, x, he, rfl, Nat.le_refl _, .inr rfl⟩
  · simp only [hml, if_false, add_none]
    refine ⟨e, x + l * size, he, rfl, by omega, ?_⟩
    rcases hx with hx | hx
    · left; omega
    · omega

theorem sliceSl_ok (r : Rel F ι h w) {t el size : Nat} {x res : AVal} {xv : Value} {lo hi mx : Option AVal} {lov hiv mv : Option Value} (hu : F.c.P.underlying t = some (.slice el)) (hs : sizeR F.c.P el = .ok size)
    (hq : sliceSl h size x lo hi mx = .ok res) (hx : VRel ι F.ρ x xv)
    (h1 : OptV ι F.ρ lo lov) (h2 : OptV ι F.ρ hi hiv) (h3 : OptV ι F.ρ mx mv) : ∃ v, (Instr.sliceAt t xv lov hiv mv).run F.c.P w = .ok v w ∧ VRel ι F.ρ res v := by
  have hs' := fun w => run_size hs w
  match x, mx, mv, hq, hx, h3 with
  | .nils, none, none, hq, hx, _ =>
    obtain ⟨b, hb, hq⟩ := Res.bind_ok hq
    cases hq
    simp only [VRel] at hx; subst hx
    obtain ⟨b1, b2, b3⟩ := bounds2_ok (w := w) (isS := true) hb h1 h2 (Nat.le_refl _) 0 (Nat.le_refl _)
    have e1 : b.1 = 0 := by omega
    have e2 : b.2 = 0 := by omega
    refine ⟨.slice none 0 0, ?_, rfl⟩
    simp only [Instr.sliceAt, Instr.slice, Sem.run_bind, run_und hu, Result.andThen_ok, b1, hs', Sem.run_pure, e1, e2, Option.map_none, if_true, Nat.sub_self]
  | .nils, some mo, some mv, hq, hx, h3 =>
    match hi, hiv, hq, h2 with
    | some hv, some hiv, hq, h2 =>
      obtain ⟨b, hb, hq⟩ := Res.bind_ok hq
      cases hq
      simp only [VRel] at hx; subst hx
      obtain ⟨b1, b2, b3, b4⟩ := bounds3_ok (w := w) (len := 0) (cap := 0) hb h1 h2 h3 (Nat.le_refl _)
      have e3 : b.2.2 = 0 := Nat.le_zero.1 b4
      have e2 : b.2.1 = 0 := by rw [e3] at b3; exact Nat.le_zero.1 b3
      have e1 : b.1 = 0 := by rw [e2] at b2; exact Nat.le_zero.1 b2
      refine ⟨.slice none 0 0, ?_, rfl⟩
      simp only [Instr.sliceAt, Instr.slice, Sem.run_bind, run_und hu, Result.andThen_ok, b1, hs', Sem.run_pure, e1, e2, e3, if_true, Nat.sub_self]
    | none, _, hq, _ => cases hq
    | some _, none, _, h2 => exact h2.elim
  | .sl o off len, none, none, hq, hx, _ =>
    obtain ⟨n, hn, hq⟩ := Res.bind_ok hq
    obtain ⟨b, hb, hq⟩ := Res.bind_ok hq
    cases hq
    obtain ⟨e, xo, cap, he, rfl, hcap, hlen, hxo⟩ := hx
    have hroom : n ≤ cap ∧ e.esz = size := by
      unfold roomOf at hn
      split at hn
      · rename_i ez fz vs ho
        split at hn
        · rename_i hez
          cases hn
          obtain ⟨e', g1, _, g⟩ := r.obj o _ ho
          rw [he] at g1; cases g1
          obtain ⟨c, T, fr, _, g2, _, g4, _⟩ := g
          rw [g2, hez.1] at hcap
          have hpos : 0 < size := Nat.pos_of_ne_zero hez.2
          refine ⟨?_, g2.trans hez.1⟩
          calc (vs.length - off) / size ≤ (cap * size) / size := Nat.div_le_div_right (by omega)
            _ = cap := Nat.mul_div_cancel _ hpos
        · cases hn
      · cases hn
    obtain ⟨b1, b2, b3⟩ := bounds2_ok (w := w) (isS := true) hb h1 h2 (Nat.le_max_left _ _) cap (Nat.max_le.2 ⟨hlen, hroom.1⟩)
    have b4 : b.2 ≤ cap := Nat.le_trans b3 (Nat.max_le.2 ⟨hlen, hroom.1⟩)
    refine ⟨.slice (if cap = b.1 then some ⟨e.blk, xo, none⟩ else some ((⟨e.blk, xo, none⟩ : Addr).add (b.1 * size))) (b.2 - b.1) (cap - b.1), ?_, ?_⟩
    · simp only [Instr.sliceAt, Instr.slice, Sem.run_bind, run_und hu, Result.andThen_ok, b1, hs', Sem.run_pure, Option.map_some]
    · rw [hroom.2] at hcap
      have hmul : (cap - b.1) * size + b.1 * size = cap * size := by rw [← Nat.add_mul]; congr 1; omega
      by_cases hc : cap = b.1
      · simp only [hc, if_true]
        refine ⟨e, xo, b.1 - b.1, he, rfl, ?_, by omega, by right; omega⟩
        rw [hroom.2, Nat.sub_self, Nat.zero_mul, ← hc]; omega
      · simp only [hc, if_false, add_none]
        refine ⟨e, xo + b.1 * size, cap - b.1, he, rfl, ?_, by omega, ?_⟩
        · rw [hroom.2]; omega
        · left; rcases hxo with hxo | hxo
          · omega
          · omega
  | .rsl ro off len, none, none, hq, hx, _ =>
    obtain ⟨b, hb, hq⟩ := Res.bind_ok hq
    cases hq
    obtain ⟨e, xo, cap, he, rfl, hlen, hxo⟩ := hx
    obtain ⟨b1, b2, b3⟩ := bounds2_ok (w := w) (isS := true) hb h1 h2 (Nat.le_refl _) cap hlen
    refine ⟨.slice (if cap = b.1 then some ⟨e.1, xo, none⟩ else some ((⟨e.1, xo, none⟩ : Addr).add (b.1 * size))) (b.2 - b.1) (cap - b.1), ?_, ?_⟩
    · simp only [Instr.sliceAt, Instr.slice, Sem.run_bind, run_und hu, Result.andThen_ok, b1, hs', Sem.run_pure, Option.map_some]
    · by_cases hc : cap = b.1
      · simp only [hc, if_true]
        exact ⟨e, xo, b.1 - b.1, he, rfl, by omega, by right; omega⟩
      · simp only [hc, if_false, add_none]
        refine ⟨e, xo + b.1 * size, cap - b.1, he, rfl, by omega, ?_⟩
        rcases hxo with hxo | hxo
        · left; omega
        · right; omega
  | .slc o off len cap, none, none, hq, hx, _ =>
    obtain ⟨b, hb, hq⟩ := Res.bind_ok hq
    cases hq
    obtain ⟨e, xo, he, rfl, hlen, hxo⟩ := hx
    obtain ⟨b1, b2, b3⟩ := bounds2_ok (w := w) (isS := true) hb h1 h2 hlen cap (Nat.le_refl _)
    refine ⟨_, ?_, slcOf_ok he hxo b2 b3 (Nat.le_refl _)⟩
    simp only [Instr.sliceAt, Instr.slice, Sem.run_bind, run_und hu, Result.andThen_ok, b1, hs', Sem.run_pure, Option.map_some]
  | .sl o off len, some mo, some mv, hq, hx, h3 =>
    match hi, hiv, hq, h2 with
    | some hv, some hiv, hq, h2 =>
      obtain ⟨b, hb, hq⟩ := Res.bind_ok hq
      cases hq
      obtain ⟨e, xo, cap, he, rfl, hcap, hlen, hxo⟩ := hx
      obtain ⟨b1, b2, b3, b4⟩ := bounds3_ok (w := w) (len := len) (cap := cap) hb h1 h2 h3 hlen
      refine ⟨_, ?_, slcOf_ok he hxo b2 b3 (Nat.le_trans b4 hlen)⟩
      simp only [Instr.sliceAt, Instr.slice, Sem.run_bind, run_und hu, Result.andThen_ok, b1, hs', Sem.run_pure, Option.map_some]
    | none, _, hq, _ => cases hq
    | some _, none, _, h2 => exact h2.elim

theorem slice_ok (r : Rel F ι h w) {t : Nat} {x res : AVal} {xv : Value} {lo hi mx : Option AVal} {lov hiv mv : Option Value} (hq : sliceR F.c h t x lo hi mx = .ok res) (hx : VRel ι F.ρ x xv)
    (h1 : OptV ι F.ρ lo lov) (h2 : OptV ι F.ρ hi hiv) (h3 : OptV ι F.ρ mx mv) : ∃ v, (Instr.sliceAt t xv lov hiv mv).run F.c.P w = .ok v w ∧ VRel ι F.ρ res v := by
  unfold sliceR at hq
  obtain ⟨d, hd, hq⟩ := Res.bind_ok hq
  have hu := undR_ok hd
  match d, hd, hu, hq with
  | .string, hd, hu, hq =>
    match x, mx, mv, hq, hx, h3 with
    | .str s, none, none, hq, hx, _ =>
      obtain ⟨b, hb, hq⟩ := Res.bind_ok hq
      cases hq
      simp only [VRel] at hx; subst hx
      obtain ⟨b1, b2, b3⟩ := bounds2_ok (w := w) (isS := false) hb h1 h2 (Nat.le_refl _) s.length (Nat.le_refl _)
      refine ⟨.string ⟨((s.take b.2).drop b.1).toArray⟩, ?_, rfl⟩
      simp [Instr.sliceAt, Instr.slice, run_und hu, ba_size, b1, ba_extract]
  | .slice el, hd, hu, hq =>
    obtain ⟨size, hs, hq⟩ := Res.bind_ok hq
    exact sliceSl_ok r hu hs hq hx h1 h2 h3
  | .array n el, hd, hu, hq =>
    obtain ⟨size, hs, hq⟩ := Res.bind_ok hq
    have hs' := fun w => run_size hs w
    match x, mx, mv, hq, hx, h3 with
    | .ptr o off, none, none, hq, hx, _ =>
      obtain ⟨b, hb, hq⟩ := Res.bind_ok hq
      cases hq
      obtain ⟨e, he, rfl⟩ := hx
      obtain ⟨b1, b2, b3⟩ := bounds2_ok (w := w) (isS := false) hb h1 h2 (Nat.le_refl _) n (Nat.le_refl _)
      have := slcOf_ok (F := F) (size := size) (x := e.base + off) he (.inl rfl) b2 b3 (Nat.le_refl _)
      refine ⟨_, ?_, this⟩
      simp only [Instr.sliceAt, Instr.sureAddr, Sem.run_bind, run_und hu, Result.andThen_ok, b1, hs', Sem.run_pure]
      congr 2
      split <;> rfl

theorem addOff_ok {x res : AVal} {n : Nat} {xv : Value} (hq : addOff x n = .ok res) (hx : VRel ι F.ρ x xv) : ∃ a, xv = .pointer (some a) ∧ VRel ι F.ρ res (.pointer (some (a.add n))) := by
  unfold addOff at hq
  split at hq
  · cases hq; obtain ⟨e, he, rfl⟩ := hx; exact ⟨_, rfl, e, he, by rw [add_none, Nat.add_assoc]⟩
  · cases hq; obtain ⟨e, he, rfl⟩ := hx; exact ⟨_, rfl, e, he, by rw [add_none, Nat.add_assoc]⟩
  · cases hq

theorem fieldOf_ok {P : Program} {t f : Nat} {fd : Field} (hq : fieldOf P t f = .ok fd) : ∃ fs, P.underlying t = some (.struct fs) ∧ fs[f]? = some fd := by
  unfold fieldOf at hq
  obtain ⟨d, hd, hq⟩ := Res.bind_ok hq
  split at hq
  · exact ⟨_, undR_ok hd, by simpa using ofOpt_ok hq⟩
  · cases hq

theorem fieldAddr_ok {t f : Nat} {x res : AVal} {xv : Value} (hq : fieldAddrR F.c.P t x f = .ok res) (hx : VRel ι F.ρ x xv) : ∃ v, (Instr.fieldAt t xv f).run F.c.P w = .ok v w ∧ VRel ι F.ρ res v := by
  unfold fieldAddrR at hq
  obtain ⟨fd, h1, hq⟩ := Res.bind_ok hq
  obtain ⟨n, h2, hq⟩ := Res.bind_ok hq
  split at hq
  · cases hq
  · rename_i hn
    obtain ⟨fs, hu, hf⟩ := fieldOf_ok h1
    obtain ⟨a, rfl, hr⟩ := addOff_ok hq hx
    exact ⟨_, by simp [Instr.fieldAt, run_und hu, hf, Instr.sureAddr, fieldPlace, run_size h2, hn], hr⟩

theorem field_ok {t f : Nat} {x res : AVal} {xv : Value} (hq : fieldR F.c.P t x f = .ok res) (hx : VRel ι F.ρ x xv) : ∃ v, (Instr.field t xv f).run F.c.P w = .ok v w ∧ VRel ι F.ρ res v := by
  unfold fieldR at hq
  split at hq
  · obtain ⟨fd, h1, hq⟩ := Res.bind_ok hq
    obtain ⟨fs, hu, hf⟩ := fieldOf_ok h1
    obtain ⟨cs, rfl, c1, c2⟩ := hx
    obtain ⟨v, v1, v2⟩ := part_ok (w := w) c1 c2 hq
    exact ⟨v, by simp [Instr.field, run_und hu, hf, asAgg, v1], v2⟩
  · cases hq

theorem idx_ok {i : AVal} {iv : Value} {len n : Nat} (hq : idxNat i len = .ok n) (hi : VRel ι F.ρ i iv) : ∃ k z, iv = .int k z ∧ 0 ≤ z ∧ z < len ∧ n = z.toNat := by
  unfold idxNat at hq
  split at hq
  · split at hq
    · rename_i hz; cases hq; simp only [VRel] at hi; exact ⟨_, _, hi, hz.1, hz.2, rfl⟩
    · cases hq
  · cases hq

theorem indexAddr_ok {t : Nat} {x i res : AVal} {xv iv : Value} (hq : indexAddrR F.c.P t x i = .ok res) (hx : VRel ι F.ρ x xv) (hi : VRel ι F.ρ i iv) : ∃ v, (Instr.indexAt t xv iv).run F.c.P w = .ok v w ∧ VRel ι F.ρ res v := by
  unfold indexAddrR at hq
  obtain ⟨d, hd, hq⟩ := Res.bind_ok hq
  have hu := undR_ok hd
  split at hq
  · rename_i el
    obtain ⟨size, hs, hq⟩ := Res.bind_ok hq
    split at hq
    · obtain ⟨n, hn, hq⟩ := Res.bind_ok hq
      cases hq
      obtain ⟨k, z, rfl, z1, z2, rfl⟩ := idx_ok hn hi
      obtain ⟨e, xo, cap, he, rfl, hcap, hlen, hxo⟩ := hx
      refine ⟨.pointer (some ((⟨e.blk, xo, none⟩ : Addr).add (z.toNat * size))), by simp [Instr.indexAt, run_und hu, asIntOf, run_size hs, z1, z2], e, he, ?_⟩
      rw [add_none]
      rcases hxo with hxo | hxo
      · subst hxo; rw [Nat.add_assoc]
      · omega
    · obtain ⟨n, hn, hq⟩ := Res.bind_ok hq
      cases hq
      obtain ⟨k, z, rfl, z1, z2, rfl⟩ := idx_ok hn hi
      obtain ⟨e, xo, he, rfl, hlen, hxo⟩ := hx
      refine ⟨.pointer (some ((⟨e.blk, xo, none⟩ : Addr).add (z.toNat * size))), by simp [Instr.indexAt, run_und hu, asIntOf, run_size hs, z1, z2], e, he, ?_⟩
      rw [add_none]
      rcases hxo with hxo | hxo
      · subst hxo; rw [Nat.add_assoc]
      · omega
    · obtain ⟨n, hn, hq⟩ := Res.bind_ok hq
      cases hq
      obtain ⟨k, z, rfl, z1, z2, rfl⟩ := idx_ok hn hi
      obtain ⟨e, xo, cap, he, rfl, hlen, hxo⟩ := hx
      refine ⟨.pointer (some ((⟨e.1, xo, none⟩ : Addr).add (z.toNat * size))), by simp [Instr.indexAt, run_und hu, asIntOf, run_size hs, z1, z2], e, he, ?_⟩
      rw [add_none]
      rcases hxo with hxo | hxo
      · subst hxo; rw [Nat.add_assoc]
      · omega
    · cases hq
  · obtain ⟨size, hs, hq⟩ := Res.bind_ok hq
    obtain ⟨n, hn, hq⟩ := Res.bind_ok hq
    obtain ⟨k, z, rfl, z1, z2, rfl⟩ := idx_ok hn hi
    obtain ⟨a, rfl, hr⟩ := addOff_ok hq hx
    exact ⟨_, by simp [Instr.indexAt, run_und hu, asIntOf, run_size hs, Instr.sureAddr, z1, z2], hr⟩
  · cases hq

theorem index_ok {t : Nat} {x i res : AVal} {xv iv : Value} (hq : indexR F.c.P t x i = .ok res) (hx : VRel ι F.ρ x xv) (hi : VRel ι F.ρ i iv) : ∃ v, (Instr.index t xv iv).run F.c.P w = .ok v w ∧ VRel ι F.ρ res v := by
  unfold indexR at hq
  obtain ⟨d, hd, hq⟩ := Res.bind_ok hq
  have hu := undR_ok hd
  split at hq
  · split at hq
    · obtain ⟨n, hn, hq⟩ := Res.bind_ok hq
      obtain ⟨b, hb, hq⟩ := Res.bind_ok hq
      cases hq
      obtain ⟨k, z, rfl, z1, z2, rfl⟩ := idx_ok hn hi
      simp only [VRel] at hx; subst hx
      have hb := ofOpt_ok hb
      exact ⟨_, by simp [Instr.index, run_und hu, asIntOf, z1, ba_get, hb], rfl⟩
    · cases hq
  · split at hq
    · obtain ⟨n, hn, hq⟩ := Res.bind_ok hq
      obtain ⟨size, hs, hq⟩ := Res.bind_ok hq
      obtain ⟨k, z, rfl, z1, z2, rfl⟩ := idx_ok hn hi
      obtain ⟨cs, rfl, c1, c2⟩ := hx
      obtain ⟨v, v1, v2⟩ := part_ok (w := w) c1 c2 hq
      exact ⟨v, by simp [Instr.index, run_und hu, asIntOf, z1, z2, run_size hs, v1], v2⟩
    · cases hq
  · cases hq

theorem extract_ok {x res : AVal} {i : Nat} {xv : Value} (hq : extractR x i = .ok res) (hx : VRel ι F.ρ x xv) : ∃ v, (Instr.extract xv i).run F.c.P w = .ok v w ∧ VRel ι F.ρ res v := by
  unfold extractR at hq
  split at hq
  · obtain ⟨a, rfl, c1⟩ := hx
    obtain ⟨v, v1, v2⟩ := c1.get (nthR_ok hq)
    have : a[i]? = some v := by simpa using v1
    exact ⟨v, by simp [Instr.extract, this], v2⟩
  · cases hq

/-! ### values that are built -/
theorem fill_cells (off : Nat) : ∀ (l : List Value) (j : Nat) (cells : Array Value), off + j + l.length ≤ cells.size →
    ((l.zipIdx j).foldl (fun cs (c, j) => cs.setIfInBounds (off + j) c) cells).toList = cells.toList.take (off + j) ++ l ++ cells.toList.drop (off + j + l.length)
  | [], j, cells, _ => by simp
  | v :: l, j, cells, hl => by
    simp only [List.length_cons] at hl
    have ih := fill_cells off l (j + 1) (cells.setIfInBounds (off + j) v) (by simp; omega)
    simp only [List.zipIdx_cons, List.foldl_cons, ih]
    have e := list_seg_step cells.toList (off + j) v l (by simp; omega)
    simpa [Array.toList_setIfInBounds, Nat.add_assoc] using e

inductive PartsRel (ι : Inj) (ρ : RoMap) : List (Nat × AVal) → List (Nat × Value) → Prop
  | nil : PartsRel ι ρ [] []
  | cons {i : Nat} {a : AVal} {v : Value} {l : List (Nat × AVal)} {m : List (Nat × Value)} : VRel ι ρ a v → PartsRel ι ρ l m → PartsRel ι ρ ((i, a) :: l) ((i, v) :: m)

theorem VRels.over {ρ : RoMap} {vs cs vs' : List AVal} {off : Nat} {c : List Value} {us : List Value} (h : VRels ι ρ vs c) (hov : overR vs off cs = .ok vs') (hu : VRels ι ρ cs us) :
    VRels ι ρ vs' (c.take off ++ us ++ c.drop (off + us.length)) := by
  obtain ⟨b1, rfl⟩ := overR_ok hov
  rw [← hu.length]
  exact ((h.take off).append hu).append (h.drop _)

theorem fill_ok {ρ : RoMap} {place : Nat → Option (Nat × Nat)} : ∀ (parts : List (Nat × AVal)) (pv : List (Nat × Value)) (cells res : List AVal) (cv : Array Value), fillR place cells parts = .ok res → PartsRel ι ρ parts pv →
    VRels ι ρ cells cv.toList → (∀ x ∈ cv.toList, oneC x = true) → ∃ rv, Instr.fill place cv pv = some rv ∧ VRels ι ρ res rv.toList ∧ ∀ x ∈ rv.toList, oneC x = true
  | [], _, cells, res, cv, hq, hp, hc, ho => by
    cases hp; simp [fillR] at hq; subst hq
    exact ⟨cv, rfl, hc, ho⟩
  | (i, a) :: parts, _, cells, res, cv, hq, hp, hc, ho => by
    cases hp with
    | cons hv hp =>
      rename_i v m
      unfold fillR at hq
      obtain ⟨p, h1, hq⟩ := Res.bind_ok hq
      obtain ⟨cs, h2, hq⟩ := Res.bind_ok hq
      split at hq
      rotate_left; · cases hq
      rename_i hlen
      obtain ⟨cells', h3, hq⟩ := Res.bind_ok hq
      obtain ⟨u1, u2⟩ := hv.cells h2
      have hpl := ofOpt_ok h1
      have hl := u1.length
      have hcl := hc.length
      obtain ⟨b1, b2⟩ := overR_ok h3
      have hsz : v.cells.size = p.2 := by simpa using hl.symm.trans hlen
      have hfit : ¬ (p.1 + v.cells.size > cv.size) := by simp at hcl hl; omega
      have hfc := fill_cells p.1 v.cells.toList 0 cv (by simp at hcl hl ⊢; omega)
      have hfa : v.cells.zipIdx.foldl (fun cs (c, j) => cs.setIfInBounds (p.1 + j) c) cv = (cv.toList.take p.1 ++ v.cells.toList ++ cv.toList.drop (p.1 + v.cells.toList.length)).toArray := by
        apply Array.toList_inj.1
        rw [← Array.foldl_toList, Array.toList_zipIdx]
        simpa using hfc
      have hov := hc.over h3 u1
      obtain ⟨rv, r1, r2, r3⟩ := fill_ok parts m cells' res (cv.toList.take p.1 ++ v.cells.toList ++ cv.toList.drop (p.1 + v.cells.toList.length)).toArray hq hp (by simpa using hov) (by
        intro x hx
        simp at hx
        rcases hx with hx | hx | hx
        · exact ho x (List.mem_of_mem_take hx)
        · exact u2 x (by simpa using hx)
        · exact ho x (List.mem_of_mem_drop hx))
      refine ⟨rv, ?_, r2, r3⟩
      simp only [Instr.fill, hpl, hsz, ne_eq, not_true_eq_false, decide_false, Bool.false_or]
      rw [hsz] at hfit
      simp only [hfit, decide_false, Bool.false_eq_true, if_false, hfa]
      exact r1

theorem places_ok {P : Program} {w : World} : ∀ (fs : List Field) (pl : List (Nat × Nat)), placesOf P fs = .ok pl → (fs.mapM fun f => (do pure (f.offset, ← sizeOf f.type) : Sem (Nat × Nat))).run P w = .ok pl w
  | [], pl, hq => by simp [placesOf] at hq; subst hq; simp
  | f :: fs, pl, hq => by
    unfold placesOf at hq
    obtain ⟨n, h1, hq⟩ := Res.bind_ok hq
    obtain ⟨rest, h2, hq⟩ := Res.bind_ok hq
    cases hq
    exact run_mapM_cons f fs _ w (by simp [run_size h1]) (places_ok fs rest h2)

theorem build_ok {t : Nat} {parts : List (Nat × AVal)} {pv : Array (Nat × Value)} {res : AVal} (hq : buildR F.c.P t parts = .ok res) (hp : PartsRel ι F.ρ parts pv.toList) :
    ∃ v, (Instr.build t pv).run F.c.P w = .ok v w ∧ VRel ι F.ρ res v := by
  unfold buildR at hq
  obtain ⟨z, h1, hq⟩ := Res.bind_ok hq
  obtain ⟨zs, h2, hq⟩ := Res.bind_ok hq
  obtain ⟨d, h3, hq⟩ := Res.bind_ok hq
  have hu := undR_ok h3
  obtain ⟨zv, z1, z2⟩ := zeroV_ok (ι := ι) (ρ := F.ρ) h1
  obtain ⟨c1, c2⟩ := z2.cells h2
  split at hq
  · rename_i fs
    obtain ⟨pl, h4, hq⟩ := Res.bind_ok hq
    obtain ⟨cs, h5, hq⟩ := Res.bind_ok hq
    cases hq
    obtain ⟨rv, r1, r2, r3⟩ := fill_ok parts pv.toList zs cs zv.cells h5 hp c1 c2
    have hpl := run_mapM_arr fs (fun f => (do pure (f.offset, ← sizeOf f.type) : Sem (Nat × Nat))) w (places_ok fs.toList pl h4)
    refine ⟨.agg rv, ?_, rv, rfl, r2, r3⟩
    have e : (fun (i : Nat) => pl.toArray[i]?) = fun (i : Nat) => pl[i]? := by funext i; simp
    simp only [Instr.build, Sem.run_bind, z1, Result.andThen_ok, run_und hu, hpl, e, r1, Sem.run_pure]
  · obtain ⟨size, h4, hq⟩ := Res.bind_ok hq
    obtain ⟨cs, h5, hq⟩ := Res.bind_ok hq
    cases hq
    obtain ⟨rv, r1, r2, r3⟩ := fill_ok parts pv.toList zs cs zv.cells h5 hp c1 c2
    refine ⟨.agg rv, ?_, rv, rfl, r2, r3⟩
    simp only [Instr.build, Sem.run_bind, z1, Result.andThen_ok, run_und hu, run_size h4, r1, Sem.run_pure]
  · cases hq
end
end Go.Proofs.Ytomhcjiefmaopaa
namespace Go.Proofs.Ytomhcjiefmaopaa
open Go Go.RowKit

section
variable {P : Program} {w : World}

theorem notMake_ok {x : Option Nat} (hq : notMake P x = .ok ()) : x = none ∨ ∃ t d, x = some t ∧ P.underlying t = some d ∧ ∀ k, d = .int k → False := by
  unfold notMake at hq
  split at hq
  · obtain ⟨d, hd, hq⟩ := Res.bind_ok hq
    refine .inr ⟨_, d, rfl, undR_ok hd, ?_⟩
    rintro k rfl
    cases hq
  · exact .inl rfl

set_option maxHeartbeats 1000000 in
theorem append_in {ts : Array TypeId} {ty t e : Nat} {i : TypeInfo} (h0 : ts[0]? = some t) (hu : P.underlying t = some (.slice e)) (hi : P.info? e = some i) (hn : notMake P ts[1]? = .ok ())
    {a : Addr} {sLen sCap n : Nat} {x : Value} {cs : Array Value} {w' : World} (hl : (Builtin.lenOf x).run P w = .ok n w) (hle : sLen + n ≤ sCap) (hf : (Builtin.firstCells i.size n x).run P w = .ok cs w)
    (hs : (storeCells (a.add (sLen * i.size)) cs.toList).run P w = .ok () w') : (Builtin.append_ ts ty #[.slice (some a) sLen sCap, x]).run P w = .ok (.slice (some a) (sLen + n) sCap) w' := by
  rcases notMake_ok hn with h1 | ⟨u, d, h1, h2, h3⟩
  · simp [Builtin.append_, h0, h1, run_und hu, run_sizeOf' hi, hl, hle, hf, hs]
  · simp [Builtin.append_, h0, h1, run_und hu, run_und h2, run_sizeOf' hi, hl, hle, hf, hs]

set_option maxHeartbeats 1000000 in
theorem append_in_nil {ts : Array TypeId} {ty t e : Nat} {i : TypeInfo} (h0 : ts[0]? = some t) (hu : P.underlying t = some (.slice e)) (hi : P.info? e = some i) (hn : notMake P ts[1]? = .ok ())
    {x : Value} {cs : Array Value} (hl : (Builtin.lenOf x).run P w = .ok 0 w) (hf : (Builtin.firstCells i.size 0 x).run P w = .ok cs w) :
    (Builtin.append_ ts ty #[.slice none 0 0, x]).run P w = .ok (.slice none 0 0) w := by
  rcases notMake_ok hn with h1 | ⟨u, d, h1, h2, h3⟩
  · simp [Builtin.append_, h0, h1, run_und hu, run_sizeOf' hi, hl, hf]
  · simp [Builtin.append_, h0, h1, run_und hu, run_und h2, run_sizeOf' hi, hl, hf]

set_option maxHeartbeats 4000000 in
theorem append_new {ts : Array TypeId} {ty t e : Nat} {i : TypeInfo} (h0 : ts[0]? = some t) (hu : P.underlying t = some (.slice e)) (hi : P.info? e = some i) (hn : notMake P ts[1]? = .ok ())
    {base : Option Addr} {sLen sCap n : Nat} {x : Value} {cs old : Array Value} {z : Value} (hl : (Builtin.lenOf x).run P w = .ok n w) (hle : ¬ sLen + n ≤ sCap) (hb : i.bytes ≠ 0)
    (hroom : ¬ (281474976710656 < Builtin.nextslicecap (sLen + n) sCap * i.bytes)) (hf : ∀ d, (Builtin.firstCells i.size n x).run P { w with drawn := d } = .ok cs { w with drawn := d })
    (ho : ∀ d, (Builtin.firstCells i.size sLen (.slice base sLen sCap)).run P { w with drawn := d } = .ok old { w with drawn := d }) (hz : ∀ w, (zeroValue e).run P w = .ok z w) :
    ∃ newCap, sLen + n ≤ newCap ∧ (Builtin.append_ ts ty #[.slice base sLen sCap, x]).run P w =
      .ok (.slice (some ⟨w.heap.size, 0, none⟩) (sLen + n) newCap) { w with drawn := w.drawn + 1, heap := w.heap.push (.cells (old ++ cs ++ Builtin.zeroCells z.cells (newCap - (sLen + n))) e) } := by
  obtain ⟨nc, hnc, hch⟩ : ∃ nc, sLen + n ≤ nc ∧ (choose (.appendCap (sLen + n) sCap e)).run P w = .ok nc { w with drawn := w.drawn + 1 } := by
    refine ⟨sLen + n + w.tape w.drawn (.appendCap (sLen + n) sCap e) % (2 ^ 63 - (sLen + n)), Nat.le_add_right _ _, ?_⟩
    rw [run_choose, if_neg (by simp [Question.forced])]
    simp only [Question.cut]
  refine ⟨nc, hnc, ?_⟩
  have hf' : (Builtin.firstCells i.size n x).run P w.drew = .ok cs w.drew := hf (w.drawn + 1)
  have ho' : (Builtin.firstCells i.size sLen (.slice base sLen sCap)).run P w.drew = .ok old w.drew := ho (w.drawn + 1)
  have hch' : (choose (.appendCap (sLen + n) sCap e)).run P w = .ok nc w.drew := hch
  have hfin : (Go.newRow e (old ++ (cs ++ Builtin.zeroCells z.cells (nc - (sLen + n))))).run P w.drew =
      .ok ⟨w.heap.size, 0, none⟩ { w with drawn := w.drawn + 1, heap := w.heap.push (.cells (old ++ cs ++ Builtin.zeroCells z.cells (nc - (sLen + n))) e) } := by
    rw [Array.append_assoc]; rfl
  clear hf ho hch
  rcases notMake_ok hn with h1 | ⟨u, d, h1, h2, h3⟩
  · simp [-run_choose, Builtin.append_, h0, h1, run_und hu, run_sizeOf' hi, run_typeInfo' hi, hl, hle, hb, hroom, hch', hf', ho', hz, hfin]
  · simp [-run_choose, Builtin.append_, h0, h1, run_und hu, run_und h2, run_sizeOf' hi, run_typeInfo' hi, hl, hle, hb, hroom, hch', hf', ho', hz, h3, hfin]
end
end Go.Proofs.Ytomhcjiefmaopaa
namespace Go.Proofs.Ytomhcjiefmaopaa
open Go Go.RowKit

section
variable {F : Fix} {ι : Inj} {h : AHeap} {w : World}

theorem CellsAt.list {ρ : RoMap} {b x : Nat} {vs : List AVal} (hc : CellsAt ι ρ w b x vs) :
    ∃ cs : List Value, cs.length = vs.length ∧ (∀ (j : Nat) (v : Value), cs[j]? = some v → w.cell? ⟨b, x + j, none⟩ = some v) ∧ VRels ι ρ vs cs ∧ ∀ v ∈ cs, oneC v = true := by
  induction vs generalizing x with
  | nil => exact ⟨[], rfl, by simp, rfl, by simp⟩
  | cons a as ih =>
    obtain ⟨v, h1, h2, h3⟩ := hc 0 a rfl
    obtain ⟨cs, c1, c2, c3, c4⟩ := ih (x := x + 1) (fun j a' hj => by
      obtain ⟨u, u1, u2⟩ := hc (j + 1) a' (by simpa using hj)
      exact ⟨u, by rw [show x + 1 + j = x + (j + 1) by omega]; exact u1, u2⟩)
    refine ⟨v :: cs, by simp [c1], ?_, ⟨v, cs, rfl, h3, c3⟩, ?_⟩
    · intro j u hj
      cases j with
      | zero => simp at hj; subst hj; simpa using h1
      | succ j => have := c2 j u (by simpa using hj); rw [show x + (j + 1) = x + 1 + j by omega]; exact this
    · intro u hu; rcases List.mem_cons.1 hu with rfl | hu
      · exact h2
      · exact c4 u hu

theorem Rel.cells (r : Rel F ι h w) {o : Nat} {ez : Nat} {fz : Bool} {vs : List AVal} (ho : h.get o = some (.row ez fz vs)) :
    ∃ e, ι o = some e ∧ CellsAt ι F.ρ w e.blk e.base vs ∧ e.esz = ez ∧ vs.length ≤ e.K := by
  obtain ⟨e, g1, _, g⟩ := r.obj o _ ho
  obtain ⟨c, T, fr, a1, a2, a3, a4, a5, a6, a7, a8⟩ := g
  refine ⟨e, g1, fun j a hj => ?_, a2, a4⟩
  obtain ⟨v, v1, v2⟩ := a8 j a hj
  refine ⟨v, by simp [World.cell?, a1, v1], a7 v ?_, v2⟩
  have := Array.getElem?_eq_some_iff.1 v1
  obtain ⟨hlt, rfl⟩ := this
  simp

theorem Rel.roCells (ok : F.Ok) (r : Rel F ι h w) {ro : Nat} {vs : List AVal} (ho : F.c.ro ro = some vs) : ∃ e, F.ρ ro = some e ∧ CellsAt ι F.ρ w e.1 e.2 vs := by
  obtain ⟨e, e1, e2, e3⟩ := ok.ro ro vs ho
  refine ⟨e, e1, fun j a hj => ?_⟩
  obtain ⟨v, v1, v2, v3⟩ := e3 j a hj
  refine ⟨v, ?_, v2, v3.mono (fun _ _ hn => by cases hn)⟩
  rw [← v1]
  exact r.below.cell (p := ⟨e.1, e.2 + j, none⟩) e2

theorem lenA_ok {x : AVal} {n : Nat} {xv : Value} (hq : lenA x = .ok n) (hx : VRel ι F.ρ x xv) : (Builtin.lenOf xv).run F.c.P w = .ok n w := by
  unfold lenA at hq
  split at hq <;> cases hq
  · simp only [VRel] at hx; subst hx; rfl
  · obtain ⟨_, _, _, _, rfl, _⟩ := hx; rfl
  · obtain ⟨_, _, _, rfl, _⟩ := hx; rfl
  · obtain ⟨_, _, _, _, rfl, _⟩ := hx; rfl
  · simp only [VRel] at hx; subst hx; simp [Builtin.lenOf, ba_size]

theorem firstCells_at {ρ : RoMap} {b x size n : Nat} {vs cs : List AVal} (hc : CellsAt ι ρ w b x vs) {off : Nat} (ht : takeR vs off (n * size) = .ok cs) {xo len cap : Nat} (hxo : xo = x + off ∨ n = 0) {P : Program} :
    ∃ arr : Array Value, (∀ d, (Builtin.firstCells size n (.slice (some ⟨b, xo, none⟩) len cap)).run P { w with drawn := d } = .ok arr { w with drawn := d }) ∧ VRels ι ρ cs arr.toList ∧ ∀ v ∈ arr.toList, oneC v = true := by
  obtain ⟨t1, rfl⟩ := takeR_ok ht
  by_cases hn : n = 0
  · subst hn
    refine ⟨#[], fun d => ?_, by simp [VRels], by simp⟩
    simp only [Builtin.firstCells, Nat.zero_mul, loadCells, loadCellsFrom, Sem.run_pure]
  · have hxo : xo = x + off := hxo.resolve_right hn
    subst hxo
    obtain ⟨l, l1, l2, l3, l4⟩ := (hc.sub off (n * size)).list
    have hlen : l.length = n * size := by rw [l1]; simp; omega
    refine ⟨l.toArray, fun d => ?_, by simpa using l3, by simpa using l4⟩
    have := run_loadCells_list (P := P) (w := { w with drawn := d }) ⟨b, x + off, none⟩ l (fun j v hj => by rw [add_none]; exact l2 j v hj)
    rw [hlen] at this
    exact this

theorem firstCells_zero {P : Program} {w : World} {size : Nat} {b : Option Addr} {len cap : Nat} : (Builtin.firstCells size 0 (.slice b len cap)).run P w = .ok #[] w := by
  cases b <;> simp only [Builtin.firstCells, Nat.zero_mul, loadCells, loadCellsFrom, Sem.run_pure]

theorem readSl_ok (ok : F.Ok) (r : Rel F ι h w) {size n len : Nat} {x : AVal} {cs : List AVal} {xv : Value} (hq : readSl F.c h size n x = .ok cs) (hx : VRel ι F.ρ x xv) (hl : lenA x = .ok len) (hn : n ≤ len) :
    ∃ arr : Array Value, (∀ d, (Builtin.firstCells size n xv).run F.c.P { w with drawn := d } = .ok arr { w with drawn := d }) ∧ VRels ι F.ρ cs arr.toList ∧ ∀ v ∈ arr.toList, oneC v = true := by
  unfold readSl at hq
  split at hq
  · split at hq <;> cases hq
    simp only [VRel] at hx; subst hx
    exact ⟨#[], fun d => rfl, rfl, by simp⟩
  · split at hq
    · rename_i hn0; cases hq; subst hn0
      simp only [VRel] at hx
      obtain ⟨e, xo, cap, he, rfl, hcap, hlen, hxo⟩ := hx
      exact ⟨#[], fun d => firstCells_zero, rfl, by simp⟩
    split at hq
    · rename_i o off ln _ ez fz vs ho
      cases hl
      obtain ⟨e, xo, cap, he, rfl, hcap, hlen, hxo⟩ := hx
      obtain ⟨e', g1, g2, _⟩ := r.cells ho
      rw [he] at g1; cases g1
      exact firstCells_at g2 hq (hxo.elim .inl fun h0 => .inr (by omega))
    · cases hq
  · split at hq
    · rename_i hn0; cases hq; subst hn0
      simp only [VRel] at hx
      obtain ⟨e, xo, he, rfl, hlen, hxo⟩ := hx
      exact ⟨#[], fun d => firstCells_zero, rfl, by simp⟩
    split at hq
    · rename_i o off ln cp _ ez fz vs ho
      cases hl
      obtain ⟨e, xo, he, rfl, hlen, hxo⟩ := hx
      obtain ⟨e', g1, g2, _⟩ := r.cells ho
      rw [he] at g1; cases g1
      exact firstCells_at g2 hq (hxo.elim .inl fun h0 => .inr (by omega))
    · cases hq
  · split at hq
    · rename_i hn0; cases hq; subst hn0
      simp only [VRel] at hx
      obtain ⟨e, xo, cap, he, rfl, hlen, hxo⟩ := hx
      exact ⟨#[], fun d => firstCells_zero, rfl, by simp⟩
    split at hq
    · rename_i ro off ln _ vs ho
      cases hl
      obtain ⟨e, xo, cap, he, rfl, hlen, hxo⟩ := hx
      obtain ⟨e', g1, g2⟩ := r.roCells ok ho
      rw [he] at g1; cases g1
      exact firstCells_at g2 hq (hxo.elim .inl fun h0 => .inr (by omega))
    · cases hq
  · rename_i s
    split at hq <;> cases hq
    simp only [VRel] at hx; subst hx
    have harr : (((⟨s.toArray⟩ : ByteArray).extract 0 n).data.map fun b => Value.int .u8 b.toNat).toList = (s.take n).map fun b => Value.int .u8 b.toNat := by
      rw [ba_extract]; simp [List.map_take]
    refine ⟨((⟨s.toArray⟩ : ByteArray).extract 0 n).data.map fun b => .int .u8 b.toNat, fun d => rfl, ?_, ?_⟩
    · rw [harr]
      refine VRels.of_get (by simp) fun j a hj => ?_
      simp only [List.getElem?_map] at hj ⊢
      cases hs : (s.take n)[j]? with
      | none => simp [hs] at hj
      | some b => simp [hs] at hj ⊢; subst hj; rfl
    · intro v hv
      rw [harr] at hv
      obtain ⟨b, _, rfl⟩ := List.mem_map.1 hv
      rfl
  · cases hq

/-- a new row -/
theorem push_row (r : Rel F ι h w) (fr : Fresh ι h.next (h.next + 1)) {cs : List AVal} {c : Array Value} {T : TypeId} {f : Nat × Nat} {esz : Nat} {fz : Bool} (d : Nat) (hl : cs.length ≤ c.size) (hz : fz = false → f = (0, 0)) (hf : f = (0, 0) ∨ c.size ≤ f.1)
    (ho : ∀ v ∈ c.toList, oneC v = true) (hc : ∀ (j : Nat) (a : AVal), cs[j]? = some a → ∃ v, c[j]? = some v ∧ VRel ι F.ρ a v) :
    ∃ ι', ι' h.next = some ⟨w.heap.size, 0, c.size, esz⟩ ∧ Rel F ι' (h.push (.row esz fz cs)) { w with drawn := d, heap := w.heap.push (.cells c T f) } ∧ Step ι h w ι' (h.push (.row esz fz cs)) { w with drawn := d, heap := w.heap.push (.cells c T f) } := by
  have hnone : ι h.next = none := fr _ (Nat.le_refl _) (Nat.lt_succ_self _)
  have := (r.drawn d).push fr (.cells c T f) (.row esz fz cs) ⟨w.heap.size, 0, c.size, esz⟩ rfl ⟨c, T, f, by simp, rfl, by simp, hl, hz, hf, ho, fun j a hj => by
    obtain ⟨v, v1, v2⟩ := hc j a hj
    exact ⟨v, by simpa using v1, v2.mono (upd_sub _ hnone)⟩⟩
  exact ⟨_, upd_self _ _ _, this.1, (Step.drawn ι h w d).trans this.2⟩

theorem nextcap_le (need cap : Nat) (hlt : cap < need) : Builtin.nextslicecap need cap ≤ 2 * need := by
  unfold Builtin.nextslicecap
  split
  · omega
  · split
    · omega
    · have hgrow : ∀ (k c : Nat), 256 ≤ c → c ≤ 2 * need → Builtin.growBy need k c ≤ 2 * need := by
        intro k
        induction k with
        | zero => intro c _ h2; exact h2
        | succ k ih =>
          intro c h1 h2
          unfold Builtin.growBy
          split
          · exact h2
          · exact ih _ (by omega) (by omega)
      exact hgrow 4 cap (by omega) (by omega)

theorem zeroCells_ok' {z : Value} (ho : ∀ x ∈ z.cells.toList, oneC x = true) (n : Nat) : ∀ v ∈ (Builtin.zeroCells z.cells n).toList, oneC v = true := by
  intro v hv
  unfold Builtin.zeroCells at hv
  simp at hv
  obtain ⟨i, hi, rfl⟩ := hv
  have hpos : 0 < z.cells.size := by
    by_cases h0 : z.cells.size = 0
    · simp [h0] at hi
    · omega
  have : i % z.cells.size < z.cells.size := Nat.mod_lt _ hpos
  rw [getElem!_pos z.cells _ this]
  exact ho _ (by simp)


/-- rows at a place, as append leaves them in place -/
theorem Rel.move (r : Rel F ι h w) (fr : Fresh ι h.next (h.next + 1)) {o off : Nat} {ez : Nat} {fz fz' : Bool} {vs vs' : List AVal} {e : Ent} (ho : h.get o = some (.row ez fz vs)) (he : ι o = some e)
    {w' : World} (hk : Keep (fun b => b = e.blk) w w') (hx : ObjRel ι F.ρ w' ⟨e.blk, e.base + off, e.K - off, e.esz⟩ (.row ez fz' vs')) :
    ∃ ι', ι' h.next = some ⟨e.blk, e.base + off, e.K - off, e.esz⟩ ∧ Rel F ι' ((h.del o).push (.row ez fz' vs')) w' ∧ Step ι h w ι' ((h.del o).push (.row ez fz' vs')) w' := by
  have hnone : ι h.next = none := fr _ (Nat.le_refl _) (Nat.lt_succ_self _)
  have hs := upd_sub (o := h.next) ⟨e.blk, e.base + off, e.K - off, e.esz⟩ hnone
  obtain ⟨e', h1, h2, h3⟩ := r.obj o _ ho
  rw [he] at h1; cases h1
  have hkeep : Keep (Own ι h) w w' := hk.mono fun j _ hj => ⟨o, _, e, ho, he, hj.symm⟩
  have hobj : ∀ p y, ((h.del o).push (.row ez fz' vs')).get p = some y → (p = h.next ∧ y = .row ez fz' vs') ∨ (p ≠ h.next ∧ p ≠ o ∧ h.get p = some y) := by
    intro p y hp
    rw [AHeap.get_push, AHeap.get_del] at hp
    split at hp
    · rename_i hpn; left; simp at hp; exact ⟨hpn, hp.symm⟩
    · rename_i hpn
      split at hp
      · cases hp
      · rename_i hpo; exact .inr ⟨hpn, hpo, hp⟩
  refine ⟨upd ι h.next ⟨e.blk, e.base + off, e.K - off, e.esz⟩, upd_self _ _ _, ⟨hkeep.below r.below (Nat.le_refl _) r.own_ge, ?_, ?_, ?_⟩, ⟨hs, ?_, by simp, hkeep, ?_⟩⟩
  · intro p y hp
    rcases hobj p y hp with ⟨rfl, rfl⟩ | ⟨hne, hno, hp'⟩
    · exact ⟨_, upd_self _ _ _, h2, hx.mono hs rfl⟩
    · obtain ⟨f, f1, f2, f3⟩ := r.obj p y hp'
      refine ⟨f, by simp [upd, hne, f1], f2, f3.mono hs (hk.block _ f3.lt fun hb => hno (r.inj p o _ _ f e hp' ho f1 he hb))⟩
  · intro p p' y y' f f' a1 a2 a3 a4 a5
    rcases hobj p y a1 with ⟨rfl, rfl⟩ | ⟨hne, hno, a1'⟩ <;> rcases hobj p' y' a2 with ⟨h6, h7⟩ | ⟨hne', hno', a2'⟩
    · exact h6.symm
    · exfalso
      simp [upd] at a3; subst a3
      simp [upd, hne'] at a4
      exact hno' (r.inj p' o _ _ f' e a2' ho a4 he a5.symm)
    · exfalso
      subst h6
      simp [upd] at a4; subst a4
      simp [upd, hne] at a3
      exact hno (r.inj p o _ _ f e a1' ho a3 he a5)
    · simp [upd, hne] at a3
      simp [upd, hne'] at a4
      exact r.inj p p' y y' f f' a1' a2' a3 a4 a5
  · intro p y hp
    rcases hobj p y hp with ⟨rfl, rfl⟩ | ⟨_, _, hp'⟩
    · simp
    · have := r.lt p y hp'; simp; omega
  · intro p
    by_cases hp : p = h.next
    · subst hp; right; right; simp
    · right; left; simp [upd, hp]
  · rintro b ⟨p, y, f, a1, a2, rfl⟩
    left
    rcases hobj p y a1 with ⟨rfl, rfl⟩ | ⟨hne, _, a1'⟩
    · simp [upd] at a2; subst a2; exact ⟨o, _, e, ho, he, rfl⟩
    · exact ⟨p, y, f, a1', by simpa [upd, hne] using a2, rfl⟩

theorem run_storeCells_nil {P : Program} (a : Addr) : (storeCells a []).run P w = .ok () w := rfl

/-- what is not known of a row, up to its end -/
theorem ObjRel.fill {ι : Inj} {ρ : RoMap} {e : Ent} {ez : Nat} {fz : Bool} {vs : List AVal} (hr : ObjRel ι ρ w e (.row ez fz vs)) : ObjRel ι ρ w e (.row ez fz (vs ++ List.replicate (e.K - vs.length) .dead)) := by
  obtain ⟨c, T, fr, a1, a2, a3, a4, a5, a6, a7, a8⟩ := hr
  refine ⟨c, T, fr, a1, a2, a3, by simp; omega, a5, a6, a7, fun j a hj => ?_⟩
  rw [List.getElem?_append] at hj
  split at hj
  · exact a8 j a hj
  · rw [List.getElem?_replicate] at hj
    split at hj
    · cases hj
      have hlt : e.base + j < c.size := by omega
      exact ⟨c[e.base + j], by simp [hlt], trivial⟩
    · cases hj

/-- a part of a row, as a row -/
theorem ObjRel.part {ι : Inj} {ρ : RoMap} {e : Ent} {ez : Nat} {fz : Bool} {vs : List AVal} (hr : ObjRel ι ρ w e (.row ez fz vs)) (off m : Nat) (ho : off ≤ e.K) :
    ObjRel ι ρ w ⟨e.blk, e.base + off, e.K - off, e.esz⟩ (.row ez true ((vs.drop off).take m)) := by
  obtain ⟨c, T, fr, a1, a2, a3, a4, a5, a6, a7, a8⟩ := hr
  refine ⟨c, T, fr, a1, a2, by simp only; omega, by simp; omega, by simp, a6, a7, fun j a hj => ?_⟩
  rw [List.getElem?_take] at hj
  split at hj
  · rw [List.getElem?_drop] at hj
    obtain ⟨v, v1, v2⟩ := a8 _ a hj
    exact ⟨v, by simp only; rw [Nat.add_assoc]; exact v1, v2⟩
  · cases hj

set_option maxHeartbeats 1000000 in
theorem append_ok (ok : F.Ok) (r : Rel F ι h w) {st : Nat} {xt : Option Nat} {s x v : AVal} {h' : AHeap} {sv xv : Value} {ts : Array TypeId} {ty : TypeId} (h0 : ts[0]? = some st) (h1 : ts[1]? = xt)
    (hq : appendR F.c h st xt s x = .ok (v, h')) (hs : VRel ι F.ρ s sv) (hx : VRel ι F.ρ x xv) (fr : Fresh ι h.next h'.next) :
    ∃ u w' ι', (Builtin.append_ ts ty #[sv, xv]).run F.c.P w = .ok u w' ∧ VRel ι' F.ρ v u ∧ Rel F ι' h' w' ∧ Step ι h w ι' h' w' := by
  unfold appendR at hq
  obtain ⟨e, he, hq1⟩ := Res.bind_ok hq; clear hq
  obtain ⟨i, hi, hq2⟩ := Res.bind_ok hq1; clear hq1
  obtain ⟨_, hn, hq3⟩ := Res.bind_ok hq2; clear hq2
  obtain ⟨n, hl, hq4⟩ := Res.bind_ok hq3; clear hq3
  obtain ⟨new, hnew, hq5⟩ := Res.bind_ok hq4; clear hq4
  obtain ⟨zc, hzc, hq6⟩ := Res.bind_ok hq5; clear hq5
  have hu : F.c.P.underlying st = some (.slice e) := by
    unfold elemSl at he
    obtain ⟨d, hd, he⟩ := Res.bind_ok he
    split at he
    · cases he; exact undR_ok hd
    · cases he
  have hi := infoR_ok hi
  subst h1
  have hlen := lenA_ok (w := w) hl hx
  obtain ⟨arr, a1, a2, a3⟩ := readSl_ok ok r hnew hx hl (Nat.le_refl _)
  have a1w := a1 w.drawn
  split at hq6
  · cases hq6
  rename_i hsz
  have hsz1 : i.size ≠ 0 := fun hh => hsz (.inl hh)
  have hsz2 : i.bytes ≠ 0 := fun hh => hsz (.inr (.inl hh))
  have hsz3 : zc.length = i.size := Decidable.byContradiction fun hh => hsz (.inr (.inr hh))
  have hnl : arr.size = new.length := by have := a2.length; simp at this; omega
  obtain ⟨z, z1, z2, z3⟩ := zeroCells_ok (ι := ι) (ρ := F.ρ) hzc
  have hzl : z.cells.size = i.size := by have := z2.length; simp at this; omega
  have hnewlen : new.length = n * i.size := by
    unfold readSl at hnew
    split at hnew
    · split at hnew <;> cases hnew; rename_i hn0; simp [hn0]
    · split at hnew
      · rename_i hn0; cases hnew; simp [hn0]
      split at hnew
      · obtain ⟨t1, rfl⟩ := takeR_ok hnew; simp; omega
      · cases hnew
    · split at hnew
      · rename_i hn0; cases hnew; simp [hn0]
      split at hnew
      · obtain ⟨t1, rfl⟩ := takeR_ok hnew; simp; omega
      · cases hnew
    · split at hnew
      · rename_i hn0; cases hnew; simp [hn0]
      split at hnew
      · obtain ⟨t1, rfl⟩ := takeR_ok hnew; simp; omega
      · cases hnew
    · split at hnew
      · rename_i hs1; cases hnew; simp [hs1.1]; omega
      · cases hnew
    · cases hnew
  have hfr : ∀ x, h' = (h.push x) ∨ (∃ o, h' = (h.del o).push x) → Fresh ι h.next (h.next + 1) := by
    rintro x (rfl | ⟨o, rfl⟩) <;> exact fr
  -- a new row
  have hnewrow : ∀ (hh : AHeap) (rr : Rel F ι hh w) (hnx : hh.next = h.next) (base : Option Addr) (len cap : Nat) (old : List AVal) (oa : Array Value) (fz : Bool), VRels ι F.ρ old oa.toList → (∀ v ∈ oa.toList, oneC v = true) →
      old.length = len * i.size → (∀ d, (Builtin.firstCells i.size len (.slice base len cap)).run F.c.P { w with drawn := d } = .ok oa { w with drawn := d }) → ¬ len + n ≤ cap → (len + n) * i.bytes ≤ 2 ^ 47 →
      Fresh ι h.next (h.next + 1) → ∃ u w' ι', (Builtin.append_ ts ty #[.slice base len cap, xv]).run F.c.P w = .ok u w' ∧ VRel ι' F.ρ (.sl h.next 0 (len + n)) u ∧ Rel F ι' (hh.push (.row i.size fz (old ++ new))) w' ∧ Step ι hh w ι' (hh.push (.row i.size fz (old ++ new))) w' := by
    intro hh rr hnx base len cap old oa fz b1 b2 b3 b4 b5 b6 b7
    have hroom : ¬ (281474976710656 < Builtin.nextslicecap (len + n) cap * i.bytes) := by
      have := nextcap_le (len + n) cap (by omega)
      have h2 : Builtin.nextslicecap (len + n) cap * i.bytes ≤ 2 * (len + n) * i.bytes := Nat.mul_le_mul_right _ this
      have h3 : 2 * (len + n) * i.bytes = 2 * ((len + n) * i.bytes) := Nat.mul_assoc _ _ _
      omega
    obtain ⟨nc, c1, c2⟩ := append_new (w := w) (ty := ty) h0 hu hi hn hlen b5 hsz2 hroom a1 b4 z1
    have hoa : oa.size = old.length := by have := b1.length; simp at this; omega
    have hzs : (Builtin.zeroCells z.cells (nc - (len + n))).size = (nc - (len + n)) * i.size := by simp [Builtin.zeroCells, hzl]
    have hcs : (oa ++ arr ++ Builtin.zeroCells z.cells (nc - (len + n))).size = nc * i.size := by
      rw [Array.size_append, Array.size_append, hoa, hnl, hzs, b3, hnewlen, ← Nat.add_mul, ← Nat.add_mul]; congr 1; omega
    obtain ⟨ι', d1, d2, d3⟩ := push_row (cs := old ++ new) (c := oa ++ arr ++ Builtin.zeroCells z.cells (nc - (len + n))) (T := e) (f := (0, 0)) (esz := i.size) (fz := fz) rr (by rw [hnx]; exact b7) (w.drawn + 1)
      (by rw [List.length_append, Array.size_append, Array.size_append]; omega) (fun _ => rfl) (.inl rfl) (by
        intro v hv
        rw [Array.toList_append, Array.toList_append, List.mem_append, List.mem_append] at hv
        rcases hv with (hv | hv) | hv
        · exact b2 v hv
        · exact a3 v hv
        · exact zeroCells_ok' z3 _ v hv) (fun j a hj => by
        have hrel := b1.append a2
        obtain ⟨v, v1, v2⟩ := hrel.get hj
        have hlt := (List.getElem?_eq_some_iff.1 v1).1
        refine ⟨v, ?_, v2⟩
        rw [← Array.toList_append, Array.getElem?_toList] at v1
        rw [Array.getElem?_append, if_pos (by simpa using hlt)]
        exact v1)
    rw [hnx] at d1
    refine ⟨_, _, ι', c2, ⟨_, 0, nc, d1, rfl, ?_, c1, .inl rfl⟩, d2, d3⟩
    simp only [hcs, Nat.add_zero]
  have hle_of : ∀ {a b : Nat}, a * i.size ≤ b * i.size → a ≤ b := fun hh => Nat.le_of_mul_le_mul_right hh (Nat.pos_of_ne_zero hsz1)
  split at hq6
  · -- nil
    simp only [VRel] at hs; subst hs
    split at hq6
    · rename_i hn0
      cases hq6
      subst hn0
      exact ⟨_, w, ι, append_in_nil (ty := ty) h0 hu hi hn hlen a1w, rfl, r, Step.refl _ _ _⟩
    · rename_i hn0
      split at hq6
      · cases hq6
      · rename_i hby
        cases hq6
        have := hnewrow h r rfl none 0 0 [] #[] false rfl (by simp) (by simp) (fun d => rfl) (by omega) (by rw [Nat.zero_add]; omega) fr
        simpa using this
  · -- a slice up to its row's end
    rename_i o off len
    split at hq6
    rotate_left; · cases hq6
    rename_i ez fz vs ho
    split at hq6
    rotate_left; · cases hq6
    rename_i hez
    subst hez
    obtain ⟨en, xo, cap, hen, rfl, hcap, hlc, hxo⟩ := hs
    obtain ⟨en', g1, gN, g⟩ := r.obj o _ ho
    rw [hen] at g1; cases g1
    have hgesz : en.esz = i.size := by obtain ⟨_, _, _, _, g2, _⟩ := g; exact g2
    have hgK : vs.length ≤ en.K := by obtain ⟨_, _, _, _, _, _, g4, _⟩ := g; exact g4
    rw [hgesz] at hcap
    split at hq6
    · rename_i hfit
      obtain ⟨vs', hov, hq7⟩ := Res.bind_ok hq6
      cases hq7
      have hle : len + n ≤ cap := hle_of (by rw [Nat.add_mul] at *; omega)
      rcases hxo with hxo | hxo
      · subst hxo
        obtain ⟨row, s1, s2⟩ := g.over (P := F.c.P) hov a2 a3
        have hst : (storeCells ((⟨en.blk, en.base + off, none⟩ : Addr).add (len * i.size)) arr.toList).run F.c.P w = .ok () (w.setRow en.blk row) := by
          rw [add_none, Nat.add_assoc]; exact s1
        obtain ⟨t1, t2⟩ := r.set (.row i.size fz vs') ho hen (Keep.setRow w en.blk row) s2
        exact ⟨_, _, ι, append_in (ty := ty) h0 hu hi hn hlen hle a1w hst, ⟨en, _, cap, hen, rfl, by rw [hgesz]; exact hcap, hle, .inl rfl⟩, t1, t2⟩
      · have hn0 : n = 0 := by omega
        have hl0 : len = 0 := by omega
        subst hn0; subst hl0; subst hxo
        have harr : arr = #[] := by
          have : arr.size = 0 := by rw [hnl, hnewlen]; simp
          exact Array.eq_empty_of_size_eq_zero this
        have hnew0 : new = [] := List.eq_nil_of_length_eq_zero (by rw [hnewlen]; simp)
        subst harr; subst hnew0
        have hvs : vs' = vs := by
          have := (overR_ok hov).2
          simpa using this
        subst hvs
        obtain ⟨t1, t2⟩ := r.set (.row i.size fz vs') ho hen (Keep.refl _ w) g
        exact ⟨_, w, ι, append_in (ty := ty) h0 hu hi hn hlen hle a1w rfl, ⟨en, xo, 0, hen, rfl, by rw [hgesz]; exact hcap, by omega, .inr rfl⟩, t1, t2⟩
    · rename_i hfit
      split at hq6
      · cases hq6
      rename_i hby
      obtain ⟨old, hold, hq7⟩ := Res.bind_ok hq6
      cases hq7
      obtain ⟨q1, q2⟩ := takeR_ok hold
      have hoff : off ≤ en.K := by omega
      have hcells : CellsAt ι F.ρ w en.blk en.base vs := by
        obtain ⟨e'', x1, x2, _⟩ := r.cells ho
        rw [hen] at x1; cases x1; exact x2
      obtain ⟨oa, oa1, oa2, oa3⟩ := firstCells_at (P := F.c.P) (xo := xo) (len := len) (cap := cap) hcells hold (hxo.elim .inl fun h0 => .inr (by omega))
      have holdlen : old.length = len * i.size := by rw [q2]; simp; omega
      have hdel : Step ι h w ι (h.del o) w := ⟨Sub.refl _, fun _ => .inr (.inl rfl), Nat.le_refl _, Keep.refl _ _, fun b hb => .inl hb.del⟩
      by_cases hle : len + n ≤ cap
      · -- there was room
        by_cases hn0 : n = 0
        · exfalso; subst hn0; apply hfit; rw [Nat.add_zero]; omega
        have hxo : xo = en.base + off := hxo.elim id fun h0 => by omega
        subst hxo
        have hfill := g.fill
        have hfl : (vs ++ List.replicate (en.K - vs.length) AVal.dead).length = en.K := by simp; omega
        have hmul : (len + n) * i.size ≤ cap * i.size := Nat.mul_le_mul_right _ hle
        rw [Nat.add_mul] at hmul
        have hov : overR (vs ++ List.replicate (en.K - vs.length) AVal.dead) (off + len * i.size) new =
            .ok ((vs ++ List.replicate (en.K - vs.length) AVal.dead).take (off + len * i.size) ++ new ++ (vs ++ List.replicate (en.K - vs.length) AVal.dead).drop (off + len * i.size + new.length)) := by
          unfold overR; rw [if_pos (by rw [hfl, hnewlen]; omega)]
        obtain ⟨row, s1, s2⟩ := hfill.over (P := F.c.P) hov a2 a3
        have hst : (storeCells ((⟨en.blk, en.base + off, none⟩ : Addr).add (len * i.size)) arr.toList).run F.c.P w = .ok () (w.setRow en.blk row) := by
          rw [add_none, Nat.add_assoc]; exact s1
        have hsub := s2.part off ((len + n) * i.size) hoff
        have hlist : ((((vs ++ List.replicate (en.K - vs.length) AVal.dead).take (off + len * i.size) ++ new ++ (vs ++ List.replicate (en.K - vs.length) AVal.dead).drop (off + len * i.size + new.length)).drop off).take ((len + n) * i.size)) = old ++ new := by
          rw [q2]
          have e1 : (vs ++ List.replicate (en.K - vs.length) AVal.dead).take (off + len * i.size) = vs.take (off + len * i.size) := List.take_append_of_le_length q1
          rw [e1, List.append_assoc, List.drop_append_of_le_length (by simp; omega), List.drop_take, ← List.append_assoc]
          rw [List.take_append_of_le_length (by simp [hnewlen, Nat.add_mul]; omega)]
          rw [show off + len * i.size - off = len * i.size by omega]
          rw [List.take_of_length_le (by simp [hnewlen, Nat.add_mul]; omega)]
        rw [hlist] at hsub
        obtain ⟨ι', m1, m2, m3⟩ := r.move fr ho hen (Keep.setRow w en.blk row) hsub
        refine ⟨_, _, ι', append_in (ty := ty) h0 hu hi hn hlen hle a1w hst, ⟨_, _, cap, m1, rfl, ?_, hle, .inl rfl⟩, m2, m3⟩
        simp only [hgesz]; omega
      · -- there was none
        obtain ⟨u, w', ι', u1, u2, u3, u4⟩ := hnewrow (h.del o) (r.del o) rfl (some ⟨en.blk, xo, none⟩) len cap old oa true oa2 oa3 holdlen oa1 hle (by omega) fr
        exact ⟨u, w', ι', u1, u2, u3, hdel.trans u4⟩
  · -- a slice whose capacity is known
    rename_i o off len cap
    split at hq6
    rotate_left; · cases hq6
    rename_i ez fz vs ho
    obtain ⟨en, xo, hen, rfl, hlc, hxo⟩ := hs
    obtain ⟨en', g1, gN, g⟩ := r.obj o _ ho
    rw [hen] at g1; cases g1
    split at hq6
    · rename_i hle
      obtain ⟨vs', hov, hq7⟩ := Res.bind_ok hq6
      cases hq7
      rcases hxo with hxo | hxo
      · subst hxo
        obtain ⟨row, s1, s2⟩ := g.over (P := F.c.P) hov a2 a3
        have hst : (storeCells ((⟨en.blk, en.base + off, none⟩ : Addr).add (len * i.size)) arr.toList).run F.c.P w = .ok () (w.setRow en.blk row) := by
          rw [add_none, Nat.add_assoc]; exact s1
        obtain ⟨t1, t2⟩ := r.set (.row ez fz vs') ho hen (Keep.setRow w en.blk row) s2
        exact ⟨_, _, ι, append_in (ty := ty) h0 hu hi hn hlen hle a1w hst, ⟨en, _, hen, rfl, hle, .inl rfl⟩, t1, t2⟩
      · have hn0 : n = 0 := by omega
        have hl0 : len = 0 := by omega
        subst hn0; subst hl0; subst hxo
        have harr : arr = #[] := by
          have : arr.size = 0 := by rw [hnl, hnewlen]; simp
          exact Array.eq_empty_of_size_eq_zero this
        have hnew0 : new = [] := List.eq_nil_of_length_eq_zero (by rw [hnewlen]; simp)
        subst harr; subst hnew0
        have hvs : vs' = vs := by
          have := (overR_ok hov).2
          simpa using this
        subst hvs
        obtain ⟨t1, t2⟩ := r.set (.row ez fz vs') ho hen (Keep.refl _ w) g
        exact ⟨_, w, ι, append_in (ty := ty) h0 hu hi hn hlen hle a1w rfl, ⟨en, xo, hen, rfl, by omega, .inr rfl⟩, t1, t2⟩
    · rename_i hle
      split at hq6
      · cases hq6
      rename_i hby
      obtain ⟨old, hold, hq7⟩ := Res.bind_ok hq6
      cases hq7
      obtain ⟨q1, q2⟩ := takeR_ok hold
      have hcells : CellsAt ι F.ρ w en.blk en.base vs := by
        obtain ⟨e'', x1, x2, _⟩ := r.cells ho
        rw [hen] at x1; cases x1; exact x2
      obtain ⟨oa, oa1, oa2, oa3⟩ := firstCells_at (P := F.c.P) (xo := xo) (len := len) (cap := cap) hcells hold (hxo.elim .inl fun h0 => .inr (by omega))
      have holdlen : old.length = len * i.size := by rw [q2]; simp; omega
      exact hnewrow h r rfl (some ⟨en.blk, xo, none⟩) len cap old oa false oa2 oa3 holdlen oa1 hle (by omega) fr
  · -- read-only, and nothing to put
    rename_i ro off len
    split at hq6
    rotate_left; · cases hq6
    rename_i hn0
    cases hq6
    subst hn0
    obtain ⟨e', xo, cap, he', rfl, hlc, hxo⟩ := hs
    have harr : arr = #[] := by
      have : arr.size = 0 := by rw [hnl, hnewlen]; simp
      exact Array.eq_empty_of_size_eq_zero this
    subst harr
    exact ⟨_, w, ι, append_in (ty := ty) h0 hu hi hn hlen hlc a1w rfl, ⟨e', xo, cap, he', rfl, hlc, hxo⟩, r, Step.refl _ _ _⟩
  · cases hq6

end
end Go.Proofs.Ytomhcjiefmaopaa
namespace Go.Proofs.Ytomhcjiefmaopaa
open Go Go.RowKit

section
variable {F : Fix} {ι : Inj} {h : AHeap} {w : World}

theorem elemSl_ok {P : Program} {t e : Nat} (hq : elemSl P t = .ok e) : P.underlying t = some (.slice e) := by
  unfold elemSl at hq
  obtain ⟨d, hd, hq⟩ := Res.bind_ok hq
  split at hq
  · cases hq; exact undR_ok hd
  · cases hq

/-- cells written to a row, from a slice's beginning on -/
theorem write_ok (r : Rel F ι h w) {o off : Nat} {ez : Nat} {fz : Bool} {vs vs' cs : List AVal} {e : Ent} {us : List Value} {xo : Nat} (ho : h.get o = some (.row ez fz vs)) (he : ι o = some e)
    (hxo : xo = e.base + off ∨ cs = []) (hov : overR vs off cs = .ok vs') (hu : VRels ι F.ρ cs us) (h1 : ∀ v ∈ us, oneC v = true) :
    ∃ w', (storeCells ⟨e.blk, xo, none⟩ us).run F.c.P w = .ok () w' ∧ Rel F ι (h.set o (.row ez fz vs')) w' ∧ Step ι h w ι (h.set o (.row ez fz vs')) w' := by
  obtain ⟨e', g1, _, g⟩ := r.obj o _ ho
  rw [he] at g1; cases g1
  by_cases hc : cs = []
  · subst hc
    have : us = [] := by simpa [VRels] using hu
    subst this
    have hvs : vs' = vs := by simpa using (overR_ok hov).2
    subst hvs
    obtain ⟨t1, t2⟩ := r.set (.row ez fz vs') ho he (Keep.refl _ w) g
    exact ⟨w, rfl, t1, t2⟩
  · obtain rfl := hxo.resolve_right hc
    obtain ⟨row, s1, s2⟩ := g.over (P := F.c.P) hov hu h1
    obtain ⟨t1, t2⟩ := r.set (.row ez fz vs') ho he (Keep.setRow w e.blk row) s2
    exact ⟨_, s1, t1, t2⟩

theorem readSl_len {c : Cfg} {size n : Nat} {x : AVal} {new : List AVal} (hnew : readSl c h size n x = .ok new) : new.length = n * size := by
  unfold readSl at hnew
  split at hnew
  · split at hnew <;> cases hnew; rename_i hn0; simp [hn0]
  · split at hnew
    · rename_i hn0; cases hnew; simp [hn0]
    split at hnew
    · obtain ⟨t1, rfl⟩ := takeR_ok hnew; simp; omega
    · cases hnew
  · split at hnew
    · rename_i hn0; cases hnew; simp [hn0]
    split at hnew
    · obtain ⟨t1, rfl⟩ := takeR_ok hnew; simp; omega
    · cases hnew
  · split at hnew
    · rename_i hn0; cases hnew; simp [hn0]
    split at hnew
    · obtain ⟨t1, rfl⟩ := takeR_ok hnew; simp; omega
    · cases hnew
  · split at hnew
    · rename_i hs1; cases hnew; simp [hs1.1]; omega
    · cases hnew
  · cases hnew

theorem copy_ok (ok : F.Ok) (r : Rel F ι h w) {dt : Nat} {d s v : AVal} {h' : AHeap} {dv sv : Value} {ts : Array TypeId} {ty : TypeId} (h0 : ts[0]? = some dt) (hq : copyR F.c h dt d s = .ok (v, h'))
    (hd : VRel ι F.ρ d dv) (hs : VRel ι F.ρ s sv) :
    ∃ u w', (Builtin.copy_ ts ty #[dv, sv]).run F.c.P w = .ok u w' ∧ VRel ι F.ρ v u ∧ Rel F ι h' w' ∧ Step ι h w ι h' w' := by
  unfold copyR at hq
  obtain ⟨e, he, hq1⟩ := Res.bind_ok hq; clear hq
  obtain ⟨size, hsz, hq2⟩ := Res.bind_ok hq1; clear hq1
  obtain ⟨dn, hdn, hq3⟩ := Res.bind_ok hq2; clear hq2
  obtain ⟨sn, hsn, hq4⟩ := Res.bind_ok hq3; clear hq3
  obtain ⟨cs, hcs, hq5⟩ := Res.bind_ok hq4; clear hq4
  have hu := elemSl_ok he
  obtain ⟨arr, a1, a2, a3⟩ := readSl_ok ok r hcs hs hsn (Nat.min_le_left _ _)
  have a1w := a1 w.drawn
  have hslen := lenA_ok (w := w) hsn hs
  have hcl := readSl_len hcs
  have hmin : Nat.min sn dn = min sn dn := rfl
  split at hq5
  · cases hq5
    simp only [VRel] at hd; subst hd
    cases hdn
    refine ⟨.int .i64 ((min sn 0 : Nat) : Int), w, ?_, rfl, r, Step.refl _ _ _⟩
    have : (Builtin.firstCells size 0 sv).run F.c.P w = .ok arr w := by simpa using a1w
    simp [Builtin.copy_, h0, run_und hu, hslen, run_size hsz, goInt, this]
  · rename_i o off len
    cases hdn
    split at hq5
    rotate_left; · cases hq5
    rename_i ez fz vs ho
    obtain ⟨vs', hov, hq6⟩ := Res.bind_ok hq5
    cases hq6
    obtain ⟨en, xo, cap, hen, rfl, hcap, hlc, hxo⟩ := hd
    obtain ⟨w', s1, s2, s3⟩ := write_ok r ho hen (hxo.elim .inl fun h0 => .inr (by
      have : dn = 0 := by omega
      subst this
      exact List.eq_nil_of_length_eq_zero (by simpa using hcl))) hov a2 a3
    refine ⟨.int .i64 ((min sn dn : Nat) : Int), w', ?_, rfl, s2, s3⟩
    simp [Builtin.copy_, h0, run_und hu, hslen, run_size hsz, hmin, goInt, a1w, s1]
  · rename_i o off len cap
    cases hdn
    split at hq5
    rotate_left; · cases hq5
    rename_i ez fz vs ho
    obtain ⟨vs', hov, hq6⟩ := Res.bind_ok hq5
    cases hq6
    obtain ⟨en, xo, hen, rfl, hlc, hxo⟩ := hd
    obtain ⟨w', s1, s2, s3⟩ := write_ok r ho hen (hxo.elim .inl fun h0 => .inr (by
      have : dn = 0 := by omega
      subst this
      exact List.eq_nil_of_length_eq_zero (by simpa using hcl))) hov a2 a3
    refine ⟨.int .i64 ((min sn dn : Nat) : Int), w', ?_, rfl, s2, s3⟩
    simp [Builtin.copy_, h0, run_und hu, hslen, run_size hsz, hmin, goInt, a1w, s1]
  · cases hq5

theorem reps_length (n : Nat) (l : List AVal) : (reps n l).length = n * l.length := by
  simp [reps]
theorem reps_get (n : Nat) (l : List AVal) (j : Nat) (hj : j < n * l.length) : (reps n l)[j]? = l[j % l.length]? := by
  induction n generalizing j with
  | zero => simp at hj
  | succ n ih =>
    have hpos : 0 < l.length := by
      by_cases h0 : l.length = 0
      · simp [h0] at hj
      · omega
    simp only [reps, List.replicate_succ, List.flatten_cons]
    rw [List.getElem?_append]
    split
    · rename_i hlt; rw [Nat.mod_eq_of_lt hlt]
    · rename_i hlt
      have := ih (j - l.length) (by rw [Nat.succ_mul] at hj; omega)
      simp only [reps] at this
      rw [this]
      congr 1
      have e : j = j - l.length + l.length := by omega
      conv => rhs; rw [e, Nat.add_mod_right]

/-- a row of zeros -/
theorem zeros_rel {ρ : RoMap} {z : Value} {zs : List AVal} {size n : Nat} (hz : VRels ι ρ zs z.cells.toList) (ho : ∀ x ∈ z.cells.toList, oneC x = true) (hl : zs.length = size) (hpos : size ≠ 0) :
    VRels ι ρ (reps n zs) ((Array.range (n * size)).map (z.cells[· % z.cells.size]!)).toList ∧ ∀ v ∈ ((Array.range (n * size)).map (z.cells[· % z.cells.size]!)).toList, oneC v = true := by
  have hzs : z.cells.size = size := by have := hz.length; simp at this; omega
  constructor
  · refine VRels.of_get (by simp [reps_length, hl]) fun j a hj => ?_
    have hlt : j < n * size := by have := (List.getElem?_eq_some_iff.1 hj).1; rw [reps_length, hl] at this; exact this
    rw [reps_get n zs j (by rw [hl]; exact hlt)] at hj
    obtain ⟨v, v1, v2⟩ := hz.get hj
    refine ⟨v, ?_, v2⟩
    have hm : j % size < z.cells.size := by rw [hzs]; exact Nat.mod_lt _ (by omega)
    rw [hl] at v1
    simp [hlt, hzs]
    have v1' : z.cells[j % size]? = some v := by simpa using v1
    have := Array.getElem?_eq_getElem hm
    rw [this] at v1'
    rw [getElem!_pos z.cells _ hm]
    simpa using v1'
  · intro v hv
    simp at hv
    obtain ⟨j, hj, rfl⟩ := hv
    have hm : j % z.cells.size < z.cells.size := Nat.mod_lt _ (by omega)
    apply ho
    simp [hm]

theorem clear_ok (r : Rel F ι h w) {t : Nat} {x v : AVal} {h' : AHeap} {xv : Value} {ts : Array TypeId} {ty : TypeId} (h0 : ts[0]? = some t) (hq : clearR F.c h t x = .ok (v, h')) (hx : VRel ι F.ρ x xv) :
    ∃ w', (Builtin.clear_ ts ty #[xv]).run F.c.P w = .ok (.tuple #[]) w' ∧ v = .tuple [] ∧ Rel F ι h' w' ∧ Step ι h w ι h' w' := by
  unfold clearR at hq
  obtain ⟨d, hd, hq1⟩ := Res.bind_ok hq; clear hq
  have hu := undR_ok hd
  split at hq1
  rotate_left; · cases hq1
  rename_i e
  have hwrite : ∀ (o off n : Nat) (en : Ent) (xo cap : Nat), ι o = some en → (xo = en.base + off ∨ n = 0) → n ≠ 0 → (match h.get o with
      | some (.row esz fz vs) => (zeroCellsR F.c.P e).bind fun z => (sizeR F.c.P e).bind fun size => if z.length = size then
          (overR vs off (reps n z)).bind fun vs' => .ok (.tuple [], h.set o (.row esz fz vs')) else .err 142
      | _ => .err 143) = Res.ok (v, h') → ∃ w', (Builtin.clear_ ts ty #[.slice (some ⟨en.blk, xo, none⟩) n cap]).run F.c.P w = .ok (.tuple #[]) w' ∧ v = .tuple [] ∧ Rel F ι h' w' ∧ Step ι h w ι h' w' := by
    intro o off n en xo cap hen hxo hn hq
    split at hq
    rotate_left; · cases hq
    rename_i ez fz vs ho
    obtain ⟨z, hz, hq2⟩ := Res.bind_ok hq
    obtain ⟨size, hs, hq3⟩ := Res.bind_ok hq2
    split at hq3
    rotate_left; · cases hq3
    rename_i hzl
    obtain ⟨vs', hov, hq4⟩ := Res.bind_ok hq3
    cases hq4
    obtain ⟨zv, z1, z2, z3⟩ := zeroCells_ok (ι := ι) (ρ := F.ρ) hz
    have hzs : zv.cells.size = size := by have := z2.length; simp at this; omega
    have hrel : VRels ι F.ρ (reps n z) (Builtin.zeroCells zv.cells n).toList ∧ ∀ v ∈ (Builtin.zeroCells zv.cells n).toList, oneC v = true := by
      unfold Builtin.zeroCells
      by_cases h0 : size = 0
      · have e1 : z = [] := List.eq_nil_of_length_eq_zero (by omega)
        have e2 : zv.cells = #[] := Array.eq_empty_of_size_eq_zero (by omega)
        subst e1; rw [e2]
        simp [reps, VRels]
      · rw [hzs]
        have := zeros_rel (n := n) z2 z3 hzl h0
        rw [hzs] at this
        exact this
    obtain ⟨w', s1, s2, s3⟩ := write_ok r ho hen (hxo.elim .inl fun h0 => absurd h0 hn) hov hrel.1 hrel.2
    refine ⟨w', ?_, rfl, s2, s3⟩
    have : n = (n - 1) + 1 := by omega
    rw [this]
    rw [this] at s1
    simp [Builtin.clear_, h0, run_und hu, z1, s1]
  split at hq1
  · cases hq1
    simp only [VRel] at hx; subst hx
    exact ⟨w, by simp [Builtin.clear_, h0, run_und hu], rfl, r, Step.refl _ _ _⟩
  · rename_i o off n
    obtain ⟨en, xo, cap, hen, rfl, hcap, hlc, hxo⟩ := hx
    split at hq1
    · rename_i hn0; cases hq1; subst hn0
      exact ⟨w, by simp [Builtin.clear_, h0, run_und hu], rfl, r, Step.refl _ _ _⟩
    · rename_i hn0
      exact hwrite o off n en xo cap hen (hxo.elim .inl fun h0 => .inr (by omega)) hn0 hq1
  · rename_i o off n cap
    obtain ⟨en, xo, hen, rfl, hlc, hxo⟩ := hx
    split at hq1
    · rename_i hn0; cases hq1; subst hn0
      exact ⟨w, by simp [Builtin.clear_, h0, run_und hu], rfl, r, Step.refl _ _ _⟩
    · rename_i hn0
      exact hwrite o off n en xo cap hen (hxo.elim .inl fun h0 => .inr (by omega)) hn0 hq1
  · cases hq1

/-! ### what is made -/
theorem box_ok (r : Rel F ι h w) {t : Nat} {a v : AVal} {h' : AHeap} {av : Value} (hq : boxR h a = .ok (v, h')) (ha : VRel ι F.ρ a av) (fr : Fresh ι h.next h'.next) :
    ∃ u w' ι', (Instr.box t av).run F.c.P w = .ok u w' ∧ VRel ι' F.ρ v u ∧ Rel F ι' h' w' ∧ Step ι h w ι' h' w' := by
  unfold boxR at hq
  obtain ⟨cs, hcs, hq1⟩ := Res.bind_ok hq
  cases hq1
  obtain ⟨c1, c2⟩ := ha.cells hcs
  have hl := c1.length
  obtain ⟨ι', d1, d2, d3⟩ := push_row (cs := cs) (c := av.cells) (T := t) (f := (0, 0)) (esz := 0) (fz := false) r fr w.drawn (by simp at hl; omega) (fun _ => rfl) (.inl rfl) c2 (fun j a hj => by
    obtain ⟨v, v1, v2⟩ := c1.get hj; exact ⟨v, by simpa using v1, v2⟩)
  exact ⟨.pointer (some ⟨w.heap.size, 0, none⟩), _, ι', by simp [Instr.box, newVar, Go.newRow], ⟨_, d1, rfl⟩, d2, d3⟩

theorem alloc_ok (r : Rel F ι h w) {t : Nat} {z v : AVal} {h' : AHeap} (hz : zeroV F.c.P t = .ok z) (hq : boxR h z = .ok (v, h')) (fr : Fresh ι h.next h'.next) :
    ∃ u w' ι', (Instr.alloc t true (.tuple #[])).run F.c.P w = .ok u w' ∧ VRel ι' F.ρ v u ∧ Rel F ι' h' w' ∧ Step ι h w ι' h' w' := by
  obtain ⟨zv, z1, z2⟩ := zeroV_ok (ι := ι) (ρ := F.ρ) hz
  obtain ⟨u, w', ι', b1, b2⟩ := box_ok (t := t) r hq z2 fr
  refine ⟨u, w', ι', ?_, b2⟩
  rw [← b1]
  simp [Instr.alloc, Instr.box, z1]

theorem buildSlice_ok (r : Rel F ι h w) {t n : Nat} {parts : List (Nat × AVal)} {pv : Array (Nat × Value)} {v : AVal} {h' : AHeap} (hq : buildSliceR F.c.P h t n parts = .ok (v, h')) (hp : PartsRel ι F.ρ parts pv.toList) (fr : Fresh ι h.next h'.next) :
    ∃ u w' ι', (Instr.buildSlice t n pv).run F.c.P w = .ok u w' ∧ VRel ι' F.ρ v u ∧ Rel F ι' h' w' ∧ Step ι h w ι' h' w' := by
  unfold buildSliceR at hq
  obtain ⟨e, he, hq1⟩ := Res.bind_ok hq; clear hq
  obtain ⟨size, hs, hq2⟩ := Res.bind_ok hq1; clear hq1
  have hu := elemSl_ok he
  split at hq2
  · cases hq2
  rename_i hbig
  split at hq2
  · cases hq2
  rename_i hsz
  obtain ⟨z, hz, hq3⟩ := Res.bind_ok hq2; clear hq2
  split at hq3
  rotate_left; · cases hq3
  rename_i hzl
  obtain ⟨cs, hcs, hq4⟩ := Res.bind_ok hq3; clear hq3
  cases hq4
  obtain ⟨zv, z1, z2, z3⟩ := zeroCells_ok (ι := ι) (ρ := F.ρ) hz
  have hzs : zv.cells.size = size := by have := z2.length; simp at this; omega
  obtain ⟨y1, y2⟩ := zeros_rel (n := n) z2 z3 hzl hsz
  obtain ⟨rv, f1, f2, f3⟩ := fill_ok parts pv.toList (reps n z) cs _ hcs hp y1 y2
  have hlen : cs.length = n * size := by
    have : ∀ (place : Nat → Option (Nat × Nat)) (parts : List (Nat × AVal)) (cells res : List AVal), fillR place cells parts = .ok res → res.length = cells.length := by
      intro place parts
      induction parts with
      | nil => intro cells res hq; simp [fillR] at hq; rw [hq]
      | cons p parts ih =>
        intro cells res hq
        unfold fillR at hq
        obtain ⟨_, _, hq1⟩ := Res.bind_ok hq
        obtain ⟨_, _, hq2⟩ := Res.bind_ok hq1
        split at hq2
        · obtain ⟨_, ho, hq3⟩ := Res.bind_ok hq2
          rw [ih _ _ hq3]
          obtain ⟨o1, rfl⟩ := overR_ok ho
          simp; omega
        · cases hq2
    rw [this _ _ _ _ hcs, reps_length, hzl]
  have hrs : rv.size = n * size := by have := f2.length; simp at this; omega
  obtain ⟨ι', d1, d2, d3⟩ := push_row (cs := cs) (c := rv) (T := e) (f := (0, 0)) (esz := size) (fz := false) r fr w.drawn (by omega) (fun _ => rfl) (.inl rfl) f3 (fun j a hj => by
    obtain ⟨v, v1, v2⟩ := f2.get hj; exact ⟨v, by simpa using v1, v2⟩)
  refine ⟨.slice (some ⟨w.heap.size, 0, none⟩) n n, _, ι', ?_, ⟨_, 0, n, d1, rfl, by simp [hrs], Nat.le_refl _, .inl rfl⟩, d2, d3⟩
  have hbig' : ¬ 16777216 < n * size := hbig
  by_cases hn : n * size = 0
  · have hn0 : n = 0 := (Nat.mul_eq_zero.1 hn).resolve_right hsz
    subst hn0
    have hr : Array.range 0 = (#[] : Array Nat) := rfl
    have f1' : Instr.fill (fun i => some (i * size, size)) #[] pv.toList = some rv := by
      rw [Nat.zero_mul, hr] at f1
      simpa using f1
    simp [Instr.buildSlice, run_und hu, run_size hs, hr, f1', Go.newRow]
  · simp [Instr.buildSlice, run_und hu, run_size hs, hbig', hn, z1]
    rw [f1]
    simp [Go.newRow]


set_option maxHeartbeats 1000000 in
theorem makeSlice_ok (r : Rel F ι h w) {t : Nat} {l m v : AVal} {h' : AHeap} {lv mv : Value} (hq : makeSliceR F.c.P h t l m = .ok (v, h')) (hl : VRel ι F.ρ l lv) (hm : VRel ι F.ρ m mv) (fr : Fresh ι h.next h'.next) :
    ∃ u w' ι', (Instr.makeSlice t lv mv).run F.c.P w = .ok u w' ∧ VRel ι' F.ρ v u ∧ Rel F ι' h' w' ∧ Step ι h w ι' h' w' := by
  unfold makeSliceR at hq
  split at hq
  rotate_left; · cases hq
  rename_i kl n km k
  simp only [VRel] at hl hm; subst hl; subst hm
  obtain ⟨e, he, hq1⟩ := Res.bind_ok hq; clear hq
  obtain ⟨i, hi, hq2⟩ := Res.bind_ok hq1; clear hq1
  have hu := elemSl_ok he
  have hi := infoR_ok hi
  split at hq2
  rotate_left; · cases hq2
  rename_i hc
  obtain ⟨c1, c2, c3, c4, c5, c6⟩ := hc
  obtain ⟨z, hz, hq3⟩ := Res.bind_ok hq2; clear hq2
  split at hq3
  rotate_left; · cases hq3
  rename_i hzl
  cases hq3
  obtain ⟨zv, z1, z2, z3⟩ := zeroCells_ok (ι := ι) (ρ := F.ρ) hz
  have hzs : zv.cells.size = i.size := by have := z2.length; simp at this; omega
  obtain ⟨y1, y2⟩ := zeros_rel (n := k.toNat) z2 z3 hzl c6
  have hrs : ((Array.range (k.toNat * i.size)).map (zv.cells[· % zv.cells.size]!)).size = k.toNat * i.size := by simp
  obtain ⟨ι', d1, d2, d3⟩ := push_row (cs := reps k.toNat z) (c := (Array.range (k.toNat * i.size)).map (zv.cells[· % zv.cells.size]!)) (T := e) (f := (0, 0)) (esz := i.size) (fz := false) r fr w.drawn
    (by rw [hrs, reps_length, hzl]; exact Nat.le_refl _) (fun _ => rfl) (.inl rfl) y2 (fun j a hj => by
    obtain ⟨v, v1, v2⟩ := y1.get hj; exact ⟨v, by rw [← Array.getElem?_toList]; exact v1, v2⟩)
  refine ⟨.slice (some ⟨w.heap.size, 0, none⟩) n.toNat k.toNat, _, ι', ?_, ⟨_, 0, k.toNat, d1, rfl, by simp, by omega, .inl rfl⟩, d2, d3⟩
  have g1 : ¬ (IntKind.i64.wrap k < 0) := by rw [c2]; omega
  have g2 : ¬ (281474976710656 < (i.bytes : Int) * IntKind.i64.wrap k) := by rw [c2]; omega
  have g3 : ¬ (IntKind.i64.wrap n < 0) := by rw [c1]; omega
  have g4 : ¬ (IntKind.i64.wrap k < IntKind.i64.wrap n) := by rw [c1, c2]; omega
  by_cases hn : k.toNat * i.size = 0
  · have hk0 : k.toNat = 0 := (Nat.mul_eq_zero.1 hn).resolve_right c6
    have hr : Array.range 0 = (#[] : Array Nat) := rfl
    simp [Instr.makeSlice, run_und hu, run_sizeOf' hi, asInt, asIntOf, run_typeInfo' hi, g1, g2, g3, g4, c1, c2, hk0, hr, Go.newRow]
    rw [c2] at g1 g2 g4
    rw [c1] at g3 g4
    simp [g1, g2, g3, g4]
  · simp [Instr.makeSlice, run_und hu, run_sizeOf' hi, asInt, asIntOf, run_typeInfo' hi, g1, g2, g3, g4, c1, c2, hn, z1, Go.newRow]
    rw [c2] at g1 g2 g4
    rw [c1] at g3 g4
    simp [g1, g2, g3, g4, hn, z1]

/-! ### conversions -/
theorem strBytes_ok (r : Rel F ι h w) {e : Nat} {b : List UInt8} (fr : Fresh ι h.next (h.next + 1)) :
    ∃ u w' ι', (Conv.stringToBytes e ⟨b.toArray⟩).run F.c.P w = .ok u w' ∧ VRel ι' F.ρ (.sl h.next 0 b.length) u ∧
      Rel F ι' (h.push (.row 1 true (b.map fun x => .int .u8 x.toNat))) w' ∧ Step ι h w ι' (h.push (.row 1 true (b.map fun x => .int .u8 x.toNat))) w' := by
  obtain ⟨nc, hnc, hch⟩ : ∃ nc, b.length ≤ nc ∧ (choose (.appendCap b.length 0 e)).run F.c.P w = .ok nc w.drew := by
    refine ⟨b.length + w.tape w.drawn (.appendCap b.length 0 e) % (2 ^ 63 - b.length), Nat.le_add_right _ _, ?_⟩
    rw [run_choose, if_neg (by simp [Question.forced])]
    simp only [Question.cut]
    rfl
  let c : Array Value := (b.toArray.map fun x => Value.int .u8 x.toNat) ++ Array.replicate (nc - b.length) (Value.int .u8 0)
  have hcs : c.size = nc := by simp [c]; omega
  obtain ⟨ι', d1, d2, d3⟩ := push_row (cs := b.map fun x => AVal.int .u8 x.toNat) (c := c) (T := e) (f := (nc, nc + 1)) (esz := 1) (fz := true) r fr (w.drawn + 1) (by simp [hcs]; omega) (by simp) (.inr (by omega)) (by
      intro v hv
      simp [c] at hv
      rcases hv with ⟨x, _, rfl⟩ | ⟨_, rfl⟩ <;> rfl) (fun j a hj => by
      simp only [List.getElem?_map] at hj
      cases hb : b[j]? with
      | none => simp [hb] at hj
      | some x =>
        simp [hb] at hj; subst hj
        have hlt := (List.getElem?_eq_some_iff.1 hb).1
        refine ⟨.int .u8 x.toNat, ?_, rfl⟩
        have hbx : b[j] = x := (List.getElem?_eq_some_iff.1 hb).2
        simp [c, Array.getElem?_append, hlt, hbx])
  refine ⟨.slice (some ⟨w.heap.size, 0, none⟩) b.length nc, _, ι', ?_, ⟨_, 0, nc, d1, rfl, by simp [hcs], hnc, .inl rfl⟩, d2, d3⟩
  have hsh : ({ w.drew with heap := w.heap.push (.cells c e) } : World).shape? w.heap.size = some (e, nc) := by simp [World.shape?, hcs]
  have hfz : ({ w.drew with heap := w.heap.push (.cells c e) } : World).freeze { block := w.heap.size, off := nc } 1 = { w with drawn := w.drawn + 1, heap := w.heap.push (.cells c e (nc, nc + 1)) } := by
    simp only [World.freeze]
    rw [if_neg (by simp)]
    simp only [World.mk.injEq, and_true, true_and]
    refine ⟨?_, rfl, rfl, rfl, rfl⟩
    apply Array.ext_getElem?
    intro k
    rw [Array.getElem?_modify]
    by_cases hk : w.heap.size = k
    · subst hk; simp
    · simp only [hk, if_false, Array.getElem?_push]
      split <;> simp_all
  have hnr : (Go.newRow e c).run F.c.P w.drew = .ok ⟨w.heap.size, 0, none⟩ { w.drew with heap := w.heap.push (.cells c e) } := rfl
  have hcc : (Array.map (fun x => Value.int IntKind.u8 ↑x.toNat) b.toArray) ++ Array.replicate (nc - b.length) (Value.int .u8 0) = c := rfl
  simp only [Conv.stringToBytes, ba_size, Sem.run_bind, hch, Result.andThen_ok, hcc, hnr, markStringish, run_shape, hsh, run_freeze, hfz, Sem.run_pure]

end
end Go.Proofs.Ytomhcjiefmaopaa
namespace Go.Proofs.Ytomhcjiefmaopaa
open Go Go.RowKit

section
variable {F : Fix} {ι : Inj} {h : AHeap} {w : World}

theorem bytesOfA_ok {ρ : RoMap} {P : Program} {f : Value → ByteArray → Sem (ForInStep ByteArray)} (hf : ∀ n s, f (.int .u8 n) s = pure (ForInStep.yield (s.push (UInt8.ofNat n.toNat)))) :
    ∀ {cs : List AVal} {l : List UInt8} {vs : List Value} {acc : ByteArray}, bytesOfA cs = .ok l → VRels ι ρ cs vs → (forIn vs acc f).run P w = .ok ⟨acc.data ++ l.toArray⟩ w
  | [], l, vs, acc, hq, hv => by
    simp [bytesOfA] at hq; subst hq
    simp [VRels] at hv; subst hv
    rw [run_forIn_nil]; simp
  | a :: cs, l, _, acc, hq, hv => by
    obtain ⟨v, vs, rfl, v1, v2⟩ := hv
    unfold bytesOfA at hq
    obtain ⟨b, hb, hq1⟩ := Res.bind_ok hq
    obtain ⟨l', hl, hq2⟩ := Res.bind_ok hq1
    cases hq2
    unfold byteOfA at hb
    split at hb
    · cases hb
      simp only [VRel] at v1; subst v1
      rw [run_forIn_cons, hf]
      simp only [Sem.run_pure, Result.andThen_ok]
      rw [bytesOfA_ok hf hl v2]
      congr 2
      simp [ByteArray.push]
    · cases hb

theorem conv_ok (ok : F.Ok) (r : Rel F ι h w) {s d : Nat} {x res : AVal} {xv : Value} (hq : convR F.c h s d x = .ok res) (hx : VRel ι F.ρ x xv) : ∃ v, (convert s d xv).run F.c.P w = .ok v w ∧ VRel ι F.ρ res v := by
  unfold convR at hq
  obtain ⟨sd, hs, hq1⟩ := Res.bind_ok hq; clear hq
  obtain ⟨dd, hd, hq2⟩ := Res.bind_ok hq1; clear hq1
  have hus := undR_ok hs
  have hud := undR_ok hd
  split at hq2
  · cases hq2; simp only [VRel] at hx; subst hx
    exact ⟨_, by simp [convert, run_und hus, run_und hud, Conv.intToInt], rfl⟩
  · cases hq2; simp only [VRel] at hx; subst hx
    exact ⟨_, by simp [convert, run_und hus, run_und hud, Conv.intToFloat], rfl⟩
  · split at hq2
    · rename_i hn
      split at hq2
      · rename_i hr
        cases hq2; simp only [VRel] at hx; subst hx
        exact ⟨_, by simp [convert, run_und hus, run_und hud, Conv.floatToInt, hn, hr], rfl⟩
      · cases hq2
    · cases hq2
  · cases hq2; simp only [VRel] at hx; subst hx
    exact ⟨_, by simp [convert, run_und hus, run_und hud], rfl⟩
  · obtain ⟨ed, he, hq3⟩ := Res.bind_ok hq2
    have hue := undR_ok he
    split at hq3
    · cases hq3; simp only [VRel] at hx; subst hx
      exact ⟨_, by simp [convert, run_und hus, run_und hud, run_und hue, Conv.bytesToString, ByteArray.empty, ByteArray.emptyWithCapacity]; rfl, rfl⟩
    · cases hq3
  · obtain ⟨ed, he, hq3⟩ := Res.bind_ok hq2
    have hue := undR_ok he
    split at hq3
    · obtain ⟨n, hn, hq4⟩ := Res.bind_ok hq3
      obtain ⟨cs, hcs, hq5⟩ := Res.bind_ok hq4
      obtain ⟨l, hl, hq6⟩ := Res.bind_ok hq5
      cases hq6
      have hslice : ∃ a c, xv = .slice (some a) n c ∧ lenA x = .ok n := by
        unfold lenSl at hn
        split at hn
        · cases hn; obtain ⟨_, _, _, _, rfl, _⟩ := hx; exact ⟨_, _, rfl, rfl⟩
        · cases hn; obtain ⟨_, _, _, rfl, _⟩ := hx; exact ⟨_, _, rfl, rfl⟩
        · cases hn; obtain ⟨_, _, _, _, rfl, _⟩ := hx; exact ⟨_, _, rfl, rfl⟩
        · cases hn
      obtain ⟨a, c, rfl, hlen⟩ := hslice
      obtain ⟨arr, a1, a2, a3⟩ := readSl_ok ok r hcs hx hlen (Nat.le_refl _)
      have a1w : (loadCells a n).run F.c.P w = .ok arr w := by
        have := a1 w.drawn
        simp only [Builtin.firstCells, Nat.mul_one] at this
        exact this
      refine ⟨.string ⟨l.toArray⟩, ?_, rfl⟩
      simp [convert, run_und hus, run_und hud, run_und hue, Conv.bytesToString, a1w]
      rw [← Array.forIn_toList, bytesOfA_ok (fun n s => rfl) hl a2]
      simp [ByteArray.empty, ByteArray.emptyWithCapacity]
      try rfl
    · cases hq3
  · cases hq2

theorem len_ok (r : Rel F ι h w) {t : Nat} {x v : AVal} {xv : Value} {ts : Array TypeId} {ty : TypeId} (h0 : ts[0]? = some t) (hq : lenR F.c h t x = .ok v) (hx : VRel ι F.ρ x xv) :
    ∃ u, (Builtin.len_ ts ty #[xv]).run F.c.P w = .ok u w ∧ VRel ι F.ρ v u := by
  unfold lenR at hq
  obtain ⟨d, hd, hq1⟩ := Res.bind_ok hq; clear hq
  have hu := undR_ok hd
  split at hq1
  · split at hq1
    · cases hq1; simp only [VRel] at hx; subst hx
      exact ⟨_, by simp [Builtin.len_, h0, run_und hu, goInt, ba_size], rfl⟩
    · cases hq1
  · split at hq1
    · cases hq1
    · rename_i hne
      obtain ⟨n, hn, hq2⟩ := Res.bind_ok hq1
      cases hq2
      unfold lenA at hn
      split at hn
      · cases hn; simp only [VRel] at hx; subst hx; exact ⟨_, by simp [Builtin.len_, h0, run_und hu, goInt], rfl⟩
      · cases hn; obtain ⟨_, _, _, _, rfl, _⟩ := hx; exact ⟨_, by simp [Builtin.len_, h0, run_und hu, goInt], rfl⟩
      · cases hn; obtain ⟨_, _, _, rfl, _⟩ := hx; exact ⟨_, by simp [Builtin.len_, h0, run_und hu, goInt], rfl⟩
      · cases hn; obtain ⟨_, _, _, _, rfl, _⟩ := hx; exact ⟨_, by simp [Builtin.len_, h0, run_und hu, goInt], rfl⟩
      · exact absurd rfl (hne _)
      · cases hn
  · obtain ⟨es, hes, hq2⟩ := Res.bind_ok hq1
    cases hq2
    rcases entriesR_ok hes with ⟨rfl, rfl⟩ | ⟨o, rfl, ho⟩
    · simp only [VRel] at hx; subst hx
      exact ⟨_, by simp [Builtin.len_, h0, run_und hu, goInt], rfl⟩
    · obtain ⟨e, he, rfl⟩ := hx
      obtain ⟨e', g1, _, g⟩ := r.obj o _ ho
      rw [he] at g1; cases g1
      obtain ⟨ents, clock, g3, g4, _, g5⟩ := g
      have hg : (getObj e.blk).run F.c.P w = .ok (.map ents clock) w := by simp [getObj, Sem.run, g3]
      exact ⟨_, by simp [Builtin.len_, h0, run_und hu, goInt, hg, g4], rfl⟩
  · cases hq1; exact ⟨_, by simp [Builtin.len_, h0, run_und hu, goInt], rfl⟩
  · obtain ⟨ad, had, hq2⟩ := Res.bind_ok hq1
    split at hq2
    · cases hq2; exact ⟨_, by simp [Builtin.len_, h0, run_und hu, run_und (undR_ok had), goInt], rfl⟩
    · cases hq2
  · cases hq1

theorem fold_ok {ρ : RoMap} {P : Program} {f : AVal → AVal → Res AVal} {g : Value → Value → Sem Value} (hfg : ∀ {a b r : AVal} {x y : Value}, f a b = .ok r → VRel ι ρ a x → VRel ι ρ b y → ∃ v, (g x y).run P w = .ok v w ∧ VRel ι ρ r v) :
    ∀ (l : List AVal) (a r : AVal) (x : Value) (vs : List Value), foldR f a l = .ok r → VRel ι ρ a x → VRels ι ρ l vs → ∃ v, (vs.foldlM g x).run P w = .ok v w ∧ VRel ι ρ r v
  | [], a, r, x, vs, hq, hx, hv => by
    simp [foldR] at hq; subst hq
    simp [VRels] at hv; subst hv
    exact ⟨x, by simp, hx⟩
  | b :: l, a, r, x, _, hq, hx, hv => by
    obtain ⟨y, ys, rfl, v1, v2⟩ := hv
    unfold foldR at hq
    obtain ⟨z, hz, hq1⟩ := Res.bind_ok hq
    obtain ⟨u, u1, u2⟩ := hfg hz hx v1
    obtain ⟨v, v1', v2'⟩ := fold_ok hfg l z r u ys hq1 u2 v2
    exact ⟨v, by simp [List.foldlM_cons, u1, v1'], v2'⟩

theorem max2_ok {ρ : RoMap} {P : Program} {a b r : AVal} {x y : Value} (hq : max2R a b = .ok r) (hx : VRel ι ρ a x) (hy : VRel ι ρ b y) : ∃ v, (Builtin.max2 x y).run P w = .ok v w ∧ VRel ι ρ r v := by
  unfold max2R at hq
  split at hq
  · cases hq; simp only [VRel] at hx hy; subst hx; subst hy; exact ⟨_, by simp [Builtin.max2], rfl⟩
  · cases hq
theorem min2_ok {ρ : RoMap} {P : Program} {a b r : AVal} {x y : Value} (hq : min2R a b = .ok r) (hx : VRel ι ρ a x) (hy : VRel ι ρ b y) : ∃ v, (Builtin.min2 x y).run P w = .ok v w ∧ VRel ι ρ r v := by
  unfold min2R at hq
  split at hq
  · cases hq; simp only [VRel] at hx hy; subst hx; subst hy; exact ⟨_, by simp [Builtin.min2], rfl⟩
  · cases hq

/-- an operation's outcome -/
def OpTo (P : Program) (s : Sem Next) (w : World) (R : Value → World → Prop) : Prop :=
  ∃ v w', (s.run P w = .ok (.value v) w' ∨ (s.run P w = .ok .skip w' ∧ v = undef)) ∧ R v w'

/-- what an operation leads to -/
def Out (F : Fix) (ι : Inj) (h : AHeap) (w : World) (v : AVal) (h' : AHeap) (u : Value) (w' : World) : Prop :=
  ∃ ι', VRel ι' F.ρ v u ∧ Rel F ι' h' w' ∧ Step ι h w ι' h' w'

set_option maxHeartbeats 1000000 in
theorem builtin_ok (ok : F.Ok) (r : Rel F ι h w) {b : Builtin} {ts : Array TypeId} {ty : TypeId} {cs : Array Bool} {args : List AVal} {v : AVal} {h' : AHeap} {av : Array Value} (hq : builtinR F.c h b ts args = .ok (v, h')) (ha : VRels ι F.ρ args av.toList) (fr : Fresh ι h.next h'.next) :
    OpTo F.c.P (builtin b ts ty cs av) w (Out F ι h w v h') := by
  unfold builtinR at hq
  split at hq
  · rename_i t x h0
    obtain ⟨_, hq1, hq2⟩ := Res.bind_ok hq
    cases hq2
    obtain ⟨xv, _, hav, a1, a2⟩ := ha
    have : av = #[xv] := by apply Array.toList_inj.1; rw [hav]; simp [VRels] at a2; simp [a2]
    subst this
    obtain ⟨u, u1, u2⟩ := len_ok (ty := ty) r h0 hq1 a1
    exact ⟨u, w, .inl (by simp [builtin, u1]), ι, u2, r, Step.refl _ _ _⟩
  · rename_i t s x h0
    obtain ⟨sv, _, hav, a1, xv, _, rfl, a2, a3⟩ := ha
    have : av = #[sv, xv] := by apply Array.toList_inj.1; rw [hav]; simp [VRels] at a3; simp [a3]
    subst this
    obtain ⟨u, w', ι', u1, u2, u3, u4⟩ := append_ok (ty := ty) ok r h0 rfl hq a1 a2 fr
    exact ⟨u, w', .inl (by simp [builtin, u1]), ι', u2, u3, u4⟩
  · rename_i t d s h0
    obtain ⟨dv, _, hav, a1, sv, _, rfl, a2, a3⟩ := ha
    have : av = #[dv, sv] := by apply Array.toList_inj.1; rw [hav]; simp [VRels] at a3; simp [a3]
    subst this
    obtain ⟨u, w', u1, u2, u3, u4⟩ := copy_ok (ty := ty) ok r h0 hq a1 a2
    exact ⟨u, w', .inl (by simp [builtin, u1]), ι, u2, u3, u4⟩
  · rename_i t x h0
    obtain ⟨xv, _, hav, a1, a2⟩ := ha
    have : av = #[xv] := by apply Array.toList_inj.1; rw [hav]; simp [VRels] at a2; simp [a2]
    subst this
    obtain ⟨w', u1, rfl, u3, u4⟩ := clear_ok (ty := ty) r h0 hq a1
    exact ⟨_, w', .inl (by simp [builtin, u1]), ι, ⟨_, rfl, rfl⟩, u3, u4⟩
  · rename_i t m k h0
    obtain ⟨mv, _, hav, a1, kv, _, rfl, a2, a3⟩ := ha
    have : av = #[mv, kv] := by apply Array.toList_inj.1; rw [hav]; simp [VRels] at a3; simp [a3]
    subst this
    obtain ⟨w', u1, rfl, u3, u4⟩ := delete_ok (ty := ty) ok r h0 hq a1 a2
    exact ⟨_, w', .inl (by simp [builtin, u1]), ι, ⟨_, rfl, rfl⟩, u3, u4⟩
  · obtain ⟨_, hq1, hq2⟩ := Res.bind_ok hq
    cases hq2
    obtain ⟨xv, vs, hav, a1, a2⟩ := ha
    obtain ⟨u, u1, u2⟩ := fold_ok (P := F.c.P) (w := w) (fun h1 h2 h3 => max2_ok h1 h2 h3) _ _ _ _ _ hq1 a1 a2
    exact ⟨u, w, .inl (by simp [builtin, Builtin.max_, hav, u1]), ι, u2, r, Step.refl _ _ _⟩
  · obtain ⟨_, hq1, hq2⟩ := Res.bind_ok hq
    cases hq2
    obtain ⟨xv, vs, hav, a1, a2⟩ := ha
    obtain ⟨u, u1, u2⟩ := fold_ok (P := F.c.P) (w := w) (fun h1 h2 h3 => min2_ok h1 h2 h3) _ _ _ _ _ hq1 a1 a2
    exact ⟨u, w, .inl (by simp [builtin, Builtin.min_, hav, u1]), ι, u2, r, Step.refl _ _ _⟩
  · rename_i t x h0
    obtain ⟨e, he, hq1⟩ := Res.bind_ok hq
    have hu := elemSl_ok he
    obtain ⟨xv, _, hav, a1, a2⟩ := ha
    have : av = #[xv] := by apply Array.toList_inj.1; rw [hav]; simp [VRels] at a2; simp [a2]
    subst this
    split at hq1
    · cases hq1
      obtain ⟨_, _, _, rfl, _⟩ := a1
      exact ⟨_, w, .inl (by simp [builtin, Builtin.cap_, h0, run_und hu, goInt]), ι, rfl, r, Step.refl _ _ _⟩
    · cases hq1
      simp only [VRel] at a1; subst a1
      exact ⟨_, w, .inl (by simp [builtin, Builtin.cap_, h0, run_und hu, goInt]), ι, rfl, r, Step.refl _ _ _⟩
    · cases hq1
  · rename_i k a k' b'
    split at hq
    · rename_i hk; subst hk
      cases hq
      obtain ⟨xv, _, hav, a1, yv, _, rfl, a2, a3⟩ := ha
      have : av = #[xv, yv] := by apply Array.toList_inj.1; rw [hav]; simp [VRels] at a3; simp [a3]
      subst this
      simp only [VRel] at a1 a2; subst a1; subst a2
      have hc : Builtin.complex_ ts ty #[.float k a, .float k b'] = (if k = k then pure (.complex k a b') else stuck "complex: parts of different kinds") := rfl
      exact ⟨_, w, .inl (by simp only [builtin, hc, if_true, Sem.run_bind, Sem.run_pure, Result.andThen_ok]), ι, rfl, r, Step.refl _ _ _⟩
    · cases hq
  · rename_i k a b'
    cases hq
    obtain ⟨xv, _, hav, a1, a2⟩ := ha
    have : av = #[xv] := by apply Array.toList_inj.1; rw [hav]; simp [VRels] at a2; simp [a2]
    subst this
    simp only [VRel] at a1; subst a1
    have hc : Builtin.real_ ts ty #[.complex k a b'] = pure (.float k a) := rfl
    exact ⟨_, w, .inl (by simp only [builtin, hc, Sem.run_bind, Sem.run_pure, Result.andThen_ok]), ι, rfl, r, Step.refl _ _ _⟩
  · rename_i k a b'
    cases hq
    obtain ⟨xv, _, hav, a1, a2⟩ := ha
    have : av = #[xv] := by apply Array.toList_inj.1; rw [hav]; simp [VRels] at a2; simp [a2]
    subst this
    simp only [VRel] at a1; subst a1
    have hc : Builtin.imag_ ts ty #[.complex k a b'] = pure (.float k b') := rfl
    exact ⟨_, w, .inl (by simp only [builtin, hc, Sem.run_bind, Sem.run_pure, Result.andThen_ok]), ι, rfl, r, Step.refl _ _ _⟩
  · cases hq
end
end Go.Proofs.Ytomhcjiefmaopaa
namespace Go.Proofs.Ytomhcjiefmaopaa
open Go Go.RowKit

section
variable {F : Fix} {ι : Inj} {h : AHeap} {w : World} {bad : List Nat} {env : List AVal} {ev : Operand → Value}

theorem opnds_ok {ρ : RoMap} (hev : ∀ x a, opnd bad env x = .ok a → VRel ι ρ a (ev x)) : ∀ (l : List Operand) (as : List AVal), opnds bad env l = .ok as → VRels ι ρ as (l.map ev)
  | [], as, hq => by simp [opnds] at hq; subst hq; rfl
  | x :: l, as, hq => by
    unfold opnds at hq
    obtain ⟨a, ha, hq1⟩ := Res.bind_ok hq
    obtain ⟨r, hr, hq2⟩ := Res.bind_ok hq1
    cases hq2
    exact ⟨ev x, l.map ev, rfl, hev x a ha, opnds_ok hev l r hr⟩

theorem opndParts_ok {ρ : RoMap} (hev : ∀ x a, opnd bad env x = .ok a → VRel ι ρ a (ev x)) : ∀ (l : List (Nat × Operand)) (as : List (Nat × AVal)), opndParts bad env l = .ok as → PartsRel ι ρ as (l.map fun p => (p.1, ev p.2))
  | [], as, hq => by simp [opndParts] at hq; subst hq; exact .nil
  | x :: l, as, hq => by
    unfold opndParts at hq
    obtain ⟨a, ha, hq1⟩ := Res.bind_ok hq
    obtain ⟨r, hr, hq2⟩ := Res.bind_ok hq1
    cases hq2
    exact .cons (hev _ _ ha) (opndParts_ok hev l r hr)

theorem optR_ok {ρ : RoMap} (hev : ∀ x a, opnd bad env x = .ok a → VRel ι ρ a (ev x)) {x : Option Operand} {a : Option AVal} (hq : optR (opnd bad env) x = .ok a) : OptV ι ρ a (x.map ev) := by
  unfold optR at hq
  split at hq
  · cases hq; trivial
  · obtain ⟨v, hv, hq1⟩ := Res.bind_ok hq
    cases hq1
    exact hev _ _ hv

theorem pureV_ok {v : AVal} {h' : AHeap} {x : Res AVal} (hq : pureV h x = .ok (v, h')) : x = .ok v ∧ h' = h := by
  unfold pureV at hq
  obtain ⟨a, ha, hq1⟩ := Res.bind_ok hq
  cases hq1; exact ⟨ha, rfl⟩

theorem OpTo.value {P : Program} {s : Sem Value} {v : AVal} {u : Value} (r : Rel F ι h w) (hs : s.run P w = .ok u w) (hv : VRel ι F.ρ v u) : OpTo P (do pure (.value (← s))) w (Out F ι h w v h) :=
  ⟨u, w, .inl (by simp [hs]), ι, hv, r, Step.refl _ _ _⟩

theorem OpTo.made {P : Program} {s : Sem Value} {v : AVal} {h' : AHeap} (hs : ∃ u w' ι', s.run P w = .ok u w' ∧ VRel ι' F.ρ v u ∧ Rel F ι' h' w' ∧ Step ι h w ι' h' w') : OpTo P (do pure (.value (← s))) w (Out F ι h w v h') := by
  obtain ⟨u, w', ι', h1, h2, h3, h4⟩ := hs
  exact ⟨u, w', .inl (by simp [h1]), ι', h2, h3, h4⟩

theorem store_ok (r : Rel F ι h w) {t : Nat} {x v : AVal} {h' : AHeap} {xv vv : Value} (hq : storeR F.c h t x v = .ok h') (hx : VRel ι F.ρ x xv) (hv : VRel ι F.ρ v vv) :
    ∃ w', (Instr.storeAt t xv vv).run F.c.P w = .ok () w' ∧ Rel F ι h' w' ∧ Step ι h w ι h' w' := by
  unfold storeR at hq
  split at hq
  rotate_left; · cases hq
  rename_i o off
  split at hq
  rotate_left; · cases hq
  rename_i ez fz vs ho
  obtain ⟨n, hn, hq1⟩ := Res.bind_ok hq
  obtain ⟨cs, hcs, hq2⟩ := Res.bind_ok hq1
  split at hq2
  rotate_left; · cases hq2
  rename_i hl
  obtain ⟨vs', hov, hq3⟩ := Res.bind_ok hq2
  cases hq3
  obtain ⟨e, he, rfl⟩ := hx
  obtain ⟨c1, c2⟩ := hv.cells hcs
  have hlen := c1.length
  obtain ⟨w', s1, s2, s3⟩ := write_ok (xo := e.base + off) r ho he (.inl rfl) hov c1 c2
  refine ⟨w', ?_, s2, s3⟩
  have hsz : vv.cells.size = n := by simp at hlen; omega
  simp [Instr.storeAt, Instr.sureAddr, storeVar, run_size hn, hsz, s1]

theorem load_ok (ok : F.Ok) (r : Rel F ι h w) {t : Nat} {x v : AVal} {xv : Value} (hq : loadR F.c h t x = .ok v) (hx : VRel ι F.ρ x xv) : ∃ u, (Instr.loadAt t xv).run F.c.P w = .ok u w ∧ VRel ι F.ρ v u := by
  unfold loadR at hq
  obtain ⟨rw', hr, hq1⟩ := Res.bind_ok hq
  unfold rowR at hr
  split at hr
  · rename_i o off
    split at hr
    · rename_i ez fz vs ho
      cases hr
      obtain ⟨e, he, rfl⟩ := hx
      obtain ⟨e', g1, g2, _⟩ := r.cells ho
      rw [he] at g1; cases g1
      obtain ⟨u, u1, u2⟩ := g2.loadVar (P := F.c.P) hq1
      exact ⟨u, by simp [Instr.loadAt, Instr.sureAddr, u1], u2⟩
    · cases hr
  · rename_i ro off
    split at hr
    · rename_i vs ho
      cases hr
      obtain ⟨e, he, rfl⟩ := hx
      obtain ⟨e', g1, g2⟩ := r.roCells ok ho
      rw [he] at g1; cases g1
      obtain ⟨u, u1, u2⟩ := g2.loadVar (P := F.c.P) hq1
      exact ⟨u, by simp [Instr.loadAt, Instr.sureAddr, u1], u2⟩
    · cases hr
  · cases hr

set_option maxHeartbeats 2000000 in
theorem opR_ok (ok : F.Ok) (r : Rel F ι h w) (hev : ∀ x a, opnd bad env x = .ok a → VRel ι F.ρ a (ev x)) {o : Oper} {v : AVal} {h' : AHeap} (hq : opR F.c bad env h o = .ok (v, h')) (fr : Fresh ι h.next h'.next) :
    OpTo F.c.P (execOp ev o) w (Out F ι h w v h') := by
  unfold opR at hq
  split at hq
  case h_1 x ho =>
    obtain ⟨h1, rfl⟩ := pureV_ok hq
    simp only [execOp, ho]
    exact ⟨_, w, .inl rfl, ι, hev _ _ h1, r, Step.refl _ _ _⟩
  case h_2 x ho =>
    obtain ⟨h1, rfl⟩ := pureV_ok hq
    simp only [execOp, ho]
    exact ⟨_, w, .inl rfl, ι, hev _ _ h1, r, Step.refl _ _ _⟩
  case h_3 x a b ho =>
    obtain ⟨c, hc, hq1⟩ := Res.bind_ok hq
    have hcv := hev _ _ hc
    split at hq1
    · obtain ⟨h1, rfl⟩ := pureV_ok hq1
      simp only [VRel] at hcv
      exact ⟨ev a, w, .inl (by simp [execOp, ho, hcv, asBool]), ι, hev _ _ h1, r, Step.refl _ _ _⟩
    · obtain ⟨h1, rfl⟩ := pureV_ok hq1
      simp only [VRel] at hcv
      exact ⟨ev b, w, .inl (by simp [execOp, ho, hcv, asBool]), ι, hev _ _ h1, r, Step.refl _ _ _⟩
    · cases hq1
  case h_4 t ho =>
    obtain ⟨z, hz, hq1⟩ := Res.bind_ok hq
    simp only [execOp, ho]
    exact OpTo.made (alloc_ok r hz hq1 fr)
  case h_5 t x ho =>
    obtain ⟨a, ha, hq1⟩ := Res.bind_ok hq
    simp only [execOp, ho]
    exact OpTo.made (box_ok r hq1 (hev _ _ ha) fr)
  case h_6 t ps ho =>
    obtain ⟨l, hl, hq1⟩ := Res.bind_ok hq
    obtain ⟨h1, rfl⟩ := pureV_ok hq1
    simp only [execOp, ho]
    obtain ⟨u, u1, u2⟩ := build_ok (w := w) (pv := ps.map fun (i, x) => (i, ev x)) h1 (by simpa using opndParts_ok hev _ _ hl)
    exact OpTo.value r u1 u2
  case h_7 t n ps ho =>
    obtain ⟨l, hl, hq1⟩ := Res.bind_ok hq
    simp only [execOp, ho]
    exact OpTo.made (buildSlice_ok (pv := ps.map fun (i, x) => (i, ev x)) r hq1 (by simpa using opndParts_ok hev _ _ hl) fr)
  case h_8 t a ho =>
    obtain ⟨p, hp, hq1⟩ := Res.bind_ok hq
    obtain ⟨h1, rfl⟩ := pureV_ok hq1
    simp only [execOp, ho]
    obtain ⟨u, u1, u2⟩ := load_ok ok r h1 (hev _ _ hp)
    exact OpTo.value r u1 u2
  case h_9 t a x ho =>
    obtain ⟨p, hp, hq1⟩ := Res.bind_ok hq
    obtain ⟨y, hy, hq2⟩ := Res.bind_ok hq1
    obtain ⟨hh, hst, hq3⟩ := Res.bind_ok hq2
    cases hq3
    obtain ⟨w', s1, s2, s3⟩ := store_ok r hst (hev _ _ hp) (hev _ _ hy)
    exact ⟨undef, w', .inr ⟨by simp [execOp, ho, s1], rfl⟩, ι, ⟨_, rfl, rfl⟩, s2, s3⟩
  case h_10 x ho =>
    obtain ⟨p, hp, hq1⟩ := Res.bind_ok hq
    obtain ⟨h1, rfl⟩ := pureV_ok hq1
    have hv := hev _ _ hp
    unfold nilCheckR at h1
    split at h1
    · cases h1
      obtain ⟨e, he, hve⟩ := hv
      exact ⟨ev x, w, .inl (by simp [execOp, ho, hve]), ι, ⟨e, he, hve⟩, r, Step.refl _ _ _⟩
    · cases h1
      obtain ⟨e, he, hve⟩ := hv
      exact ⟨ev x, w, .inl (by simp [execOp, ho, hve]), ι, ⟨e, he, hve⟩, r, Step.refl _ _ _⟩
    · cases h1
  case h_11 op xt x y yt ho =>
    obtain ⟨a, ha, hq1⟩ := Res.bind_ok hq
    obtain ⟨b, hb, hq2⟩ := Res.bind_ok hq1
    split at hq2
    rotate_left; · cases hq2
    rename_i hg
    obtain ⟨h1, rfl⟩ := pureV_ok hq2
    obtain ⟨g1, g2⟩ := guard_ok (w := w) ok (hev _ _ ha) (hev _ _ hb) hg
    obtain ⟨u, u1, u2⟩ := binR_ok ok r h1 (hev _ _ ha) (hev _ _ hb) g2
    exact ⟨u, w, .inl (by simp [execOp, ho, g1, u1]), ι, u2, r, Step.refl _ _ _⟩
  case h_12 op t x ho =>
    obtain ⟨a, ha, hq1⟩ := Res.bind_ok hq
    obtain ⟨h1, rfl⟩ := pureV_ok hq1
    obtain ⟨u, u1, u2⟩ := un_ok (w := w) (P := F.c.P) h1 (hev _ _ ha)
    simp only [execOp, ho]
    exact OpTo.value r u1 u2
  case h_13 s d x ho =>
    obtain ⟨a, ha, hq1⟩ := Res.bind_ok hq
    obtain ⟨su, hsu, hq1'⟩ := Res.bind_ok hq1
    obtain ⟨du, hdu, hq2⟩ := Res.bind_ok hq1'
    have hv := hev _ _ ha
    have hus := undR_ok hsu
    have hud := undR_ok hdu
    simp only [execOp, ho]
    split at hq2
    · rename_i el b
      obtain ⟨wd, hwd, hq3⟩ := Res.bind_ok hq2
      have huw := undR_ok hwd
      split at hq3
      · cases hq3
        simp only [VRel] at hv
        obtain ⟨u, w', ι', u1, u2, u3, u4⟩ := strBytes_ok (e := el) (b := b) r fr
        rw [hv]
        exact OpTo.made ⟨u, w', ι', by cases su <;> simp [convert, run_und hus, run_und hud, run_und huw, u1], u2, u3, u4⟩
      · cases hq3
    · rename_i el o' off n
      obtain ⟨wd, hwd, hq3⟩ := Res.bind_ok hq2
      have huw := undR_ok hwd
      split at hq3
      · split at hq3
        · rename_i ez fz vs hob
          split at hq3
          · rename_i hsd
            cases hq3
            subst hsd
            rw [hud] at hus; cases hus
            have hv0 := hv
            obtain ⟨e, xo, cap, he, hve, hcap, hlc, hxo⟩ := hv
            obtain ⟨e', g1, _, g⟩ := r.obj o' _ hob
            rw [he] at g1; cases g1
            obtain ⟨c, T, f, a1, a2, a3, a4, a5, a6, a7, a8⟩ := g
            have hlt : e.blk < w.heap.size := (Array.getElem?_eq_some_iff.1 a1).1
            have hnew : ∃ f', (w.freeze { block := e.blk, off := c.size } 1) = { w with heap := w.heap.setIfInBounds e.blk (.cells c T f') } ∧ c.size ≤ f'.1 := by
              obtain ⟨lo, hi⟩ := f
              refine ⟨if lo == hi then (c.size, c.size + 1) else (min lo c.size, max hi (c.size + 1)), ?_, ?_⟩
              · simp only [World.freeze]
                rw [if_neg (by simp)]
                congr 1
                apply Array.ext_getElem?
                intro k
                rw [Array.getElem?_modify, Array.getElem?_setIfInBounds]
                by_cases hk : e.blk = k
                · subst hk
                  simp only [if_true, a1, hlt, Option.map_some]
                · simp only [hk, if_false]
              · split
                · exact Nat.le_refl _
                · rename_i hne
                  simp only
                  rcases a6 with a6 | a6
                  · cases a6; simp at hne
                  · omega
            obtain ⟨f', hf1, hf2⟩ := hnew
            obtain ⟨t1, t2⟩ := r.set (w' := { w with heap := w.heap.setIfInBounds e.blk (.cells c T f') }) (.row ez true vs) hob he ⟨rfl, rfl, rfl, by simp, fun k _ hk => by simp [Ne.symm hk]⟩
              ⟨c, T, f', by simp [hlt], a2, a3, a4, by simp, .inr hf2, a7, a8⟩
            refine OpTo.made ⟨ev x, _, ι, ?_, hv0, t1, t2⟩
            rw [hve]
            have hsh : w.shape? e.blk = some (T, c.size) := by simp [World.shape?, a1]
            simp [convert, run_und hud, run_und huw, markStringish, hsh, hf1]
          · cases hq3
        · cases hq3
      · cases hq3
    · obtain ⟨h1, rfl⟩ := pureV_ok hq2
      obtain ⟨u, u1, u2⟩ := conv_ok ok r h1 hv
      exact OpTo.value r u1 u2
  case h_14 t x ho =>
    obtain ⟨a, ha, hq1⟩ := Res.bind_ok hq
    obtain ⟨d, hd, hq2⟩ := Res.bind_ok hq1
    have hu := undR_ok hd
    split at hq2
    · cases hq2
    · rename_i hne
      cases hq2
      refine ⟨.iface t (ev x), w, .inl ?_, ι, ⟨_, rfl, hev _ _ ha⟩, r, Step.refl _ _ _⟩
      cases d <;> simp [execOp, ho, Instr.makeInterface, run_und hu]
      exact absurd rfl (hne _)
  case h_15 fn first cap ho =>
    split at hq
    · rename_i f
      obtain ⟨a, ha, hq1⟩ := Res.bind_ok hq
      obtain ⟨b, hb, hq2⟩ := Res.bind_ok hq1
      cases hq2
      exact ⟨.func (.func f) (first.map ev) (cap.map ev), w, .inl (by simp [execOp, ho, Instr.makeFunc]), ι, ⟨_, _, rfl, by simpa using opnds_ok hev _ _ ha, by simpa using opnds_ok hev _ _ hb⟩, r, Step.refl _ _ _⟩
    · cases hq
  case h_16 t rr ho =>
    split at hq
    · cases hq
      have := r.push fr (.map #[] 0) (.map []) ⟨w.heap.size, 0, 0, 0⟩ rfl ⟨#[], 0, by simp, rfl, rfl, by simp⟩
      exact ⟨.map (some w.heap.size), _, .inl (by simp [execOp, ho, Instr.makeMap]), _, ⟨_, upd_self _ _ _, rfl⟩, this.1, this.2⟩
    · cases hq
  case h_17 t l m ho =>
    obtain ⟨a, ha, hq1⟩ := Res.bind_ok hq
    obtain ⟨b, hb, hq2⟩ := Res.bind_ok hq1
    simp only [execOp, ho]
    exact OpTo.made (makeSlice_ok r hq2 (hev _ _ ha) (hev _ _ hb) fr)
  case h_18 t x lo hi mx ho =>
    obtain ⟨a, ha, hq1⟩ := Res.bind_ok hq
    obtain ⟨b, hb, hq2⟩ := Res.bind_ok hq1
    obtain ⟨c, hc, hq3⟩ := Res.bind_ok hq2
    obtain ⟨d, hd, hq4⟩ := Res.bind_ok hq3
    obtain ⟨h1, rfl⟩ := pureV_ok hq4
    simp only [execOp, ho]
    obtain ⟨u, u1, u2⟩ := slice_ok r h1 (hev _ _ ha) (optR_ok hev hb) (optR_ok hev hc) (optR_ok hev hd)
    exact OpTo.value r u1 u2
  case h_19 t x f ho =>
    obtain ⟨a, ha, hq1⟩ := Res.bind_ok hq
    obtain ⟨h1, rfl⟩ := pureV_ok hq1
    simp only [execOp, ho]
    obtain ⟨u, u1, u2⟩ := fieldAddr_ok (w := w) h1 (hev _ _ ha)
    exact OpTo.value r u1 u2
  case h_20 t x f ho =>
    obtain ⟨a, ha, hq1⟩ := Res.bind_ok hq
    obtain ⟨h1, rfl⟩ := pureV_ok hq1
    simp only [execOp, ho]
    obtain ⟨u, u1, u2⟩ := field_ok (w := w) h1 (hev _ _ ha)
    exact OpTo.value r u1 u2
  case h_21 t x i ho =>
    obtain ⟨a, ha, hq1⟩ := Res.bind_ok hq
    obtain ⟨b, hb, hq2⟩ := Res.bind_ok hq1
    obtain ⟨h1, rfl⟩ := pureV_ok hq2
    simp only [execOp, ho]
    obtain ⟨u, u1, u2⟩ := indexAddr_ok (w := w) h1 (hev _ _ ha) (hev _ _ hb)
    exact OpTo.value r u1 u2
  case h_22 t x i ho =>
    obtain ⟨a, ha, hq1⟩ := Res.bind_ok hq
    obtain ⟨b, hb, hq2⟩ := Res.bind_ok hq1
    obtain ⟨h1, rfl⟩ := pureV_ok hq2
    simp only [execOp, ho]
    obtain ⟨u, u1, u2⟩ := index_ok (w := w) h1 (hev _ _ ha) (hev _ _ hb)
    exact OpTo.value r u1 u2
  case h_23 t x k cok ho =>
    obtain ⟨a, ha, hq1⟩ := Res.bind_ok hq
    obtain ⟨b, hb, hq2⟩ := Res.bind_ok hq1
    obtain ⟨h1, rfl⟩ := pureV_ok hq2
    simp only [execOp, ho]
    obtain ⟨u, u1, u2⟩ := lookup_ok ok r h1 (hev _ _ ha) (hev _ _ hb)
    exact OpTo.value r u1 u2
  case h_24 t m k x ho =>
    obtain ⟨a, ha, hq1⟩ := Res.bind_ok hq
    obtain ⟨b, hb, hq2⟩ := Res.bind_ok hq1
    obtain ⟨y, hy, hq3⟩ := Res.bind_ok hq2
    obtain ⟨hh, hm, hq4⟩ := Res.bind_ok hq3
    cases hq4
    obtain ⟨w', s1, s2, s3⟩ := mapUpdate_ok ok r hm (hev _ _ ha) (hev _ _ hb) (hev _ _ hy)
    exact ⟨undef, w', .inr ⟨by simp [execOp, ho, s1], rfl⟩, ι, ⟨_, rfl, rfl⟩, s2, s3⟩
  case h_25 x i ho =>
    obtain ⟨a, ha, hq1⟩ := Res.bind_ok hq
    obtain ⟨h1, rfl⟩ := pureV_ok hq1
    simp only [execOp, ho]
    obtain ⟨u, u1, u2⟩ := extract_ok (w := w) h1 (hev _ _ ha)
    exact OpTo.value r u1 u2
  case h_26 x ho =>
    split at hq
    · rename_i b hb
      obtain ⟨args, ha, hq1⟩ := Res.bind_ok hq
      obtain ⟨cs, he⟩ : ∃ cs, execOp ev o = builtin b x.argTypes o.type cs (x.args.map ev) := by
        refine ⟨x.args.map fun | .const _ => true | _ => false, ?_⟩
        simp only [execOp, ho, resolve, hb]
        rfl
      rw [he]
      exact builtin_ok ok r hq1 (by simpa using opnds_ok hev _ _ ha) fr
    · cases hq
  case h_27 => cases hq
end
end Go.Proofs.Ytomhcjiefmaopaa
set_option autoImplicit true
set_option relaxedAutoImplicit true
namespace Go.Proofs.Ytomhcjiefmaopaa
open Go Go.RowKit

section
variable {F : Fix} {ι : Inj} {h : AHeap} {w : World} {loc : List Nat} {al : List (Nat × Nat)} {env : List AVal} {tm : Array Value}

/-- a slot holds what it is said to hold -/
def SlotOk (F : Fix) (ι : Inj) (h : AHeap) (loc : List Nat) (al : List (Nat × Nat)) (env : List AVal) (tm : Array Value) (w : World) (t : Nat) : Prop :=
  match nth env t with
  | .cell vs => loc.contains t = true ∧ ∃ b c T, tm[t]? = some (.pointer (some ⟨b, 0, none⟩)) ∧ F.N ≤ b ∧ ¬ Own ι h b ∧ w.heap[b]? = some (.cells c T (0, 0)) ∧ VRels ι F.ρ vs c.toList ∧ ∀ v ∈ c.toList, oneC v = true
  | .loc off valid => ∃ s, lookN al t = some s ∧ (valid = true → ∃ b, tm[t]? = some (.pointer (some ⟨b, off, none⟩)) ∧ tm[s]? = some (.pointer (some ⟨b, 0, none⟩)))
  | a => VRel ι F.ρ a (tm.getD t undef)

/-- the blocks of the frame's cells -/
def LocB (env : List AVal) (tm : Array Value) (b : Nat) : Prop := ∃ t vs, nth env t = .cell vs ∧ tm[t]? = some (.pointer (some ⟨b, 0, none⟩))

structure EnvOk (F : Fix) (ι : Inj) (h : AHeap) (loc : List Nat) (al : List (Nat × Nat)) (env : List AVal) (tm : Array Value) (w : World) : Prop where
  size : env.length = tm.size
  slot : ∀ t, SlotOk F ι h loc al env tm w t
  apart : ∀ t t' vs vs' b, nth env t = .cell vs → nth env t' = .cell vs' → tm[t]? = some (.pointer (some ⟨b, 0, none⟩)) → tm[t']? = some (.pointer (some ⟨b, 0, none⟩)) → t = t'

/-- a state and a world -/
structure St (F : Fix) (ι : Inj) (loc : List Nat) (al : List (Nat × Nat)) (env : List AVal) (h : AHeap) (tm : Array Value) (w : World) : Prop where
  rel : Rel F ι h w
  env : EnvOk F ι h loc al env tm w

/-- from a state to another one -/
structure TStep (ι : Inj) (h : AHeap) (env : List AVal) (tm : Array Value) (w : World) (ι' : Inj) (h' : AHeap) (env' : List AVal) (tm' : Array Value) (w' : World) : Prop where
  sub : Sub ι ι'
  dom : ∀ o : Nat, ι' o = none ∨ ι o = ι' o ∨ (h.next ≤ o ∧ o < h'.next)
  next : h.next ≤ h'.next
  keep : Keep (fun b => Own ι h b ∨ LocB env tm b) w w'
  own : ∀ b, Own ι' h' b → Own ι h b ∨ w.heap.size ≤ b
  loc : ∀ b, LocB env' tm' b → LocB env tm b ∨ w.heap.size ≤ b

theorem TStep.refl (ι : Inj) (h : AHeap) (env : List AVal) (tm : Array Value) (w : World) : TStep ι h env tm w ι h env tm w :=
  ⟨Sub.refl _, fun _ => .inr (.inl rfl), Nat.le_refl _, Keep.refl _ _, fun _ hb => .inl hb, fun _ hb => .inl hb⟩

theorem TStep.trans {ι₁ ι₂ ι₃ : Inj} {h₁ h₂ h₃ : AHeap} {e₁ e₂ e₃ : List AVal} {t₁ t₂ t₃ : Array Value} {w₁ w₂ w₃ : World} (a : TStep ι₁ h₁ e₁ t₁ w₁ ι₂ h₂ e₂ t₂ w₂) (b : TStep ι₂ h₂ e₂ t₂ w₂ ι₃ h₃ e₃ t₃ w₃) :
    TStep ι₁ h₁ e₁ t₁ w₁ ι₃ h₃ e₃ t₃ w₃ := by
  refine ⟨a.sub.trans b.sub, fun o => ?_, Nat.le_trans a.next b.next, a.keep.trans b.keep (fun b hb => hb.elim (fun h => (a.own b h).imp .inl id) (fun h => (a.loc b h).imp .inr id)), fun k hk => ?_, fun k hk => ?_⟩
  · rcases b.dom o with h | h | h
    · exact .inl h
    · rcases a.dom o with h' | h' | h'
      · left; rw [← h]; exact h'
      · right; left; rw [h', h]
      · exact .inr (.inr ⟨h'.1, Nat.lt_of_lt_of_le h'.2 b.next⟩)
    · exact .inr (.inr ⟨Nat.le_trans a.next h.1, h.2⟩)
  · rcases b.own k hk with h | h
    · exact a.own k h
    · exact .inr (Nat.le_trans a.keep.size h)
  · rcases b.loc k hk with h | h
    · exact a.loc k h
    · exact .inr (Nat.le_trans a.keep.size h)

theorem TStep.fresh {ι₁ ι₂ : Inj} {h₁ h₂ : AHeap} {e₁ e₂ : List AVal} {t₁ t₂ : Array Value} {w₁ w₂ : World} {c : Nat} (a : TStep ι₁ h₁ e₁ t₁ w₁ ι₂ h₂ e₂ t₂ w₂) (h : Fresh ι₁ h₁.next c) : Fresh ι₂ h₂.next c := by
  intro o h1 h2
  rcases a.dom o with h' | h' | h'
  · exact h'
  · rw [← h']; exact h o (Nat.le_trans a.next h1) h2
  · omega

/-- what the heap does, the frame's slots as they were -/
theorem EnvOk.step {ι' : Inj} {h' : AHeap} {w' : World} (e : EnvOk F ι h loc al env tm w) (s : Step ι h w ι' h' w') : EnvOk F ι' h' loc al env tm w' := by
  refine ⟨e.size, fun t => ?_, e.apart⟩
  have := e.slot t
  unfold SlotOk at this ⊢
  split
  · rename_i vs hv
    simp only [hv] at this
    obtain ⟨h1, b, c, T, h2, h3, h4, h5, h6, h7⟩ := this
    have hlt : b < w.heap.size := (Array.getElem?_eq_some_iff.1 h5).1
    exact ⟨h1, b, c, T, h2, h3, fun ho => (s.own b ho).elim h4 (fun hh => by omega), by rw [s.keep.block b hlt h4]; exact h5, h6.mono s.sub, h7⟩
  · rename_i off valid hv
    simp only [hv] at this
    exact this
  · rename_i a hn1 hn2
    have hcell : ∀ vs, nth env t ≠ .cell vs := hn1
    have hloc : ∀ a b, nth env t ≠ .loc a b := hn2
    have hv : VRel ι F.ρ (nth env t) (tm.getD t undef) := by
      revert this
      cases hx : nth env t <;> simp_all
    exact hv.mono s.sub

theorem SlotOk.val (hs : SlotOk F ι h loc al env tm w t) (h1 : loc.contains t = false) (h2 : lookN al t = none) : VRel ι F.ρ (nth env t) (tm.getD t undef) := by
  unfold SlotOk at hs
  split at hs
  · rw [hs.1] at h1; cases h1
  · obtain ⟨s, hs, _⟩ := hs; rw [h2] at hs; cases hs
  · exact hs

theorem SlotOk.of_val (hv : VRel ι F.ρ (nth env t) (tm.getD t undef)) : SlotOk F ι h loc al env tm w t := by
  unfold SlotOk
  split
  · rename_i vs hc; rw [hc] at hv; exact hv.elim
  · rename_i a b hc; rw [hc] at hv; exact hv.elim
  · exact hv

/-- a value into a slot that is no cell's -/
theorem EnvOk.put (e : EnvOk F ι h loc al env tm w) (hal : ∀ t s, lookN al t = some s → loc.contains s = true) {d : Nat} {a : AVal} {v : Value} (hd : loc.contains d = false) (hv : VRel ι F.ρ a v) :
    EnvOk F ι h loc al (setN env d a) (tm.setIfInBounds d v) w ∧ ∀ b, LocB (setN env d a) (tm.setIfInBounds d v) b → LocB env tm b := by
  have hcell : ∀ t vs, nth (setN env d a) t = .cell vs → nth env t = .cell vs ∧ t ≠ d := by
    intro t vs hn
    rw [nth_setN] at hn
    split at hn
    · subst hn; exact hv.elim
    · rename_i hnd
      refine ⟨hn, fun htd => ?_⟩
      subst htd
      have := e.slot t
      unfold SlotOk at this
      rw [hn] at this
      rw [this.1] at hd; cases hd
  have htm : ∀ t, t ≠ d → (tm.setIfInBounds d v)[t]? = tm[t]? := fun t ht => by simp [Array.getElem?_setIfInBounds, Ne.symm ht]
  refine ⟨⟨by rw [length_setN, Array.size_setIfInBounds]; exact e.size, fun t => ?_, ?_⟩, ?_⟩
  · by_cases ht : d = t ∧ d < env.length
    · apply SlotOk.of_val
      rw [nth_setN, if_pos ht]
      obtain ⟨rfl, hlt⟩ := ht
      have : d < tm.size := by rw [← e.size]; exact hlt
      simpa [Array.getElem?_setIfInBounds, this] using hv
    · have hn : nth (setN env d a) t = nth env t := by rw [nth_setN, if_neg ht]
      have hs := e.slot t
      by_cases htd : t = d
      · subst htd
        have hge : ¬ t < env.length := fun hl => ht ⟨rfl, hl⟩
        apply SlotOk.of_val
        rw [hn, nth_eq]
        simp [Nat.not_lt.1 hge, VRel]
      · unfold SlotOk at hs ⊢
        rw [hn]
        split
        · rename_i vs hc
          simp only [hc] at hs
          obtain ⟨h1, b, c, T, h2, r⟩ := hs
          exact ⟨h1, b, c, T, by rw [htm t htd]; exact h2, r⟩
        · rename_i off valid hc
          simp only [hc] at hs
          obtain ⟨s, h1, h2⟩ := hs
          refine ⟨s, h1, fun hval => ?_⟩
          obtain ⟨b, b1, b2⟩ := h2 hval
          have hsd : s ≠ d := fun hh => by subst hh; rw [hal t s h1] at hd; cases hd
          exact ⟨b, by rw [htm t htd]; exact b1, by rw [htm s hsd]; exact b2⟩
        · rename_i hn1 hn2
          have hx : VRel ι F.ρ (nth env t) (tm.getD t undef) := by
            revert hs
            cases hx : nth env t <;> simp_all
          simpa [htm t htd] using hx
  · intro t t' vs vs' b h1 h2 h3 h4
    obtain ⟨a1, a2⟩ := hcell t vs h1
    obtain ⟨b1, b2⟩ := hcell t' vs' h2
    rw [htm t a2] at h3; rw [htm t' b2] at h4
    exact e.apart t t' vs vs' b a1 b1 h3 h4
  · rintro b ⟨t, vs, h1, h2⟩
    obtain ⟨a1, a2⟩ := hcell t vs h1
    exact ⟨t, vs, a1, by rw [htm t a2] at h2; exact h2⟩

/-- slots that are done with -/
theorem EnvOk.clear (e : EnvOk F ι h loc al env tm w) (ns : List Nat) : EnvOk F ι h loc al (clearAll ns env) tm w ∧ ∀ b, LocB (clearAll ns env) tm b → LocB env tm b := by
  have hcell : ∀ t vs, nth (clearAll ns env) t = .cell vs → nth env t = .cell vs := by
    intro t vs hn
    rcases nth_clearAll ns env t with hh | ⟨hh, _⟩
    · rw [hh] at hn; cases hn
    · rw [← hh]; exact hn
  refine ⟨⟨by rw [length_clearAll]; exact e.size, fun t => ?_, fun t t' vs vs' b h1 h2 => e.apart t t' vs vs' b (hcell _ _ h1) (hcell _ _ h2)⟩, ?_⟩
  · rcases nth_clearAll ns env t with hh | ⟨hh, _⟩
    · apply SlotOk.of_val; rw [hh]; trivial
    · have := e.slot t
      unfold SlotOk at this ⊢
      rw [hh]; exact this
  · rintro b ⟨t, vs, h1, h2⟩
    exact ⟨t, vs, hcell t vs h1, h2⟩

/-- a slot that points into a cell -/
theorem EnvOk.putLoc (e : EnvOk F ι h loc al env tm w) (hal : ∀ t s, lookN al t = some s → loc.contains s = true) {d s off : Nat} {valid : Bool} {v : Value} (hd : loc.contains d = false) (hl : lookN al d = some s)
    (hv : valid = true → ∃ b, v = .pointer (some ⟨b, off, none⟩) ∧ tm[s]? = some (.pointer (some ⟨b, 0, none⟩))) :
    EnvOk F ι h loc al (setN env d (.loc off valid)) (tm.setIfInBounds d v) w ∧ ∀ b, LocB (setN env d (.loc off valid)) (tm.setIfInBounds d v) b → LocB env tm b := by
  have hp := e.put hal (a := .dead) (v := v) hd trivial
  obtain ⟨p1, p2⟩ := hp
  have hsd : s ≠ d := fun hh => by have := hal d s hl; rw [hh, hd] at this; cases this
  have htm : ∀ t, t ≠ d → (tm.setIfInBounds d v)[t]? = tm[t]? := fun t ht => by simp [Array.getElem?_setIfInBounds, Ne.symm ht]
  have hcell : ∀ t vs, nth (setN env d (.loc off valid)) t = .cell vs → nth (setN env d .dead) t = .cell vs := by
    intro t vs hn
    rw [nth_setN] at hn ⊢
    split at hn
    · cases hn
    · rename_i hnd; rw [if_neg hnd]; exact hn
  refine ⟨⟨by rw [length_setN, Array.size_setIfInBounds]; exact e.size, fun t => ?_, fun t t' vs vs' b h1 h2 => p1.apart t t' vs vs' b (hcell _ _ h1) (hcell _ _ h2)⟩, ?_⟩
  · by_cases ht : d = t ∧ d < env.length
    · obtain ⟨hdt, hlt⟩ := ht
      unfold SlotOk
      rw [nth_setN, if_pos ⟨hdt, hlt⟩]
      rw [← hdt]
      refine ⟨s, hl, fun hval => ?_⟩
      obtain ⟨b, rfl, b2⟩ := hv hval
      have : d < tm.size := by rw [← e.size]; exact hlt
      exact ⟨b, by simp [Array.getElem?_setIfInBounds, this], by rw [htm s hsd]; exact b2⟩
    · have := p1.slot t
      unfold SlotOk at this ⊢
      have hn : nth (setN env d (.loc off valid)) t = nth (setN env d .dead) t := by rw [nth_setN, nth_setN, if_neg ht, if_neg ht]
      rw [hn]; exact this
  · rintro b ⟨t, vs, h1, h2⟩
    exact p2 b ⟨t, vs, hcell t vs h1, h2⟩

theorem lookN_mem : ∀ {al : List (Nat × Nat)} {t s : Nat}, lookN al t = some s → (t, s) ∈ al
  | [], _, _, h => by simp [lookN] at h
  | (a, b) :: l, t, s, h => by
    unfold lookN at h
    split at h
    · rename_i ha; cases h; subst ha; simp
    · exact List.mem_cons_of_mem _ (lookN_mem h)

/-- a new cell of the frame -/
theorem EnvOk.make (r : Rel F ι h w) (e : EnvOk F ι h loc al env tm w) {d : Nat} {vs : List AVal} {c : Array Value} {T : TypeId} (hd : loc.contains d = true) (hrel : VRels ι F.ρ vs c.toList) (hone : ∀ v ∈ c.toList, oneC v = true)
    {w' : World} (hw' : w' = { w with heap := w.heap.push (.cells c T) }) :
    EnvOk F ι h loc al (setN (clearAll (aliasTo al d) env) d (.cell vs)) (tm.setIfInBounds d (.pointer (some ⟨w.heap.size, 0, none⟩))) w' ∧
      ∀ b, LocB (setN (clearAll (aliasTo al d) env) d (.cell vs)) (tm.setIfInBounds d (.pointer (some ⟨w.heap.size, 0, none⟩))) b → LocB env tm b ∨ b = w.heap.size := by
  subst hw'
  obtain ⟨ec, lc⟩ := e.clear (aliasTo al d)
  have hold : ∀ k, k < w.heap.size → ({ w with heap := w.heap.push (.cells c T) } : World).heap[k]? = w.heap[k]? := by
    intro k hk; simp [Array.getElem?_push, Nat.ne_of_lt hk]
  have hnew : ({ w with heap := w.heap.push (.cells c T) } : World).heap[w.heap.size]? = some (.cells c T) := by simp
  have htm : ∀ t, t ≠ d → (tm.setIfInBounds d (.pointer (some ⟨w.heap.size, 0, none⟩)))[t]? = tm[t]? := fun t ht => by simp [Array.getElem?_setIfInBounds, Ne.symm ht]
  have hlen : (clearAll (aliasTo al d) env).length = tm.size := by rw [length_clearAll]; exact e.size
  have hcases : ∀ t us, nth (setN (clearAll (aliasTo al d) env) d (.cell vs)) t = .cell us → (t = d ∧ d < tm.size ∧ us = vs) ∨ (t ≠ d ∧ nth (clearAll (aliasTo al d) env) t = .cell us) := by
    intro t us hn
    rw [nth_setN] at hn
    split at hn
    · rename_i hh; left; cases hn; exact ⟨hh.1.symm, by rw [← hlen]; exact hh.2, rfl⟩
    · rename_i hh
      right
      refine ⟨fun htd => hh ⟨htd.symm, ?_⟩, hn⟩
      subst htd
      rcases Nat.lt_or_ge t (clearAll (aliasTo al t) env).length with hl | hl
      · exact hl
      · rw [nth_eq] at hn; simp [hl] at hn
  have hblk : ∀ t us b, nth (clearAll (aliasTo al d) env) t = .cell us → tm[t]? = some (.pointer (some ⟨b, 0, none⟩)) → b < w.heap.size := by
    intro t us b hn hb
    have := ec.slot t
    unfold SlotOk at this
    rw [hn] at this
    obtain ⟨_, b', c', T', h2, _, _, h5, _⟩ := this
    rw [hb] at h2; cases h2
    exact (Array.getElem?_eq_some_iff.1 h5).1
  refine ⟨⟨by rw [length_setN, Array.size_setIfInBounds]; exact hlen, fun t => ?_, ?_⟩, ?_⟩
  · by_cases ht : d = t ∧ d < (clearAll (aliasTo al d) env).length
    · obtain ⟨rfl, hlt⟩ := ht
      unfold SlotOk
      rw [nth_setN, if_pos ⟨rfl, hlt⟩]
      rw [hlen] at hlt
      exact ⟨hd, w.heap.size, c, T, by simp [Array.getElem?_setIfInBounds, hlt], r.below.size, fun ho => by have := r.own_lt _ ho; omega, hnew, hrel, hone⟩
    · have hn : nth (setN (clearAll (aliasTo al d) env) d (.cell vs)) t = nth (clearAll (aliasTo al d) env) t := by rw [nth_setN, if_neg ht]
      have hs := ec.slot t
      by_cases htd : t = d
      · subst htd
        have hge : ¬ t < (clearAll (aliasTo al t) env).length := fun hl => ht ⟨rfl, hl⟩
        apply SlotOk.of_val
        rw [hn, nth_eq]
        simp [Nat.not_lt.1 hge, VRel]
      · unfold SlotOk at hs ⊢
        rw [hn]
        split
        · rename_i us hc
          simp only [hc] at hs
          obtain ⟨h1, b, c', T', h2, h3, h4, h5, h6⟩ := hs
          exact ⟨h1, b, c', T', by rw [htm t htd]; exact h2, h3, h4, by rw [hold b (Array.getElem?_eq_some_iff.1 h5).1]; exact h5, h6⟩
        · rename_i off valid hc
          simp only [hc] at hs
          obtain ⟨s, h1, h2⟩ := hs
          refine ⟨s, h1, fun hval => ?_⟩
          obtain ⟨b, b1, b2⟩ := h2 hval
          have hsd : s ≠ d := by
            rintro rfl
            have hm : t ∈ aliasTo al s := by
              unfold aliasTo
              exact List.mem_map.2 ⟨(t, s), List.mem_filter.2 ⟨lookN_mem h1, by simp⟩, rfl⟩
            rcases nth_clearAll (aliasTo al s) env t with hh | ⟨_, hh⟩
            · rw [hh] at hc; cases hc
            · exact hh hm
          exact ⟨b, by rw [htm t htd]; exact b1, by rw [htm s hsd]; exact b2⟩
        · rename_i hn1 hn2
          have hx : VRel ι F.ρ (nth (clearAll (aliasTo al d) env) t) (tm.getD t undef) := by
            revert hs
            cases hx : nth (clearAll (aliasTo al d) env) t <;> simp_all
          simpa [htm t htd] using hx
  · intro t t' us us' b h1 h2 h3 h4
    rcases hcases t us h1 with ⟨rfl, hlt, _⟩ | ⟨hne, h1'⟩ <;> rcases hcases t' us' h2 with ⟨h6, hlt', _⟩ | ⟨hne', h2'⟩
    · exact h6.symm
    · exfalso
      simp [Array.getElem?_setIfInBounds, hlt] at h3
      rw [htm t' hne'] at h4
      have := hblk t' us' b h2' h4
      omega
    · exfalso
      subst h6
      simp [Array.getElem?_setIfInBounds, hlt'] at h4
      rw [htm t hne] at h3
      have := hblk t us b h1' h3
      omega
    · rw [htm t hne] at h3; rw [htm t' hne'] at h4
      exact ec.apart t t' us us' b h1' h2' h3 h4
  · rintro b ⟨t, us, h1, h2⟩
    rcases hcases t us h1 with ⟨rfl, hlt, _⟩ | ⟨hne, h1'⟩
    · right
      simp [Array.getElem?_setIfInBounds, hlt] at h2
      exact h2.symm
    · left
      rw [htm t hne] at h2
      exact lc b ⟨t, us, h1', h2⟩

end
end Go.Proofs.Ytomhcjiefmaopaa
namespace Go.Proofs.Ytomhcjiefmaopaa
open Go Go.RowKit

def Nx (h : AHeap) (r : Res (AVal × AHeap)) : Prop := ∀ v h', r = .ok (v, h') → h.next ≤ h'.next
def NxH (h : AHeap) (r : Res AHeap) : Prop := ∀ h', r = .ok h' → h.next ≤ h'.next

theorem Nx.err {h : AHeap} {n : Nat} : Nx h (.err n) := fun _ _ hh => by cases hh
theorem Nx.same {h : AHeap} {v : AVal} : Nx h (.ok (v, h)) := fun _ _ hh => by cases hh; exact Nat.le_refl _
theorem Nx.set {h : AHeap} {v : AVal} {o : Nat} {x : AObj} : Nx h (.ok (v, h.set o x)) := fun _ _ hh => by cases hh; exact Nat.le_refl _
theorem Nx.push {h : AHeap} {v : AVal} {x : AObj} : Nx h (.ok (v, h.push x)) := fun _ _ hh => by cases hh; exact Nat.le_succ _
theorem Nx.del {h : AHeap} {v : AVal} {o : Nat} {x : AObj} : Nx h (.ok (v, (h.del o).push x)) := fun _ _ hh => by cases hh; exact Nat.le_succ _
theorem Nx.bind {α : Type} {h : AHeap} {m : Res α} {f : α → Res (AVal × AHeap)} (hf : ∀ a, Nx h (f a)) : Nx h (m.bind f) := fun v h' hh => by
  obtain ⟨a, _, h2⟩ := Res.bind_ok hh; exact hf a v h' h2
theorem Nx.pure {h : AHeap} {r : Res AVal} : Nx h (pureV h r) := Nx.bind fun _ => Nx.same
theorem NxH.err {h : AHeap} {n : Nat} : NxH h (.err n) := fun _ hh => by cases hh
theorem NxH.set {h : AHeap} {o : Nat} {x : AObj} : NxH h (.ok (h.set o x)) := fun _ hh => by cases hh; exact Nat.le_refl _
theorem NxH.bind {α : Type} {h : AHeap} {m : Res α} {f : α → Res AHeap} (hf : ∀ a, NxH h (f a)) : NxH h (m.bind f) := fun h' hh => by
  obtain ⟨a, _, h2⟩ := Res.bind_ok hh; exact hf a h' h2
theorem Nx.of_H {h : AHeap} {m : Res AHeap} {v : AVal} (hm : NxH h m) : Nx h (m.bind fun h' => .ok (v, h')) := fun _ h' hh => by
  obtain ⟨a, h1, h2⟩ := Res.bind_ok hh; cases h2; exact hm _ h1

theorem storeR_next {c : Cfg} {h : AHeap} {t : Nat} {x v : AVal} : NxH h (storeR c h t x v) := by unfold storeR; repeat' (first | exact Nx.err | exact Nx.same | exact Nx.set | exact Nx.push | exact Nx.del | exact Nx.pure | exact NxH.err | exact NxH.set | (with_reducible refine Nx.bind (fun _ => ?_)) | (with_reducible refine NxH.bind (fun _ => ?_)) | split)
theorem mapUpdateR_next {c : Cfg} {h : AHeap} {t : Nat} {x k v : AVal} : NxH h (mapUpdateR c h t x k v) := by unfold mapUpdateR; repeat' (first | exact Nx.err | exact Nx.same | exact Nx.set | exact Nx.push | exact Nx.del | exact Nx.pure | exact NxH.err | exact NxH.set | (with_reducible refine Nx.bind (fun _ => ?_)) | (with_reducible refine NxH.bind (fun _ => ?_)) | split)
theorem boxR_next {h : AHeap} {v : AVal} : Nx h (boxR h v) := by unfold boxR; repeat' (first | exact Nx.err | exact Nx.same | exact Nx.set | exact Nx.push | exact Nx.del | exact Nx.pure | exact NxH.err | exact NxH.set | (with_reducible refine Nx.bind (fun _ => ?_)) | (with_reducible refine NxH.bind (fun _ => ?_)) | split)
theorem buildSliceR_next {P : Program} {h : AHeap} {t n : Nat} {l : List (Nat × AVal)} : Nx h (buildSliceR P h t n l) := by unfold buildSliceR; repeat' (first | exact Nx.err | exact Nx.same | exact Nx.set | exact Nx.push | exact Nx.del | exact Nx.pure | exact NxH.err | exact NxH.set | (with_reducible refine Nx.bind (fun _ => ?_)) | (with_reducible refine NxH.bind (fun _ => ?_)) | split)
theorem makeSliceR_next {P : Program} {h : AHeap} {t : Nat} {l m : AVal} : Nx h (makeSliceR P h t l m) := by unfold makeSliceR; repeat' (first | exact Nx.err | exact Nx.same | exact Nx.set | exact Nx.push | exact Nx.del | exact Nx.pure | exact NxH.err | exact NxH.set | (with_reducible refine Nx.bind (fun _ => ?_)) | (with_reducible refine NxH.bind (fun _ => ?_)) | split)
theorem appendR_next {c : Cfg} {h : AHeap} {t : Nat} {xt : Option Nat} {l m : AVal} : Nx h (appendR c h t xt l m) := by unfold appendR; repeat' (first | exact Nx.err | exact Nx.same | exact Nx.set | exact Nx.push | exact Nx.del | exact Nx.pure | exact NxH.err | exact NxH.set | (with_reducible refine Nx.bind (fun _ => ?_)) | (with_reducible refine NxH.bind (fun _ => ?_)) | split)
theorem copyR_next {c : Cfg} {h : AHeap} {t : Nat} {l m : AVal} : Nx h (copyR c h t l m) := by unfold copyR; repeat' (first | exact Nx.err | exact Nx.same | exact Nx.set | exact Nx.push | exact Nx.del | exact Nx.pure | exact NxH.err | exact NxH.set | (with_reducible refine Nx.bind (fun _ => ?_)) | (with_reducible refine NxH.bind (fun _ => ?_)) | split)
theorem clearR_next {c : Cfg} {h : AHeap} {t : Nat} {l : AVal} : Nx h (clearR c h t l) := by unfold clearR; repeat' (first | exact Nx.err | exact Nx.same | exact Nx.set | exact Nx.push | exact Nx.del | exact Nx.pure | exact NxH.err | exact NxH.set | (with_reducible refine Nx.bind (fun _ => ?_)) | (with_reducible refine NxH.bind (fun _ => ?_)) | split)
theorem deleteR_next {c : Cfg} {h : AHeap} {t : Nat} {l m : AVal} : Nx h (deleteR c h t l m) := by unfold deleteR; repeat' (first | exact Nx.err | exact Nx.same | exact Nx.set | exact Nx.push | exact Nx.del | exact Nx.pure | exact NxH.err | exact NxH.set | (with_reducible refine Nx.bind (fun _ => ?_)) | (with_reducible refine NxH.bind (fun _ => ?_)) | split)
theorem builtinR_next {c : Cfg} {h : AHeap} {b : Builtin} {ts : Array Nat} {l : List AVal} : Nx h (builtinR c h b ts l) := by
  unfold builtinR
  repeat' (first
    | exact appendR_next | exact copyR_next | exact clearR_next | exact deleteR_next
    | exact Nx.err | exact Nx.same | (with_reducible refine Nx.bind (fun _ => ?_)) | split)

theorem opR_next {c : Cfg} {bad : List Nat} {env : List AVal} {h : AHeap} {o : Oper} : Nx h (opR c bad env h o) := by
  unfold opR
  repeat' (first
    | exact Nx.pure | exact boxR_next | exact buildSliceR_next | exact makeSliceR_next | exact builtinR_next | exact Nx.of_H storeR_next | exact Nx.of_H mapUpdateR_next
    | exact Nx.err | exact Nx.same | exact Nx.push | exact Nx.set | (with_reducible refine Nx.bind (fun _ => ?_)) | split)

end Go.Proofs.Ytomhcjiefmaopaa
namespace Go.Proofs.Ytomhcjiefmaopaa
open Go Go.RowKit

theorem Res.bind_assoc {α β γ : Type} (m : Res α) (f : α → Res β) (g : β → Res γ) : (m.bind f).bind g = m.bind fun a => (f a).bind g := by
  cases m <;> rfl

def step1 (C : CallR) (c : Cfg) (loc : List Nat) (al : List (Nat × Nat)) (bad : List Nat) (ops : Array Oper) (o : Oper) (s : RS) : Res RS :=
  stepK (ansR C RS) c loc al bad ops o s .ok

@[simp] theorem Res.ok_bind {α β : Type} (a : α) (f : α → Res β) : (Res.ok a).bind f = f a := rfl
@[simp] theorem Res.err_bind {α β : Type} (n : Nat) (f : α → Res β) : (Res.err n : Res α).bind f = .err n := rfl

theorem stepK_eq {α : Type} (C : CallR) (c : Cfg) (loc : List Nat) (al : List (Nat × Nat)) (bad : List Nat) (ops : Array Oper) (o : Oper) (s : RS) (K : RS → Res α) :
    stepK (ansR C α) c loc al bad ops o s K = (step1 C c loc al bad ops o s).bind K := by
  unfold step1 stepK
  split
  · split
    · simp only [ansR, Res.bind_assoc, Res.ok_bind]
    · simp only [ansR, Res.bind_assoc]
      congr 1; funext b
      congr 1; funext fa
      cases b <;> simp [Res.bind_assoc]
  · split
    · simp only [ansR, Res.bind_assoc, Res.ok_bind]
    · simp only [ansR, Res.bind_assoc, Res.ok_bind]
    · split <;> simp only [ansR, Res.bind_assoc, Res.ok_bind, Res.err_bind]
    · simp only [ansR, Res.bind_assoc, Res.ok_bind]
    · split <;> simp only [ansR, Res.bind_assoc, Res.ok_bind, Res.err_bind]

def runText1 (C : CallR) (c : Cfg) (loc : List Nat) (al : List (Nat × Nat)) (bad : List Nat) (ops : Array Oper) (l : List Oper) (s : RS) : Res RS :=
  runText (ansR C RS) c loc al bad ops l s .ok

theorem runText_eq {α : Type} (C : CallR) (c : Cfg) (loc : List Nat) (al : List (Nat × Nat)) (bad : List Nat) (ops : Array Oper) (K : RS → Res α) : ∀ (l : List Oper) (s : RS),
    runText (ansR C α) c loc al bad ops l s K = (runText1 C c loc al bad ops l s).bind K
  | [], s => rfl
  | o :: l, s => by
    unfold runText1
    simp only [runText]
    rw [stepK_eq, stepK_eq, Res.bind_assoc]
    congr 1; funext s'
    rw [runText_eq C c loc al bad ops K l s']; rfl

theorem runText1_cons (C : CallR) (c : Cfg) (loc : List Nat) (al : List (Nat × Nat)) (bad : List Nat) (ops : Array Oper) (o : Oper) (l : List Oper) (s : RS) :
    runText1 C c loc al bad ops (o :: l) s = (step1 C c loc al bad ops o s).bind fun s' => runText1 C c loc al bad ops l s' := by
  unfold runText1; simp only [runText]; rw [stepK_eq]

/-! ### calls -/
def CallTo (P : Program) (f : Nat) (args : Array Value) (w : World) (R : Value → World → Prop) : Prop :=
  (∃ v w', (callFunc f args).run P w = .ok (.value v) w' ∧ R v w') ∨
  ((callFunc f args).run P w = .ok (.enter f args) w ∧ Calls P f args w fun | .returned v, w' => R v w' | _, _ => False)

def CallSound (F : Fix) (C : CallR) : Prop := ∀ f args h v h', C f args h = .ok (v, h') → h.next ≤ h'.next ∧
  ∀ ι w (av : Array Value), Rel F ι h w → VRels ι F.ρ args av.toList → Fresh ι h.next h'.next → CallTo F.c.P f av w (Out F ι h w v h')

/-- what a callee is -/
theorem methodR_run {P : Program} {t : Nat} {name : String} {f : Nat} {ev : Value} {args : Array Value} {w : World} (hq : methodR P t name = .ok f) :
    (callMethod (.iface t ev) name args).run P w = (callFunc f (#[ev] ++ args)).run P w := by
  unfold methodR at hq
  obtain ⟨i, h1, hq⟩ := Res.bind_ok hq
  obtain ⟨m, h2, hq⟩ := Res.bind_ok hq
  have hi := infoR_ok h1
  have hm := ofOpt_ok h2
  split at hq
  rotate_left; · cases hq
  rename_i hp
  have hp' : m.path.toList = [] := by simpa using hp
  have hd : Made.depth = (Made.depth - 1) + 1 := by decide
  split at hq
  · rename_i f' ptr hf
    obtain ⟨d, h3, hq⟩ := Res.bind_ok hq
    have hu := undR_ok h3
    simp only [callMethod, Sem.run_bind, run_program, Result.andThen_ok]
    rw [hd, ← Nat.add_assoc]
    simp only [Go.method, Sem.run_bind, run_typeInfo' hi, Result.andThen_ok, hm, hp', Go.follow, Sem.run_pure, hf]
    split at hq
    · split at hq
      · rename_i hptr
        cases hq
        simp [receiverAt, run_und hu, hptr, Place.get]
      · cases hq
    · split at hq
      · cases hq
      · rename_i hnp hptr
        cases hq
        have : ptr = false := by simpa using hptr
        subst this
        simp only [receiverAt, Sem.run_bind, run_und hu, Result.andThen_ok]
        simp [Place.get]
  · cases hq

section
variable {F : Fix} {ι : Inj} {h : AHeap} {w : World} {loc : List Nat} {al : List (Nat × Nat)} {env : List AVal} {tm : Array Value}

/-- blocks that stay -/
theorem Rel.keep (r : Rel F ι h w) {B : Nat → Prop} {w' : World} (k : Keep B w w') (hB : ∀ b, B b → F.N ≤ b) (hO : ∀ b, Own ι h b → w'.heap[b]? = w.heap[b]?) : Rel F ι h w' := by
  refine ⟨k.below r.below (Nat.le_refl _) hB, fun o x hx => ?_, r.inj, r.lt⟩
  obtain ⟨e, e1, e2, e3⟩ := r.obj o x hx
  exact ⟨e, e1, e2, e3.mono (Sub.refl _) (hO _ ⟨o, x, e, hx, e1, rfl⟩)⟩

/-! ### what an operation's outcome leads to -/
def StepTo (P : Program) (ops : Array Oper) (i : Nat) (tm : Array Value) (w : World) (R : Array Value → World → Prop) : Prop :=
  ∀ (Q : Exit → Act → World → Prop) (K : Act → World → Prop) (ds : List Deferred), (∀ tm' w', R tm' w' → K ⟨tm', ds⟩ w') → wpOp P ops Q i K ⟨tm, ds⟩ w

def putT (tm : Array Value) (d : Option Nat) (v : Value) : Array Value :=
  match d with
  | some d => tm.setIfInBounds d v
  | none => tm

theorem put_eq (tm : Array Value) (ds : List Deferred) (d : Option Nat) (v : Value) : (⟨tm, ds⟩ : Act).put d v = ⟨putT tm d v, ds⟩ := by
  cases d <;> rfl

theorem StepTo.op {P : Program} {ops : Array Oper} {i : Nat} {o : Oper} {tm : Array Value} {w : World} {R : Array Value → World → Prop} (ho : ops[i]? = some o)
    (hw : Region.wanted o (yielded ops tm) = true) (h : ∀ ds, OpTo P (execOp (⟨tm, ds⟩ : Act).eval o) w fun v w' => R (putT tm o.dst v) w') : StepTo P ops i tm w R := by
  intro Q K ds hK
  simp only [wpOp, ho]
  rw [if_pos hw]
  left
  obtain ⟨v, w', h1, h2⟩ := h ds
  unfold Oper.wp
  rcases h1 with h1 | ⟨h1, rfl⟩
  · rw [h1, Oper.upon_value, put_eq]; exact hK _ _ h2
  · rw [h1, Oper.upon_skip, put_eq]; exact hK _ _ h2

theorem StepTo.call {P : Program} {ops : Array Oper} {i : Nat} {o : Oper} {tm : Array Value} {w : World} {R : Array Value → World → Prop} (ho : ops[i]? = some o)
    (hw : Region.wanted o (yielded ops tm) = true) {f : Nat} {args : Array Value} (hc : ∀ ds, (execOp (⟨tm, ds⟩ : Act).eval o).run P w = (callFunc f args).run P w)
    (h : CallTo P f args w fun v w' => R (putT tm o.dst v) w') : StepTo P ops i tm w R := by
  intro Q K ds hK
  simp only [wpOp, ho]
  rw [if_pos hw]
  left
  unfold Oper.wp
  rw [hc]
  rcases h with ⟨v, w', h1, h2⟩ | ⟨h1, h2⟩
  · rw [h1, Oper.upon_value, put_eq]; exact hK _ _ h2
  · rw [h1, Oper.upon_enter]
    refine Calls.mono h2 fun e w' he => ?_
    cases e with
    | returned v => simp only [put_eq]; exact hK _ _ he
    | panicked _ => exact he.elim
    | outgrown => exact he.elim

theorem StepTo.skip {P : Program} {ops : Array Oper} {i : Nat} {o : Oper} {tm : Array Value} {w : World} {R : Array Value → World → Prop} (ho : ops[i]? = some o)
    (hw : Region.wanted o (yielded ops tm) = false) (h : R (putT tm o.dst undef) w) : StepTo P ops i tm w R := by
  intro Q K ds hK
  simp only [wpOp, ho]
  rw [if_neg (by simp [hw]), put_eq]
  exact hK _ _ h

theorem StepTo.mono {P : Program} {ops : Array Oper} {i : Nat} {tm : Array Value} {w : World} {R R' : Array Value → World → Prop} (h : StepTo P ops i tm w R) (hR : ∀ tm w, R tm w → R' tm w) : StepTo P ops i tm w R' :=
  fun Q K ds hK => h Q K ds fun tm' w' hr => hK _ _ (hR _ _ hr)

/-- what the slots hold -/
theorem EnvOk.opnd_ok {bad : List Nat} (ok : F.Ok) (e : EnvOk F ι h loc al env tm w) (hb1 : ∀ t, loc.contains t = true → bad.contains t = true) (hb2 : ∀ t s, lookN al t = some s → bad.contains t = true)
    (ds : List Deferred) (x : Operand) (a : AVal) (hx : opnd bad env x = .ok a) : VRel ι F.ρ a ((⟨tm, ds⟩ : Act).eval x) := by
  unfold opnd at hx
  split at hx
  · rename_i t
    split at hx
    · cases hx
    · rename_i hbt
      cases hx
      have h1 : loc.contains t = false := by
        cases hc : loc.contains t with
        | false => rfl
        | true => exact absurd (hb1 t hc) hbt
      have h2 : lookN al t = none := by
        cases hc : lookN al t with
        | none => rfl
        | some s => exact absurd (hb2 t s hc) hbt
      have := (e.slot t).val h1 h2
      simpa [Act.eval, Array.getD_eq_getD_getElem?] using this
  · rename_i v
    exact toA_ok (ofOpt_ok hx)
  · rename_i g
    split at hx
    · rename_i hg
      cases hx
      exact ⟨(g, 0), ok.glob g hg, by simp [Act.eval]⟩
    · cases hx
  · cases hx
    exact ⟨#[], #[], by simp [Act.eval], rfl, rfl⟩

theorem EnvOk.wanted_ok (e : EnvOk F ι h loc al env tm w) {ops : Array Oper} {o : Oper} {b : Bool} (hq : wantedR ops env o = .ok b) : Region.wanted o (yielded ops tm) = b := by
  unfold wantedR at hq
  unfold Region.wanted
  split at hq
  · rename_i hg; cases hq; simp [hg]
  · rename_i j want hg
    simp only [hg]
    split at hq
    rotate_left; · cases hq
    rename_i d hd
    have hs := e.slot d
    unfold SlotOk at hs
    have hy : yielded ops tm j = (match tm[d]? with | some (.bool b) => some b | _ => none) := by
      unfold yielded; rw [hd]; rfl
    rw [hy]
    split at hq
    · rename_i b' hn
      simp only [hn, VRel] at hs
      cases hq
      cases ht : tm[d]? with
      | none => rw [Array.getD_eq_getD_getElem?, ht] at hs; cases hs
      | some v => rw [Array.getD_eq_getD_getElem?, ht] at hs; simp at hs; subst hs; rfl
    · rename_i hn
      simp only [hn] at hs
      cases hq
      obtain ⟨a, h1, h2⟩ := hs
      have h3 : a = #[] := by apply Array.toList_inj.1; simpa [VRels] using h2
      subst h3
      cases ht : tm[d]? with
      | none => cases want <;> rfl
      | some v => rw [Array.getD_eq_getD_getElem?, ht] at h1; simp at h1; subst h1; cases want <;> rfl
    · cases hq


/-- a value put -/
theorem St.put (st : St F ι loc al env h tm w) (hal : ∀ t s, lookN al t = some s → loc.contains s = true) {o : Oper} (hd : ∀ d, o.dst = some d → loc.contains d = false)
    {v : AVal} {h' : AHeap} {u : Value} {w' : World} (out : Out F ι h w v h' u w') :
    ∃ ι', St F ι' loc al (putD env o v) h' (putT tm o.dst u) w' ∧ TStep ι h env tm w ι' h' (putD env o v) (putT tm o.dst u) w' := by
  obtain ⟨ι', hv, r', sp⟩ := out
  refine ⟨ι', ?_⟩
  have e1 := st.env.step sp
  have key : ∀ env' tm', EnvOk F ι' h' loc al env' tm' w' → (∀ b, LocB env' tm' b → LocB env tm b) → St F ι' loc al env' h' tm' w' ∧ TStep ι h env tm w ι' h' env' tm' w' := by
    intro env' tm' e2 lb
    refine ⟨⟨r', e2⟩, ⟨sp.sub, sp.dom, sp.next, sp.keep.mono (fun _ _ hb => .inl hb), sp.own, fun b hb => .inl (lb b hb)⟩⟩
  unfold putD putT
  cases hdst : o.dst with
  | none => exact key _ _ e1 fun _ hb => hb
  | some d =>
    obtain ⟨e2, lb⟩ := e1.put hal (hd d hdst) hv
    exact key _ _ e2 lb

theorem Out.same {v : AVal} {u : Value} (r : Rel F ι h w) (hv : VRel ι F.ρ v u) : Out F ι h w v h u w := ⟨ι, hv, r, Step.refl _ _ _⟩

/-- what is called -/
theorem callee_ok {ρ : RoMap} {c : Cfg} {bad : List Nat} {ev : Operand → Value} (hev : ∀ x a, opnd bad env x = .ok a → VRel ι ρ a (ev x)) {o : Oper} {x : Call} (hx : callOf o = some x) {f : Nat} {args : List AVal}
    (hq : calleeR c bad env x = .ok (f, args)) : ∃ av : Array Value, VRels ι ρ args av.toList ∧ (execOp ev o).run c.P w = (callFunc f av).run c.P w := by
  unfold callOf at hx
  split at hx
  rotate_left; · cases hx
  rename_i x' hop
  unfold calleeR at hq
  obtain ⟨as, h1, hq⟩ := Res.bind_ok hq
  have ha := opnds_ok hev _ _ h1
  split at hx
  · cases hx
  · rename_i hnb
    cases hx
    simp only [execOp, hop, resolve]
    split at hq
    · rename_i fo hf
      obtain ⟨v, h2, hq⟩ := Res.bind_ok hq
      split at hq
      rotate_left; · cases hq
      rename_i f' first cap
      cases hq
      obtain ⟨a', b', e1, e2, e3⟩ := hev _ _ h2
      refine ⟨a' ++ x.args.map ev ++ b', ?_, ?_⟩
      · simpa using (e2.append ha).append e3
      · rw [hf]; simp [e1, Deferred.ofValue, invoke]
    · rename_i ro name hf
      obtain ⟨v, h2, hq⟩ := Res.bind_ok hq
      split at hq
      rotate_left; · cases hq
      rename_i t rv
      obtain ⟨f', h3, hq⟩ := Res.bind_ok hq
      cases hq
      obtain ⟨y, e1, e2⟩ := hev _ _ h2
      refine ⟨#[y] ++ x.args.map ev, ?_, ?_⟩
      · have : (#[y] ++ x.args.map ev).toList = y :: x.args.toList.map ev := by simp
        rw [this]; exact ⟨y, _, rfl, e2, ha⟩
      · rw [hf]
        have h0 : (#[ev ro] ++ x.args.map ev)[0]? = some (ev ro) := by
          rw [← Array.getElem?_toList]; simp
        have h1' : (#[ev ro] ++ x.args.map ev).extract 1 (#[ev ro] ++ x.args.map ev).size = x.args.map ev := by
          apply Array.toList_inj.1; simp [List.take_of_length_le]
        simp only [Sem.run_bind, Sem.run_pure, Result.andThen_ok, invoke, h0, h1']
        rw [e1]; exact methodR_run h3
    · cases hq


theorem EnvOk.keep (e : EnvOk F ι h loc al env tm w) {w' : World} (hk : ∀ b, LocB env tm b → w'.heap[b]? = w.heap[b]?) : EnvOk F ι h loc al env tm w' := by
  refine ⟨e.size, fun t => ?_, e.apart⟩
  have := e.slot t
  unfold SlotOk at this ⊢
  split
  · rename_i vs hv
    simp only [hv] at this
    obtain ⟨h1, b, c, T, h2, h3, h4, h5, h6⟩ := this
    exact ⟨h1, b, c, T, h2, h3, h4, by rw [hk b ⟨t, vs, hv, h2⟩]; exact h5, h6⟩
  · rename_i off valid hv
    simp only [hv] at this
    exact this
  · rename_i a hn1 hn2
    revert this
    cases hx : nth env t <;> simp_all

/-- a slot pointed into a cell, or not worked out -/
theorem St.putLoc (st : St F ι loc al env h tm w) (hal : ∀ t s, lookN al t = some s → loc.contains s = true) {o : Oper} {d s off : Nat} {valid : Bool} {u : Value} (hdst : o.dst = some d) (hd : loc.contains d = false) (hl : lookN al d = some s)
    (hv : valid = true → ∃ b, u = .pointer (some ⟨b, off, none⟩) ∧ tm[s]? = some (.pointer (some ⟨b, 0, none⟩))) :
    St F ι loc al (putD env o (.loc off valid)) h (putT tm o.dst u) w ∧ TStep ι h env tm w ι h (putD env o (.loc off valid)) (putT tm o.dst u) w := by
  unfold putD putT
  rw [hdst]
  obtain ⟨e2, lb⟩ := st.env.putLoc hal hd hl hv
  exact ⟨⟨st.rel, e2⟩, ⟨Sub.refl _, fun _ => .inr (.inl rfl), Nat.le_refl _, Keep.refl _ _, fun b hb => .inl hb, fun b hb => .inl (lb b hb)⟩⟩

/-- where a slot points into its cell -/
theorem EnvOk.base (e : EnvOk F ι h loc al env tm w) {t s off : Nat} (hts : t = s ∨ lookN al t = some s) (hq : baseOff env t s = .ok (off, true)) :
    ∃ b, tm[t]? = some (.pointer (some ⟨b, off, none⟩)) ∧ tm[s]? = some (.pointer (some ⟨b, 0, none⟩)) := by
  unfold baseOff at hq
  split at hq
  · rename_i hd
    have : t = s := by simpa using hd
    subst this
    split at hq
    · rename_i vs hn
      cases hq
      have := e.slot t
      unfold SlotOk at this
      simp only [hn] at this
      obtain ⟨_, b, c, T, h2, _⟩ := this
      exact ⟨b, h2, h2⟩
    · cases hq
  · rename_i hd
    have hne : t ≠ s := by simpa using hd
    split at hq
    · rename_i off' valid hn
      cases hq
      have := e.slot t
      unfold SlotOk at this
      simp only [hn] at this
      obtain ⟨s', h1, h2⟩ := this
      rcases hts with hts | hts
      · exact absurd hts hne
      · rw [hts] at h1; cases h1
        exact h2 trivial
    · cases hq


theorem slotOf_ok {x : Operand} {t s : Nat} (hq : slotOf loc al x = some (t, s)) : x = .tmp t ∧ ((t = s ∧ loc.contains t = true) ∨ lookN al t = some s) := by
  unfold slotOf at hq
  split at hq
  rotate_left; · cases hq
  rename_i t'
  split at hq
  · rename_i hl; cases hq; exact ⟨rfl, .inl ⟨rfl, hl⟩⟩
  · split at hq
    · rename_i s' hs; cases hq; exact ⟨rfl, .inr hs⟩
    · cases hq


def HowP (loc : List Nat) (al : List (Nat × Nat)) (o : Oper) : How → Prop
  | .plain => True
  | .alias_ t s => ∃ x, slotOf loc al x = some (t, s) ∧ (o.op = .move x ∨ o.op = .nilCheck x ∨ (∃ T f, o.op = .fieldAddr T x f) ∨ ∃ T i, o.op = .indexAddr T x i)
  | .make d => o.dst = some d ∧ loc.contains d = true ∧ ((∃ T, o.op = .alloc T) ∨ ∃ T x, o.op = .box T x)
  | .load_ t s => ∃ T x, slotOf loc al x = some (t, s) ∧ o.op = .load T x
  | .store_ t s => ∃ T x y, slotOf loc al x = some (t, s) ∧ o.op = .store T x y

theorem how_inv' (loc : List Nat) (al : List (Nat × Nat)) (o : Oper) : HowP loc al o (how loc al o) := by
  obtain ⟨dst, op, type, pos, after, guard⟩ := o
  unfold how
  cases op
  case alloc T =>
    cases dst with
    | none => trivial
    | some d =>
      simp only
      split
      · rename_i hl; exact ⟨rfl, hl, .inl ⟨_, rfl⟩⟩
      · trivial
  case box T x =>
    cases dst with
    | none => trivial
    | some d =>
      simp only
      split
      · rename_i hl; exact ⟨rfl, hl, .inr ⟨_, _, rfl⟩⟩
      · trivial
  case move x =>
    simp only
    split
    · rename_i p hs; exact ⟨x, hs, .inl rfl⟩
    · trivial
  case nilCheck x =>
    simp only
    split
    · rename_i p hs; exact ⟨x, hs, .inr (.inl rfl)⟩
    · trivial
  case fieldAddr T x f =>
    simp only
    split
    · rename_i p hs; exact ⟨x, hs, .inr (.inr (.inl ⟨_, _, rfl⟩))⟩
    · trivial
  case indexAddr T x f =>
    simp only
    split
    · rename_i p hs; exact ⟨x, hs, .inr (.inr (.inr ⟨_, _, rfl⟩))⟩
    · trivial
  case load T x =>
    simp only
    split
    · rename_i p hs; exact ⟨T, x, hs, rfl⟩
    · trivial
  case store T x y =>
    simp only
    split
    · rename_i p hs; exact ⟨T, x, y, hs, rfl⟩
    · trivial
  all_goals trivial

theorem how_inv {o : Oper} {q : How} (hh : how loc al o = q) : HowP loc al o q := hh ▸ how_inv' loc al o

/-- an operation that points on in a cell -/
theorem alias_ok {bad : List Nat} {o : Oper} {t s off : Nat} (e : EnvOk F ι h loc al env tm w) (ev : Operand → Value) (hev : ∀ x a, opnd bad env x = .ok a → VRel ι F.ρ a (ev x)) (het : ∀ t, ev (.tmp t) = tm.getD t undef)
    (hh : how loc al o = .alias_ t s) (hq : aliasR F.c.P bad env t s o = .ok (off, true)) :
    ∃ b, (execOp ev o).run F.c.P w = .ok (.value (.pointer (some ⟨b, off, none⟩))) w ∧ tm[s]? = some (.pointer (some ⟨b, 0, none⟩)) := by
  unfold aliasR at hq
  obtain ⟨bo, h1, hq⟩ := Res.bind_ok hq
  obtain ⟨b0, v0⟩ := bo
  cases v0 with
  | false => cases hq
  | true =>
    obtain ⟨n, h2, hq⟩ := Res.bind_ok hq
    cases hq
    obtain ⟨x, hs, hop⟩ := how_inv hh
    obtain ⟨rfl, hts⟩ := slotOf_ok hs
    obtain ⟨b, b1, b2⟩ := e.base (hts.imp (·.1) id) h1
    have hx : ev (.tmp t) = .pointer (some ⟨b, b0, none⟩) := by rw [het, Array.getD_eq_getD_getElem?, b1]; rfl
    refine ⟨b, ?_, b2⟩
    unfold stepOff at h2
    rcases hop with hop | hop | ⟨T, f, hop⟩ | ⟨T, i, hop⟩
    · simp only [hop] at h2; cases h2; simp [execOp, hop, hx]
    · simp only [hop] at h2; cases h2; simp [execOp, hop, hx]
    · simp only [hop] at h2
      obtain ⟨fd, f1, h2⟩ := Res.bind_ok h2
      obtain ⟨n', f2, h2⟩ := Res.bind_ok h2
      split at h2
      · cases h2
      · rename_i hn
        cases h2
        obtain ⟨fs, hu, hf⟩ := fieldOf_ok f1
        simp [execOp, hop, hx, Instr.fieldAt, run_und hu, hf, Instr.sureAddr, fieldPlace, run_size f2, hn, add_none]
    · simp only [hop] at h2
      obtain ⟨d, f1, h2⟩ := Res.bind_ok h2
      split at h2
      rotate_left; · cases h2
      obtain ⟨size, f2, h2⟩ := Res.bind_ok h2
      obtain ⟨iv, f3, h2⟩ := Res.bind_ok h2
      obtain ⟨n', f4, h2⟩ := Res.bind_ok h2
      cases h2
      have hu := undR_ok f1
      obtain ⟨k, z, z0, z1, z2, z3⟩ := idx_ok f4 (hev _ _ f3)
      subst z3
      simp [execOp, hop, hx, Instr.indexAt, run_und hu, z0, asIntOf, run_size f2, Instr.sureAddr, z1, z2, add_none]

/-- a cell, with its block -/
theorem EnvOk.cell (e : EnvOk F ι h loc al env tm w) {t s off : Nat} {vs : List AVal} (hts : t = s ∨ lookN al t = some s) (hq : cellAt env t s = .ok (vs, off)) :
    nth env s = .cell vs ∧ ∃ b c T, tm[t]? = some (.pointer (some ⟨b, off, none⟩)) ∧ tm[s]? = some (.pointer (some ⟨b, 0, none⟩)) ∧ F.N ≤ b ∧ ¬ Own ι h b ∧ w.heap[b]? = some (.cells c T (0, 0)) ∧ VRels ι F.ρ vs c.toList ∧ ∀ v ∈ c.toList, oneC v = true := by
  unfold cellAt at hq
  split at hq
  rotate_left; · cases hq
  rename_i vs' hn
  obtain ⟨bo, h1, hq⟩ := Res.bind_ok hq
  split at hq
  rotate_left; · cases hq
  rename_i hb
  cases hq
  obtain ⟨b0, v0⟩ := bo
  simp only at hb; subst hb
  refine ⟨hn, ?_⟩
  obtain ⟨b, b1, b2⟩ := e.base hts h1
  have := e.slot s
  unfold SlotOk at this
  simp only [hn] at this
  obtain ⟨_, b', c, T, h2, h3⟩ := this
  rw [b2] at h2; cases h2
  exact ⟨b, c, T, b1, b2, h3⟩

theorem cells_at {ρ : RoMap} {vs : List AVal} {b : Nat} {c : Array Value} {T : TypeId} {fr : Nat × Nat} (hb : w.heap[b]? = some (.cells c T fr)) (hr : VRels ι ρ vs c.toList) (ho : ∀ v ∈ c.toList, oneC v = true) : CellsAt ι ρ w b 0 vs := by
  intro j a hj
  obtain ⟨v, v1, v2⟩ := hr.get hj
  refine ⟨v, ?_, ho v (List.mem_of_getElem? v1), v2⟩
  have : c[j]? = some v := by simpa using v1
  simp [World.cell?, hb, this]

theorem loadCell_ok {o : Oper} {t s : Nat} {v : AVal} (e : EnvOk F ι h loc al env tm w) (ev : Operand → Value) (het : ∀ t, ev (.tmp t) = tm.getD t undef)
    (hh : how loc al o = .load_ t s) (hq : loadCell F.c.P env t s o = .ok v) : ∃ u, (execOp ev o).run F.c.P w = .ok (.value u) w ∧ VRel ι F.ρ v u := by
  obtain ⟨T, x, hs, hop⟩ := how_inv hh
  obtain ⟨rfl, hts⟩ := slotOf_ok hs
  unfold loadCell at hq
  simp only [hop] at hq
  obtain ⟨vo, h1, hq⟩ := Res.bind_ok hq
  obtain ⟨vs, off⟩ := vo
  obtain ⟨_, b, c, T', b1, b2, _, _, b5, b6, b7⟩ := e.cell (hts.imp (·.1) id) h1
  obtain ⟨u, u1, u2⟩ := (cells_at b5 b6 b7).loadVar (P := F.c.P) hq
  refine ⟨u, ?_, u2⟩
  have hx : ev (.tmp t) = .pointer (some ⟨b, off, none⟩) := by rw [het, Array.getD_eq_getD_getElem?, b1]; rfl
  rw [Nat.zero_add] at u1
  simp [execOp, hop, hx, Instr.loadAt, Instr.sureAddr, u1]


/-- a cell written -/
theorem EnvOk.setCell (e : EnvOk F ι h loc al env tm w) {s b : Nat} {vs vs' : List AVal} {c c' : Array Value} {T : TypeId} (hn : nth env s = .cell vs) (hb : tm[s]? = some (.pointer (some ⟨b, 0, none⟩)))
    (hw : w.heap[b]? = some (.cells c T (0, 0))) (hrel : VRels ι F.ρ vs' c'.toList) (hone : ∀ v ∈ c'.toList, oneC v = true) :
    EnvOk F ι h loc al (setN env s (.cell vs')) tm (w.setRow b c') ∧ ∀ k, LocB (setN env s (.cell vs')) tm k → LocB env tm k := by
  have hback : ∀ t us, nth (setN env s (.cell vs')) t = .cell us → (t = s ∧ us = vs') ∨ (t ≠ s ∧ nth env t = .cell us) := by
    intro t us ht
    rw [nth_setN] at ht
    split at ht
    · rename_i hh; cases ht; exact .inl ⟨hh.1.symm, rfl⟩
    · rename_i hh
      right
      refine ⟨fun hts => hh ⟨hts.symm, ?_⟩, ht⟩
      have : s < tm.size := (Array.getElem?_eq_some_iff.1 hb).1
      rw [e.size]; exact this
  have hs := e.slot s
  unfold SlotOk at hs
  simp only [hn] at hs
  obtain ⟨s1, b', c0, T0, s2, s3, s4, s5, _⟩ := hs
  rw [hb] at s2; cases s2
  rw [hw] at s5; cases s5
  refine ⟨⟨by rw [length_setN]; exact e.size, fun t => ?_, ?_⟩, ?_⟩
  · by_cases hts : t = s
    · subst hts
      have hlt : t < env.length := by rw [e.size]; exact (Array.getElem?_eq_some_iff.1 hb).1
      unfold SlotOk
      rw [nth_setN, if_pos ⟨rfl, hlt⟩]
      exact ⟨s1, b, c', T, hb, s3, s4, setRow_heap w b c c' T (0, 0) hw, hrel, hone⟩
    · have hn' : nth (setN env s (.cell vs')) t = nth env t := by rw [nth_setN, if_neg (fun hh => hts hh.1.symm)]
      have ht := e.slot t
      unfold SlotOk at ht ⊢
      rw [hn']
      split
      · rename_i us hc
        simp only [hc] at ht
        obtain ⟨h1, b2, c2, T2, h2, h3, h4, h5, h6⟩ := ht
        refine ⟨h1, b2, c2, T2, h2, h3, h4, ?_, h6⟩
        rw [setRow_other w b b2 c' (fun hbb => ?_)]
        · exact h5
        · subst hbb
          exact hts (e.apart t s us vs _ hc hn h2 hb)
      · rename_i off valid hc
        simp only [hc] at ht
        exact ht
      · revert ht
        cases hx : nth env t <;> simp_all
  · intro t t' us us' k h1 h2 h3 h4
    rcases hback t us h1 with ⟨ht, _⟩ | ⟨_, h1'⟩ <;> rcases hback t' us' h2 with ⟨ht', _⟩ | ⟨_, h2'⟩
    · rw [ht, ht']
    · exact e.apart _ _ _ _ k (ht ▸ hn) h2' h3 h4
    · exact e.apart _ _ _ _ k h1' (ht' ▸ hn) h3 h4
    · exact e.apart _ _ _ _ k h1' h2' h3 h4
  · rintro k ⟨t, us, h1, h2⟩
    rcases hback t us h1 with ⟨rfl, _⟩ | ⟨_, h1⟩
    · exact ⟨t, vs, hn, h2⟩
    · exact ⟨t, us, h1, h2⟩

theorem how_dst {o : Oper} {t s : Nat} (hop : opOk loc al o = true) (hh : how loc al o = .alias_ t s) : ∃ d, o.dst = some d ∧ loc.contains d = false ∧ lookN al d = some s := by
  unfold opOk at hop
  rw [hh] at hop
  simp only at hop
  split at hop
  · rename_i d hd
    simp at hop
    refine ⟨d, hd, by simpa using hop.1, hop.2⟩
  · cases hop

theorem opOk_put {o : Oper} (hop : opOk loc al o = true) (h1 : ∀ d, how loc al o ≠ .make d) : ∀ d, o.dst = some d → loc.contains d = false := by
  intro d hd
  unfold opOk at hop
  split at hop
  · rename_i d' hh; exact absurd hh (h1 d')
  · rw [hd] at hop; simp at hop; simpa using hop.1
  · rw [hd] at hop; simpa using hop

set_option maxHeartbeats 1000000 in
theorem step_ok {C : CallR} {bad : List Nat} {ops : Array Oper} {i : Nat} {o : Oper} {s s' : RS} (ok : F.Ok) (hC : CallSound F C)
    (hal : ∀ t s, lookN al t = some s → loc.contains s = true) (hb1 : ∀ t, loc.contains t = true → bad.contains t = true) (hb2 : ∀ t s, lookN al t = some s → bad.contains t = true)
    (ho : ops[i]? = some o) (hop : opOk loc al o = true) (st : St F ι loc al s.env s.h tm w) (hq : step1 C F.c loc al bad ops o s = .ok s') (fr : Fresh ι s.h.next s'.h.next) :
    StepTo F.c.P ops i tm w fun tm' w' => ∃ ι', St F ι' loc al s'.env s'.h tm' w' ∧ TStep ι s.h s.env tm w ι' s'.h s'.env tm' w' := by
  have hev := st.env.opnd_ok ok hb1 hb2 []
  have hds : ∀ ds, (⟨tm, ds⟩ : Act).eval = (⟨tm, []⟩ : Act).eval := fun ds => funext fun x => by cases x <;> rfl
  have het : ∀ t, (⟨tm, []⟩ : Act).eval (.tmp t) = tm.getD t undef := fun _ => rfl
  unfold step1 stepK at hq
  split at hq
  · rename_i x hx
    have hnm : ∀ d, how loc al o ≠ .make d := by
      intro d hh
      obtain ⟨_, _, h1 | h1⟩ := how_inv hh
      · obtain ⟨T, h1⟩ := h1; simp [callOf, h1] at hx
      · obtain ⟨T, y, h1⟩ := h1; simp [callOf, h1] at hx
    have hdst := opOk_put hop hnm
    have hcall : ∀ (fa : Nat × List AVal) (r : AVal × AHeap), calleeR F.c bad s.env x = .ok fa → C fa.1 fa.2 s.h = .ok r → Fresh ι s.h.next r.2.next → Region.wanted o (yielded ops tm) = true →
        StepTo F.c.P ops i tm w fun tm' w' => ∃ ι', St F ι' loc al (putD s.env o r.1) r.2 tm' w' ∧ TStep ι s.h s.env tm w ι' r.2 (putD s.env o r.1) tm' w' := by
      rintro ⟨f, args⟩ ⟨v, h'⟩ h1 h2 hfr hw
      obtain ⟨av, a1, a2⟩ := callee_ok (w := w) hev hx h1
      obtain ⟨_, hc⟩ := hC _ _ _ _ _ h2
      have hto := hc ι w av st.rel a1 hfr
      have hput : ∀ u w', Out F ι s.h w v h' u w' → ∃ ι', St F ι' loc al (putD s.env o v) h' (putT tm o.dst u) w' ∧ TStep ι s.h s.env tm w ι' h' (putD s.env o v) (putT tm o.dst u) w' :=
        fun u w' out => st.put hal hdst out
      refine StepTo.call ho hw (f := f) (args := av) (fun ds => by rw [hds]; exact a2) ?_
      rcases hto with ⟨u, w', c1, c2⟩ | ⟨c1, c2⟩
      · exact .inl ⟨u, w', c1, hput _ _ c2⟩
      · refine .inr ⟨c1, Calls.mono c2 fun e w' he => ?_⟩
        cases e with
        | returned u => exact hput _ _ he
        | panicked _ => exact he.elim
        | outgrown => exact he.elim
    split at hq
    · rename_i hg
      simp only [ansR] at hq
      obtain ⟨fa, h1, hq⟩ := Res.bind_ok hq
      obtain ⟨r, h2, hq⟩ := Res.bind_ok hq
      cases hq
      exact hcall fa r h1 h2 fr (by simp [Region.wanted, hg])
    · rename_i g hg
      simp only [ansR] at hq
      obtain ⟨b, h0, hq⟩ := Res.bind_ok hq
      have hw := st.env.wanted_ok h0
      obtain ⟨fa, h1, hq⟩ := Res.bind_ok hq
      cases b with
      | true =>
        simp only at h1 hq
        obtain ⟨r, h2, hq⟩ := Res.bind_ok hq
        cases hq
        exact hcall fa r h1 h2 fr hw
      | false =>
        simp only at hq
        cases hq
        exact StepTo.skip ho hw (st.put hal hdst (Out.same st.rel ⟨#[], rfl, rfl⟩))
  · split at hq
    · -- plain
      rename_i hh
      have hdst := opOk_put hop (fun d hc => by rw [hh] at hc; cases hc)
      simp only [ansR] at hq
      obtain ⟨r, h1, hq⟩ := Res.bind_ok hq
      obtain ⟨v, h'⟩ := r
      cases hq
      have hdo : opR F.c bad s.env s.h o = .ok (v, h') → Region.wanted o (yielded ops tm) = true → StepTo F.c.P ops i tm w fun tm' w' => ∃ ι', St F ι' loc al (putD s.env o v) h' tm' w' ∧ TStep ι s.h s.env tm w ι' h' (putD s.env o v) tm' w' := by
        intro h2 hw
        refine StepTo.op ho hw fun ds => ?_
        rw [hds]
        obtain ⟨u, w', e1, e2⟩ := opR_ok ok st.rel hev h2 fr
        exact ⟨u, w', e1, st.put hal hdst e2⟩
      unfold ifG at h1
      split at h1
      · rename_i hg
        exact hdo h1 (by simp [Region.wanted, hg])
      · obtain ⟨b, h0, h1⟩ := Res.bind_ok h1
        have hw := st.env.wanted_ok h0
        cases b with
        | true => exact hdo h1 hw
        | false =>
          simp only at h1
          cases h1
          exact StepTo.skip ho hw (st.put hal hdst (Out.same st.rel ⟨#[], rfl, rfl⟩))
    · -- alias
      rename_i t sl hh
      obtain ⟨d, hd, hld, hls⟩ := how_dst hop hh
      simp only [ansR] at hq
      obtain ⟨r, h1, hq⟩ := Res.bind_ok hq
      obtain ⟨off, valid⟩ := r
      cases hq
      have hval : ∀ (b : Bool) (n : Nat), aliasR F.c.P bad s.env t sl o = .ok (n, b) → b = true := by
        intro b n hq
        unfold aliasR at hq
        obtain ⟨bo, _, hq⟩ := Res.bind_ok hq
        split at hq
        · obtain ⟨_, _, hq⟩ := Res.bind_ok hq; cases hq; rfl
        · cases hq
      have hdo : aliasR F.c.P bad s.env t sl o = .ok (off, valid) → Region.wanted o (yielded ops tm) = true → StepTo F.c.P ops i tm w fun tm' w' => ∃ ι', St F ι' loc al (putD s.env o (.loc off valid)) s.h tm' w' ∧ TStep ι s.h s.env tm w ι' s.h (putD s.env o (.loc off valid)) tm' w' := by
        intro h2 hw
        have := hval _ _ h2; subst this
        refine StepTo.op ho hw fun ds => ?_
        rw [hds]
        obtain ⟨b, b1, b2⟩ := alias_ok st.env _ hev het hh h2
        exact ⟨_, w, .inl b1, ι, st.putLoc hal hd hld hls fun _ => ⟨b, rfl, b2⟩⟩
      unfold ifG at h1
      split at h1
      · rename_i hg
        exact hdo h1 (by simp [Region.wanted, hg])
      · obtain ⟨b, h0, h1⟩ := Res.bind_ok h1
        have hw := st.env.wanted_ok h0
        cases b with
        | true => exact hdo h1 hw
        | false =>
          simp only at h1
          cases h1
          exact StepTo.skip ho hw ⟨ι, st.putLoc hal hd hld hls (fun hc => by cases hc)⟩
    · -- make
      rename_i d hh
      split at hq
      · rename_i hg
        simp only [ansR] at hq
        obtain ⟨vs, h1, hq⟩ := Res.bind_ok hq
        cases hq
        obtain ⟨hd, hld, hop'⟩ := how_inv hh
        refine StepTo.op ho (by simp [Region.wanted, hg]) fun ds => ?_
        rw [hds]
        have hrun : ∃ (c : Array Value) (T : TypeId), (execOp (⟨tm, []⟩ : Act).eval o).run F.c.P w = .ok (.value (.pointer (some ⟨w.heap.size, 0, none⟩))) { w with heap := w.heap.push (.cells c T) } ∧ VRels ι F.ρ vs c.toList ∧ ∀ v ∈ c.toList, oneC v = true := by
          unfold makeCells at h1
          rcases hop' with ⟨T, hop'⟩ | ⟨T, x, hop'⟩
          · simp only [hop'] at h1
            unfold zeroCellsR at h1
            obtain ⟨z, hz, h1⟩ := Res.bind_ok h1
            obtain ⟨zv, z1, z2⟩ := zeroV_ok (ι := ι) (ρ := F.ρ) hz
            obtain ⟨c1, c2⟩ := z2.cells h1
            exact ⟨zv.cells, T, by simp [execOp, hop', Instr.alloc, z1, newVar, Go.newRow], c1, c2⟩
          · simp only [hop'] at h1
            obtain ⟨a, ha, h1⟩ := Res.bind_ok h1
            have hr := hev _ _ ha
            obtain ⟨c1, c2⟩ := hr.cells h1
            exact ⟨_, T, by simp [execOp, hop', Instr.box, newVar, Go.newRow], c1, c2⟩
        obtain ⟨c, T, r1, r2, r3⟩ := hrun
        refine ⟨_, _, .inl r1, ι, ?_⟩
        have hk : Keep (fun b => False) w { w with heap := w.heap.push (.cells c T) } :=
          ⟨rfl, rfl, rfl, by simp, fun k hk _ => by simp [Array.getElem?_push, Nat.ne_of_lt hk]⟩
        have hblk : ∀ k, k < w.heap.size → ({ w with heap := w.heap.push (.cells c T) } : World).heap[k]? = w.heap[k]? := fun k hk => by simp [Array.getElem?_push, Nat.ne_of_lt hk]
        obtain ⟨m1, m2⟩ := EnvOk.make st.rel st.env (d := d) (T := T) hld r2 r3 (w' := { w with heap := w.heap.push (.cells c T) }) rfl
        unfold putT
        rw [hd]
        refine ⟨⟨st.rel.keep hk (fun _ hb => hb.elim) (fun b hb => hblk b (st.rel.own_lt b hb)), m1⟩, ⟨Sub.refl _, fun _ => .inr (.inl rfl), Nat.le_refl _, hk.mono (fun _ _ hb => hb.elim), fun b hb => .inl hb, fun b hb => ?_⟩⟩
        rcases m2 b hb with hb | hb
        · exact .inl hb
        · exact .inr (by omega)
      · cases hq
    · -- load
      rename_i t sl hh
      have hdst := opOk_put hop (fun d hc => by rw [hh] at hc; cases hc)
      simp only [ansR] at hq
      obtain ⟨v, h1, hq⟩ := Res.bind_ok hq
      cases hq
      have hdo : loadCell F.c.P s.env t sl o = .ok v → Region.wanted o (yielded ops tm) = true → StepTo F.c.P ops i tm w fun tm' w' => ∃ ι', St F ι' loc al (putD s.env o v) s.h tm' w' ∧ TStep ι s.h s.env tm w ι' s.h (putD s.env o v) tm' w' := by
        intro h2 hw
        refine StepTo.op ho hw fun ds => ?_
        rw [hds]
        obtain ⟨u, b1, b2⟩ := loadCell_ok st.env _ het hh h2
        exact ⟨_, w, .inl b1, st.put hal hdst (Out.same st.rel b2)⟩
      unfold ifG at h1
      split at h1
      · rename_i hg
        exact hdo h1 (by simp [Region.wanted, hg])
      · obtain ⟨b, h0, h1⟩ := Res.bind_ok h1
        have hw := st.env.wanted_ok h0
        cases b with
        | true => exact hdo h1 hw
        | false =>
          simp only at h1
          cases h1
          exact StepTo.skip ho hw (st.put hal hdst (Out.same st.rel ⟨#[], rfl, rfl⟩))
    · -- store
      rename_i t sl hh
      split at hq
      · rename_i hg hdn
        simp only [ansR] at hq
        obtain ⟨vs', h1, hq⟩ := Res.bind_ok hq
        cases hq
        refine StepTo.op ho (by simp [Region.wanted, hg]) fun ds => ?_
        rw [hds]
        obtain ⟨T, x, y, hs, hop'⟩ := how_inv hh
        obtain ⟨rfl, hts⟩ := slotOf_ok hs
        unfold storeCell at h1
        simp only [hop'] at h1
        obtain ⟨vo, h2, h1⟩ := Res.bind_ok h1
        obtain ⟨vs, off⟩ := vo
        obtain ⟨a, h3, h1⟩ := Res.bind_ok h1
        obtain ⟨n, h4, h1⟩ := Res.bind_ok h1
        obtain ⟨cs, h5, h1⟩ := Res.bind_ok h1
        split at h1
        rotate_left; · cases h1
        rename_i hl
        obtain ⟨hov, rfl⟩ := overR_ok h1
        have hov : off + cs.length ≤ vs.length := hov
        obtain ⟨hn, b, c, T', b1, b2, b3, b4, b5, b6, b7⟩ := st.env.cell (hts.imp (·.1) id) h2
        obtain ⟨c1, c2⟩ := (hev _ _ h3).cells h5
        have hlen := c1.length
        have hvl := b6.length
        have hx : (⟨tm, []⟩ : Act).eval (.tmp t) = .pointer (some ⟨b, off, none⟩) := by rw [het, Array.getD_eq_getD_getElem?, b1]; rfl
        have hrun := run_storeCells' (P := F.c.P) b off T' (0, 0) ((⟨tm, []⟩ : Act).eval y).cells.toList 0 c w b5 (.inl (Nat.le_refl _)) (by simp at hlen hvl ⊢; omega) c2
        have hsz : ((⟨tm, []⟩ : Act).eval y).cells.size = n := by simp at hlen; omega
        obtain ⟨R, hR⟩ : ∃ R, R = (c.toList.take (off + 0) ++ ((⟨tm, []⟩ : Act).eval y).cells.toList ++ c.toList.drop (off + 0 + ((⟨tm, []⟩ : Act).eval y).cells.toList.length)).toArray := ⟨_, rfl⟩
        rw [← hR] at hrun
        refine ⟨undef, w.setRow b R, .inr ⟨by simp [execOp, hop', hx, Instr.storeAt, Instr.sureAddr, storeVar, run_size h4, hsz, hrun], rfl⟩, ι, ?_⟩
        unfold putT
        rw [hdn]
        simp only
        have hcs : VRels ι F.ρ (vs.take off ++ cs ++ vs.drop (off + cs.length)) R.toList := by
          rw [hR, ← hlen]
          simpa using ((b6.take off).append c1).append (b6.drop (off + cs.length))
        obtain ⟨m1, m2⟩ := st.env.setCell (c' := R) hn b2 b5 hcs (by
          intro v hv
          rw [hR] at hv
          simp at hv
          rcases hv with hv | hv | hv
          · exact b7 v (List.mem_of_mem_take hv)
          · exact c2 v (by simpa using hv)
          · exact b7 v (List.mem_of_mem_drop hv))
        have hk := Keep.setRow w b R
        refine ⟨⟨st.rel.keep hk (fun k hk => by rw [hk]; exact b3) (fun k hk' => setRow_other w b k _ (fun hh => b4 (hh ▸ hk'))), m1⟩, ⟨Sub.refl _, fun _ => .inr (.inl rfl), Nat.le_refl _, hk.mono (fun k _ hb => by subst hb; exact .inr ⟨_, _, hn, b2⟩), fun k hb => .inl hb, fun k hb => .inl (m2 k hb)⟩⟩
      · cases hq

end
end Go.Proofs.Ytomhcjiefmaopaa
