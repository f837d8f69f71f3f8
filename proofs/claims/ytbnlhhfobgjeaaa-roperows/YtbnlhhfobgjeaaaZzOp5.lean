/-
  Slices, places, parts, values that are built, conversions, lengths.
-/
import Derived.Test.YtbnlhhfobgjeaaaZzOp4
set_option linter.all false
namespace Go.Proofs.Ytbnlhhfobgjeaaa
open Go Go.RowKit

section
variable {F : Fix} {ι : Inj} {h : AHeap} {w : World}

theorem bound_ok {x : AVal} {xv : Value} {y n : Nat} {cd : BoundsCode} (hq : boundR x y = .ok n) (hx : VRel ι F.ρ x xv) : (Instr.sliceBound xv y cd).run F.c.P w = .ok n w ∧ n ≤ y := by
  unfold boundR at hq
  split at hq
  · simp only [VRel] at hx; subst hx
    split at hq
    · rename_i hi; cases hq
      refine ⟨?_, by omega⟩
      simp only [Instr.sliceBound, asIntOf, Sem.run_bind, Sem.run_pure, Result.andThen_ok, if_pos hi]
    · cases hq
  · cases hq

def OptV (ι : Inj) (ρ : RoMap) : Option AVal → Option Value → Prop
  | none, none => True
  | some a, some v => VRel ι ρ a v
  | _, _ => False

theorem bounds2_ok {len top l hh : Nat} {lo hi : Option AVal} {lov hiv : Option Value} {isS : Bool} (hq : bounds2 len top lo hi = .ok (l, hh)) (h1 : OptV ι F.ρ lo lov) (h2 : OptV ι F.ρ hi hiv) (hlt : len ≤ top) (cap : Nat) (hc : top ≤ cap) :
    (Instr.sliceBounds isS len cap lov hiv none).run F.c.P w = .ok (l, hh, cap) w ∧ l ≤ hh ∧ hh ≤ top := by
  unfold bounds2 at hq
  obtain ⟨hv, e1, hq⟩ := Res.bind_ok hq
  obtain ⟨lv, e2, hq⟩ := Res.bind_ok hq
  cases hq
  have hb : ∀ {x : AVal} {xv : Value} {y n : Nat} {cd : BoundsCode} (z : Nat), boundR x y = .ok n → VRel ι F.ρ x xv → y ≤ z → (Instr.sliceBound xv z cd).run F.c.P w = .ok n w := by
    intro x xv y n cd z hq hx hyz
    unfold boundR at hq
    split at hq
    · simp only [VRel] at hx; subst hx
      split at hq
      · rename_i hi; cases hq
        simp only [Instr.sliceBound, asIntOf, Sem.run_bind, Sem.run_pure, Result.andThen_ok]
        rw [if_pos ⟨hi.1, by omega⟩]; rfl
      · cases hq
    · cases hq
  have hh1 : hh ≤ top ∧ ∀ cd, (match hiv with | some v => Instr.sliceBound v cap cd | none => pure len : Sem Nat).run F.c.P w = .ok hh w := by
    cases hi with
    | none => cases hiv with
      | none => cases e1; exact ⟨hlt, fun _ => rfl⟩
      | some _ => exact h2.elim
    | some a => cases hiv with
      | none => exact h2.elim
      | some v => exact ⟨(bound_ok (w := w) (cd := .index) e1 h2).2, fun cd => hb cap e1 h2 hc⟩
  have hl1 : l ≤ hh ∧ ∀ cd, (match lov with | some v => Instr.sliceBound v hh cd | none => pure 0 : Sem Nat).run F.c.P w = .ok l w := by
    cases lo with
    | none => cases lov with
      | none => cases e2; exact ⟨Nat.zero_le _, fun _ => rfl⟩
      | some _ => exact h1.elim
    | some a => cases lov with
      | none => exact h1.elim
      | some v => exact ⟨(bound_ok (w := w) (cd := .index) e2 h1).2, fun cd => (bound_ok e2 h1).1⟩
  refine ⟨?_, hl1.1, hh1.1⟩
  cases hiv with
  | none =>
    have a1 := hh1.2 .index
    cases lov with
    | none =>
      have a2 := hl1.2 .index
      simp only [Sem.run_pure] at a1 a2; cases a1; cases a2
      simp [Instr.sliceBounds]
    | some v =>
      have a2 := hl1.2 .sliceB
      simp only [Sem.run_pure] at a1; cases a1
      simp only at a2
      simp [Instr.sliceBounds, a2]
  | some u =>
    have a1 := hh1.2 (if isS then .sliceAcap else .sliceAlen)
    simp only at a1
    cases lov with
    | none =>
      have a2 := hl1.2 .index
      simp only [Sem.run_pure] at a2; cases a2
      simp [Instr.sliceBounds, a1]
    | some v =>
      have a2 := hl1.2 .sliceB
      simp only at a2
      simp [Instr.sliceBounds, a1, a2]

theorem bounds3_ok {top l hh m : Nat} {lo : Option AVal} {hi mx : AVal} {lov : Option Value} {hiv mv : Value} {len cap : Nat} (hq : bounds3 top lo hi mx = .ok (l, hh, m)) (h1 : OptV ι F.ρ lo lov) (h2 : VRel ι F.ρ hi hiv) (h3 : VRel ι F.ρ mx mv) (hc : top ≤ cap) :
    (Instr.sliceBounds true len cap lov (some hiv) (some mv)).run F.c.P w = .ok (l, hh, m) w ∧ l ≤ hh ∧ hh ≤ m ∧ m ≤ top := by
  unfold bounds3 at hq
  obtain ⟨m', e0, hq⟩ := Res.bind_ok hq
  obtain ⟨hv, e1, hq⟩ := Res.bind_ok hq
  obtain ⟨lv, e2, hq⟩ := Res.bind_ok hq
  cases hq
  have b0 : ∀ cd, (Instr.sliceBound mv cap cd).run F.c.P w = .ok m w := by
    intro cd
    unfold boundR at e0
    split at e0
    · simp only [VRel] at h3; subst h3
      split at e0
      · rename_i hi; cases e0
        simp only [Instr.sliceBound, asIntOf, Sem.run_bind, Sem.run_pure, Result.andThen_ok]
        rw [if_pos ⟨hi.1, by omega⟩]; rfl
      · cases e0
    · cases e0
  have m0 := (bound_ok (w := w) (cd := .index) e0 h3).2
  have b1 := fun cd => (bound_ok (w := w) (cd := cd) e1 h2).1
  have m1 := (bound_ok (w := w) (cd := .index) e1 h2).2
  cases lo with
  | none => cases lov with
    | none => cases e2; exact ⟨by simp [Instr.sliceBounds, b0, b1], Nat.zero_le _, m1, m0⟩
    | some _ => exact h1.elim
  | some a => cases lov with
    | none => exact h1.elim
    | some v =>
      have b2 := fun cd => (bound_ok (w := w) (cd := cd) e2 h1).1
      exact ⟨by simp [Instr.sliceBounds, b0, b1, b2], (bound_ok (w := w) (cd := .index) e2 h1).2, m1, m0⟩

theorem slcOf_ok {o off size l hh m cap : Nat} {e : Ent} {x : Nat} (he : ι o = some e) (hx : x = e.base + off ∨ cap = 0) (hlh : l ≤ hh) (hm : hh ≤ m) (hmc : m ≤ cap) :
    VRel ι F.ρ (slcOf o off size l hh m) (.slice (if m = l then some ⟨e.blk, x, none⟩ else some ((⟨e.blk, x, none⟩ : Addr).add (l * size))) (hh - l) (m - l)) := by
  unfold slcOf
  by_cases hml : m = l
  · subst hml
    have : hh = m := by omega
    subst this
    simp only [if_true, Nat.sub_self]
    exact ⟨e, x, he, rfl, Nat.le_refl _, .inr rfl⟩
  · simp only [hml, if_false, add_none]
    refine ⟨e, x + l * size, he, rfl, by omega, ?_⟩
    rcases hx with hx | hx
    · left; omega
    · omega

theorem sliceSl_ok (r : Rel F ι h w) {t el size : Nat} {x res : AVal} {xv : Value} {lo hi mx : Option AVal} {lov hiv mv : Option Value} (hu : F.c.P.underlying t = some (.slice el)) (hs : sizeR F.c.P el = .ok size)
    (hq : sliceSl h size x lo hi mx = .ok res) (hx : VRel ι F.ρ x xv)
    (h1 : OptV ι F.ρ lo lov) (h2 : OptV ι F.ρ hi hiv) (h3 : OptV ι F.ρ mx mv) : ∃ v, (Instr.sliceAt t xv lov hiv mv).run F.c.P w = .ok v w ∧ VRel ι F.ρ res v := by
  have hs' := fun w => run_size hs w
  match x, mx, mv, hq, hx, h3 with
  | .nils, none, none, hq, hx, _ =>
    obtain ⟨b, hb, hq⟩ := Res.bind_ok hq
    cases hq
    simp only [VRel] at hx; subst hx
    obtain ⟨b1, b2, b3⟩ := bounds2_ok (w := w) (isS := true) hb h1 h2 (Nat.le_refl _) 0 (Nat.le_refl _)
    have e1 : b.1 = 0 := by omega
    have e2 : b.2 = 0 := by omega
    refine ⟨.slice none 0 0, ?_, rfl⟩
    simp only [Instr.sliceAt, Instr.slice, Sem.run_bind, run_und hu, Result.andThen_ok, b1, hs', Sem.run_pure, e1, e2, Option.map_none, if_true, Nat.sub_self]
  | .nils, some mo, some mv, hq, hx, h3 =>
    match hi, hiv, hq, h2 with
    | some hv, some hiv, hq, h2 =>
      obtain ⟨b, hb, hq⟩ := Res.bind_ok hq
      cases hq
      simp only [VRel] at hx; subst hx
      obtain ⟨b1, b2, b3, b4⟩ := bounds3_ok (w := w) (len := 0) (cap := 0) hb h1 h2 h3 (Nat.le_refl _)
      have e3 : b.2.2 = 0 := Nat.le_zero.1 b4
      have e2 : b.2.1 = 0 := by rw [e3] at b3; exact Nat.le_zero.1 b3
      have e1 : b.1 = 0 := by rw [e2] at b2; exact Nat.le_zero.1 b2
      refine ⟨.slice none 0 0, ?_, rfl⟩
      simp only [Instr.sliceAt, Instr.slice, Sem.run_bind, run_und hu, Result.andThen_ok, b1, hs', Sem.run_pure, e1, e2, e3, if_true, Nat.sub_self]
    | none, _, hq, _ => cases hq
    | some _, none, _, h2 => exact h2.elim
  | .sl o off len, none, none, hq, hx, _ =>
    obtain ⟨n, hn, hq⟩ := Res.bind_ok hq
    obtain ⟨b, hb, hq⟩ := Res.bind_ok hq
    cases hq
    obtain ⟨e, xo, cap, he, rfl, hcap, hlen, hxo⟩ := hx
    have hroom : n ≤ cap ∧ e.esz = size := by
      unfold roomOf at hn
      split at hn
      · rename_i ez fz vs ho
        split at hn
        · rename_i hez
          cases hn
          obtain ⟨e', g1, _, g⟩ := r.obj o _ ho
          rw [he] at g1; cases g1
          obtain ⟨c, T, fr, _, g2, _, g4, _⟩ := g
          rw [g2, hez.1] at hcap
          have hpos : 0 < size := Nat.pos_of_ne_zero hez.2
          refine ⟨?_, g2.trans hez.1⟩
          calc (vs.length - off) / size ≤ (cap * size) / size := Nat.div_le_div_right (by omega)
            _ = cap := Nat.mul_div_cancel _ hpos
        · cases hn
      · cases hn
    obtain ⟨b1, b2, b3⟩ := bounds2_ok (w := w) (isS := true) hb h1 h2 (Nat.le_max_left _ _) cap (Nat.max_le.2 ⟨hlen, hroom.1⟩)
    have b4 : b.2 ≤ cap := Nat.le_trans b3 (Nat.max_le.2 ⟨hlen, hroom.1⟩)
    refine ⟨.slice (if cap = b.1 then some ⟨e.blk, xo, none⟩ else some ((⟨e.blk, xo, none⟩ : Addr).add (b.1 * size))) (b.2 - b.1) (cap - b.1), ?_, ?_⟩
    · simp only [Instr.sliceAt, Instr.slice, Sem.run_bind, run_und hu, Result.andThen_ok, b1, hs', Sem.run_pure, Option.map_some]
    · rw [hroom.2] at hcap
      have hmul : (cap - b.1) * size + b.1 * size = cap * size := by rw [← Nat.add_mul]; congr 1; omega
      by_cases hc : cap = b.1
      · simp only [hc, if_true]
        refine ⟨e, xo, b.1 - b.1, he, rfl, ?_, by omega, by right; omega⟩
        rw [hroom.2, Nat.sub_self, Nat.zero_mul, ← hc]; omega
      · simp only [hc, if_false, add_none]
        refine ⟨e, xo + b.1 * size, cap - b.1, he, rfl, ?_, by omega, ?_⟩
        · rw [hroom.2]; omega
        · left; rcases hxo with hxo | hxo
          · omega
          · omega
  | .rsl ro off len, none, none, hq, hx, _ =>
    obtain ⟨b, hb, hq⟩ := Res.bind_ok hq
    cases hq
    obtain ⟨e, xo, cap, he, rfl, hlen, hxo⟩ := hx
    obtain ⟨b1, b2, b3⟩ := bounds2_ok (w := w) (isS := true) hb h1 h2 (Nat.le_refl _) cap hlen
    refine ⟨.slice (if cap = b.1 then some ⟨e.1, xo, none⟩ else some ((⟨e.1, xo, none⟩ : Addr).add (b.1 * size))) (b.2 - b.1) (cap - b.1), ?_, ?_⟩
    · simp only [Instr.sliceAt, Instr.slice, Sem.run_bind, run_und hu, Result.andThen_ok, b1, hs', Sem.run_pure, Option.map_some]
    · by_cases hc : cap = b.1
      · simp only [hc, if_true]
        exact ⟨e, xo, b.1 - b.1, he, rfl, by omega, by right; omega⟩
      · simp only [hc, if_false, add_none]
        refine ⟨e, xo + b.1 * size, cap - b.1, he, rfl, by omega, ?_⟩
        rcases hxo with hxo | hxo
        · left; omega
        · right; omega
  | .slc o off len cap, none, none, hq, hx, _ =>
    obtain ⟨b, hb, hq⟩ := Res.bind_ok hq
    cases hq
    obtain ⟨e, xo, he, rfl, hlen, hxo⟩ := hx
    obtain ⟨b1, b2, b3⟩ := bounds2_ok (w := w) (isS := true) hb h1 h2 hlen cap (Nat.le_refl _)
    refine ⟨_, ?_, slcOf_ok he hxo b2 b3 (Nat.le_refl _)⟩
    simp only [Instr.sliceAt, Instr.slice, Sem.run_bind, run_und hu, Result.andThen_ok, b1, hs', Sem.run_pure, Option.map_some]
  | .sl o off len, some mo, some mv, hq, hx, h3 =>
    match hi, hiv, hq, h2 with
    | some hv, some hiv, hq, h2 =>
      obtain ⟨b, hb, hq⟩ := Res.bind_ok hq
      cases hq
      obtain ⟨e, xo, cap, he, rfl, hcap, hlen, hxo⟩ := hx
      obtain ⟨b1, b2, b3, b4⟩ := bounds3_ok (w := w) (len := len) (cap := cap) hb h1 h2 h3 hlen
      refine ⟨_, ?_, slcOf_ok he hxo b2 b3 (Nat.le_trans b4 hlen)⟩
      simp only [Instr.sliceAt, Instr.slice, Sem.run_bind, run_und hu, Result.andThen_ok, b1, hs', Sem.run_pure, Option.map_some]
    | none, _, hq, _ => cases hq
    | some _, none, _, h2 => exact h2.elim

theorem slice_ok (r : Rel F ι h w) {t : Nat} {x res : AVal} {xv : Value} {lo hi mx : Option AVal} {lov hiv mv : Option Value} (hq : sliceR F.c h t x lo hi mx = .ok res) (hx : VRel ι F.ρ x xv)
    (h1 : OptV ι F.ρ lo lov) (h2 : OptV ι F.ρ hi hiv) (h3 : OptV ι F.ρ mx mv) : ∃ v, (Instr.sliceAt t xv lov hiv mv).run F.c.P w = .ok v w ∧ VRel ι F.ρ res v := by
  unfold sliceR at hq
  obtain ⟨d, hd, hq⟩ := Res.bind_ok hq
  have hu := undR_ok hd
  match d, hd, hu, hq with
  | .string, hd, hu, hq =>
    match x, mx, mv, hq, hx, h3 with
    | .str s, none, none, hq, hx, _ =>
      obtain ⟨b, hb, hq⟩ := Res.bind_ok hq
      cases hq
      simp only [VRel] at hx; subst hx
      obtain ⟨b1, b2, b3⟩ := bounds2_ok (w := w) (isS := false) hb h1 h2 (Nat.le_refl _) s.length (Nat.le_refl _)
      refine ⟨.string ⟨((s.take b.2).drop b.1).toArray⟩, ?_, rfl⟩
      simp [Instr.sliceAt, Instr.slice, run_und hu, ba_size, b1, ba_extract]
  | .slice el, hd, hu, hq =>
    obtain ⟨size, hs, hq⟩ := Res.bind_ok hq
    exact sliceSl_ok r hu hs hq hx h1 h2 h3
  | .array n el, hd, hu, hq =>
    obtain ⟨size, hs, hq⟩ := Res.bind_ok hq
    have hs' := fun w => run_size hs w
    match x, mx, mv, hq, hx, h3 with
    | .ptr o off, none, none, hq, hx, _ =>
      obtain ⟨b, hb, hq⟩ := Res.bind_ok hq
      cases hq
      obtain ⟨e, he, rfl⟩ := hx
      obtain ⟨b1, b2, b3⟩ := bounds2_ok (w := w) (isS := false) hb h1 h2 (Nat.le_refl _) n (Nat.le_refl _)
      have := slcOf_ok (F := F) (size := size) (x := e.base + off) he (.inl rfl) b2 b3 (Nat.le_refl _)
      refine ⟨_, ?_, this⟩
      simp only [Instr.sliceAt, Instr.sureAddr, Sem.run_bind, run_und hu, Result.andThen_ok, b1, hs', Sem.run_pure]
      congr 2
      split <;> rfl

theorem addOff_ok {x res : AVal} {n : Nat} {xv : Value} (hq : addOff x n = .ok res) (hx : VRel ι F.ρ x xv) : ∃ a, xv = .pointer (some a) ∧ VRel ι F.ρ res (.pointer (some (a.add n))) := by
  unfold addOff at hq
  split at hq
  · cases hq; obtain ⟨e, he, rfl⟩ := hx; exact ⟨_, rfl, e, he, by rw [add_none, Nat.add_assoc]⟩
  · cases hq; obtain ⟨e, he, rfl⟩ := hx; exact ⟨_, rfl, e, he, by rw [add_none, Nat.add_assoc]⟩
  · cases hq

theorem fieldOf_ok {P : Program} {t f : Nat} {fd : Field} (hq : fieldOf P t f = .ok fd) : ∃ fs, P.underlying t = some (.struct fs) ∧ fs[f]? = some fd := by
  unfold fieldOf at hq
  obtain ⟨d, hd, hq⟩ := Res.bind_ok hq
  split at hq
  · exact ⟨_, undR_ok hd, by simpa using ofOpt_ok hq⟩
  · cases hq

theorem fieldAddr_ok {t f : Nat} {x res : AVal} {xv : Value} (hq : fieldAddrR F.c.P t x f = .ok res) (hx : VRel ι F.ρ x xv) : ∃ v, (Instr.fieldAt t xv f).run F.c.P w = .ok v w ∧ VRel ι F.ρ res v := by
  unfold fieldAddrR at hq
  obtain ⟨fd, h1, hq⟩ := Res.bind_ok hq
  obtain ⟨n, h2, hq⟩ := Res.bind_ok hq
  split at hq
  · cases hq
  · rename_i hn
    obtain ⟨fs, hu, hf⟩ := fieldOf_ok h1
    obtain ⟨a, rfl, hr⟩ := addOff_ok hq hx
    exact ⟨_, by simp [Instr.fieldAt, run_und hu, hf, Instr.sureAddr, fieldPlace, run_size h2, hn], hr⟩

theorem field_ok {t f : Nat} {x res : AVal} {xv : Value} (hq : fieldR F.c.P t x f = .ok res) (hx : VRel ι F.ρ x xv) : ∃ v, (Instr.field t xv f).run F.c.P w = .ok v w ∧ VRel ι F.ρ res v := by
  unfold fieldR at hq
  split at hq
  · obtain ⟨fd, h1, hq⟩ := Res.bind_ok hq
    obtain ⟨fs, hu, hf⟩ := fieldOf_ok h1
    obtain ⟨cs, rfl, c1, c2⟩ := hx
    obtain ⟨v, v1, v2⟩ := part_ok (w := w) c1 c2 hq
    exact ⟨v, by simp [Instr.field, run_und hu, hf, asAgg, v1], v2⟩
  · cases hq

theorem idx_ok {i : AVal} {iv : Value} {len n : Nat} (hq : idxNat i len = .ok n) (hi : VRel ι F.ρ i iv) : ∃ k z, iv = .int k z ∧ 0 ≤ z ∧ z < len ∧ n = z.toNat := by
  unfold idxNat at hq
  split at hq
  · split at hq
    · rename_i hz; cases hq; simp only [VRel] at hi; exact ⟨_, _, hi, hz.1, hz.2, rfl⟩
    · cases hq
  · cases hq

theorem indexAddr_ok {t : Nat} {x i res : AVal} {xv iv : Value} (hq : indexAddrR F.c.P t x i = .ok res) (hx : VRel ι F.ρ x xv) (hi : VRel ι F.ρ i iv) : ∃ v, (Instr.indexAt t xv iv).run F.c.P w = .ok v w ∧ VRel ι F.ρ res v := by
  unfold indexAddrR at hq
  obtain ⟨d, hd, hq⟩ := Res.bind_ok hq
  have hu := undR_ok hd
  split at hq
  · rename_i el
    obtain ⟨size, hs, hq⟩ := Res.bind_ok hq
    split at hq
    · obtain ⟨n, hn, hq⟩ := Res.bind_ok hq
      cases hq
      obtain ⟨k, z, rfl, z1, z2, rfl⟩ := idx_ok hn hi
      obtain ⟨e, xo, cap, he, rfl, hcap, hlen, hxo⟩ := hx
      refine ⟨.pointer (some ((⟨e.blk, xo, none⟩ : Addr).add (z.toNat * size))), by simp [Instr.indexAt, run_und hu, asIntOf, run_size hs, z1, z2], e, he, ?_⟩
      rw [add_none]
      rcases hxo with hxo | hxo
      · subst hxo; rw [Nat.add_assoc]
      · omega
    · obtain ⟨n, hn, hq⟩ := Res.bind_ok hq
      cases hq
      obtain ⟨k, z, rfl, z1, z2, rfl⟩ := idx_ok hn hi
      obtain ⟨e, xo, he, rfl, hlen, hxo⟩ := hx
      refine ⟨.pointer (some ((⟨e.blk, xo, none⟩ : Addr).add (z.toNat * size))), by simp [Instr.indexAt, run_und hu, asIntOf, run_size hs, z1, z2], e, he, ?_⟩
      rw [add_none]
      rcases hxo with hxo | hxo
      · subst hxo; rw [Nat.add_assoc]
      · omega
    · obtain ⟨n, hn, hq⟩ := Res.bind_ok hq
      cases hq
      obtain ⟨k, z, rfl, z1, z2, rfl⟩ := idx_ok hn hi
      obtain ⟨e, xo, cap, he, rfl, hlen, hxo⟩ := hx
      refine ⟨.pointer (some ((⟨e.1, xo, none⟩ : Addr).add (z.toNat * size))), by simp [Instr.indexAt, run_und hu, asIntOf, run_size hs, z1, z2], e, he, ?_⟩
      rw [add_none]
      rcases hxo with hxo | hxo
      · subst hxo; rw [Nat.add_assoc]
      · omega
    · cases hq
  · obtain ⟨size, hs, hq⟩ := Res.bind_ok hq
    obtain ⟨n, hn, hq⟩ := Res.bind_ok hq
    obtain ⟨k, z, rfl, z1, z2, rfl⟩ := idx_ok hn hi
    obtain ⟨a, rfl, hr⟩ := addOff_ok hq hx
    exact ⟨_, by simp [Instr.indexAt, run_und hu, asIntOf, run_size hs, Instr.sureAddr, z1, z2], hr⟩
  · cases hq

theorem index_ok {t : Nat} {x i res : AVal} {xv iv : Value} (hq : indexR F.c.P t x i = .ok res) (hx : VRel ι F.ρ x xv) (hi : VRel ι F.ρ i iv) : ∃ v, (Instr.index t xv iv).run F.c.P w = .ok v w ∧ VRel ι F.ρ res v := by
  unfold indexR at hq
  obtain ⟨d, hd, hq⟩ := Res.bind_ok hq
  have hu := undR_ok hd
  split at hq
  · split at hq
    · obtain ⟨n, hn, hq⟩ := Res.bind_ok hq
      obtain ⟨b, hb, hq⟩ := Res.bind_ok hq
      cases hq
      obtain ⟨k, z, rfl, z1, z2, rfl⟩ := idx_ok hn hi
      simp only [VRel] at hx; subst hx
      have hb := ofOpt_ok hb
      exact ⟨_, by simp [Instr.index, run_und hu, asIntOf, z1, ba_get, hb], rfl⟩
    · cases hq
  · split at hq
    · obtain ⟨n, hn, hq⟩ := Res.bind_ok hq
      obtain ⟨size, hs, hq⟩ := Res.bind_ok hq
      obtain ⟨k, z, rfl, z1, z2, rfl⟩ := idx_ok hn hi
      obtain ⟨cs, rfl, c1, c2⟩ := hx
      obtain ⟨v, v1, v2⟩ := part_ok (w := w) c1 c2 hq
      exact ⟨v, by simp [Instr.index, run_und hu, asIntOf, z1, z2, run_size hs, v1], v2⟩
    · cases hq
  · cases hq

theorem extract_ok {x res : AVal} {i : Nat} {xv : Value} (hq : extractR x i = .ok res) (hx : VRel ι F.ρ x xv) : ∃ v, (Instr.extract xv i).run F.c.P w = .ok v w ∧ VRel ι F.ρ res v := by
  unfold extractR at hq
  split at hq
  · obtain ⟨a, rfl, c1⟩ := hx
    obtain ⟨v, v1, v2⟩ := c1.get (nthR_ok hq)
    have : a[i]? = some v := by simpa using v1
    exact ⟨v, by simp [Instr.extract, this], v2⟩
  · cases hq

/-! ### values that are built -/
theorem fill_cells (off : Nat) : ∀ (l : List Value) (j : Nat) (cells : Array Value), off + j + l.length ≤ cells.size →
    ((l.zipIdx j).foldl (fun cs (c, j) => cs.setIfInBounds (off + j) c) cells).toList = cells.toList.take (off + j) ++ l ++ cells.toList.drop (off + j + l.length)
  | [], j, cells, _ => by simp
  | v :: l, j, cells, hl => by
    simp only [List.length_cons] at hl
    have ih := fill_cells off l (j + 1) (cells.setIfInBounds (off + j) v) (by simp; omega)
    simp only [List.zipIdx_cons, List.foldl_cons, ih]
    have e := list_seg_step cells.toList (off + j) v l (by simp; omega)
    simpa [Array.toList_setIfInBounds, Nat.add_assoc] using e

inductive PartsRel (ι : Inj) (ρ : RoMap) : List (Nat × AVal) → List (Nat × Value) → Prop
  | nil : PartsRel ι ρ [] []
  | cons {i : Nat} {a : AVal} {v : Value} {l : List (Nat × AVal)} {m : List (Nat × Value)} : VRel ι ρ a v → PartsRel ι ρ l m → PartsRel ι ρ ((i, a) :: l) ((i, v) :: m)

theorem VRels.over {ρ : RoMap} {vs cs vs' : List AVal} {off : Nat} {c : List Value} {us : List Value} (h : VRels ι ρ vs c) (hov : overR vs off cs = .ok vs') (hu : VRels ι ρ cs us) :
    VRels ι ρ vs' (c.take off ++ us ++ c.drop (off + us.length)) := by
  obtain ⟨b1, rfl⟩ := overR_ok hov
  rw [← hu.length]
  exact ((h.take off).append hu).append (h.drop _)

theorem fill_ok {ρ : RoMap} {place : Nat → Option (Nat × Nat)} : ∀ (parts : List (Nat × AVal)) (pv : List (Nat × Value)) (cells res : List AVal) (cv : Array Value), fillR place cells parts = .ok res → PartsRel ι ρ parts pv →
    VRels ι ρ cells cv.toList → (∀ x ∈ cv.toList, oneC x = true) → ∃ rv, Instr.fill place cv pv = some rv ∧ VRels ι ρ res rv.toList ∧ ∀ x ∈ rv.toList, oneC x = true
  | [], _, cells, res, cv, hq, hp, hc, ho => by
    cases hp; simp [fillR] at hq; subst hq
    exact ⟨cv, rfl, hc, ho⟩
  | (i, a) :: parts, _, cells, res, cv, hq, hp, hc, ho => by
    cases hp with
    | cons hv hp =>
      rename_i v m
      unfold fillR at hq
      obtain ⟨p, h1, hq⟩ := Res.bind_ok hq
      obtain ⟨cs, h2, hq⟩ := Res.bind_ok hq
      split at hq
      rotate_left; · cases hq
      rename_i hlen
      obtain ⟨cells', h3, hq⟩ := Res.bind_ok hq
      obtain ⟨u1, u2⟩ := hv.cells h2
      have hpl := ofOpt_ok h1
      have hl := u1.length
      have hcl := hc.length
      obtain ⟨b1, b2⟩ := overR_ok h3
      have hsz : v.cells.size = p.2 := by simpa using hl.symm.trans hlen
      have hfit : ¬ (p.1 + v.cells.size > cv.size) := by simp at hcl hl; omega
      have hfc := fill_cells p.1 v.cells.toList 0 cv (by simp at hcl hl ⊢; omega)
      have hfa : v.cells.zipIdx.foldl (fun cs (c, j) => cs.setIfInBounds (p.1 + j) c) cv = (cv.toList.take p.1 ++ v.cells.toList ++ cv.toList.drop (p.1 + v.cells.toList.length)).toArray := by
        apply Array.toList_inj.1
        rw [← Array.foldl_toList, Array.toList_zipIdx]
        simpa using hfc
      have hov := hc.over h3 u1
      obtain ⟨rv, r1, r2, r3⟩ := fill_ok parts m cells' res (cv.toList.take p.1 ++ v.cells.toList ++ cv.toList.drop (p.1 + v.cells.toList.length)).toArray hq hp (by simpa using hov) (by
        intro x hx
        simp at hx
        rcases hx with hx | hx | hx
        · exact ho x (List.mem_of_mem_take hx)
        · exact u2 x (by simpa using hx)
        · exact ho x (List.mem_of_mem_drop hx))
      refine ⟨rv, ?_, r2, r3⟩
      simp only [Instr.fill, hpl, hsz, ne_eq, not_true_eq_false, decide_false, Bool.false_or]
      rw [hsz] at hfit
      simp only [hfit, decide_false, Bool.false_eq_true, if_false, hfa]
      exact r1

theorem places_ok {P : Program} {w : World} : ∀ (fs : List Field) (pl : List (Nat × Nat)), placesOf P fs = .ok pl → (fs.mapM fun f => (do pure (f.offset, ← sizeOf f.type) : Sem (Nat × Nat))).run P w = .ok pl w
  | [], pl, hq => by simp [placesOf] at hq; subst hq; simp
  | f :: fs, pl, hq => by
    unfold placesOf at hq
    obtain ⟨n, h1, hq⟩ := Res.bind_ok hq
    obtain ⟨rest, h2, hq⟩ := Res.bind_ok hq
    cases hq
    exact run_mapM_cons f fs _ w (by simp [run_size h1]) (places_ok fs rest h2)

theorem build_ok {t : Nat} {parts : List (Nat × AVal)} {pv : Array (Nat × Value)} {res : AVal} (hq : buildR F.c.P t parts = .ok res) (hp : PartsRel ι F.ρ parts pv.toList) :
    ∃ v, (Instr.build t pv).run F.c.P w = .ok v w ∧ VRel ι F.ρ res v := by
  unfold buildR at hq
  obtain ⟨z, h1, hq⟩ := Res.bind_ok hq
  obtain ⟨zs, h2, hq⟩ := Res.bind_ok hq
  obtain ⟨d, h3, hq⟩ := Res.bind_ok hq
  have hu := undR_ok h3
  obtain ⟨zv, z1, z2⟩ := zeroV_ok (ι := ι) (ρ := F.ρ) h1
  obtain ⟨c1, c2⟩ := z2.cells h2
  split at hq
  · rename_i fs
    obtain ⟨pl, h4, hq⟩ := Res.bind_ok hq
    obtain ⟨cs, h5, hq⟩ := Res.bind_ok hq
    cases hq
    obtain ⟨rv, r1, r2, r3⟩ := fill_ok parts pv.toList zs cs zv.cells h5 hp c1 c2
    have hpl := run_mapM_arr fs (fun f => (do pure (f.offset, ← sizeOf f.type) : Sem (Nat × Nat))) w (places_ok fs.toList pl h4)
    refine ⟨.agg rv, ?_, rv, rfl, r2, r3⟩
    have e : (fun (i : Nat) => pl.toArray[i]?) = fun (i : Nat) => pl[i]? := by funext i; simp
    simp only [Instr.build, Sem.run_bind, z1, Result.andThen_ok, run_und hu, hpl, e, r1, Sem.run_pure]
  · obtain ⟨size, h4, hq⟩ := Res.bind_ok hq
    obtain ⟨cs, h5, hq⟩ := Res.bind_ok hq
    cases hq
    obtain ⟨rv, r1, r2, r3⟩ := fill_ok parts pv.toList zs cs zv.cells h5 hp c1 c2
    refine ⟨.agg rv, ?_, rv, rfl, r2, r3⟩
    simp only [Instr.build, Sem.run_bind, z1, Result.andThen_ok, run_und hu, run_size h4, r1, Sem.run_pure]
  · cases hq
end
end Go.Proofs.Ytbnlhhfobgjeaaa
