/-
  append, copy, clear, rows that are made: what the abstract machine makes of them is what the model makes of them.
-/
import Derived.Test.YtbnlhhfobgjeaaaZzOp6
set_option linter.all false
namespace Go.Proofs.Ytbnlhhfobgjeaaa
open Go Go.RowKit

section
variable {F : Fix} {ι : Inj} {h : AHeap} {w : World}

theorem CellsAt.list {ρ : RoMap} {b x : Nat} {vs : List AVal} (hc : CellsAt ι ρ w b x vs) :
    ∃ cs : List Value, cs.length = vs.length ∧ (∀ (j : Nat) (v : Value), cs[j]? = some v → w.cell? ⟨b, x + j, none⟩ = some v) ∧ VRels ι ρ vs cs ∧ ∀ v ∈ cs, oneC v = true := by
  induction vs generalizing x with
  | nil => exact ⟨[], rfl, by simp, rfl, by simp⟩
  | cons a as ih =>
    obtain ⟨v, h1, h2, h3⟩ := hc 0 a rfl
    obtain ⟨cs, c1, c2, c3, c4⟩ := ih (x := x + 1) (fun j a' hj => by
      obtain ⟨u, u1, u2⟩ := hc (j + 1) a' (by simpa using hj)
      exact ⟨u, by rw [show x + 1 + j = x + (j + 1) by omega]; exact u1, u2⟩)
    refine ⟨v :: cs, by simp [c1], ?_, ⟨v, cs, rfl, h3, c3⟩, ?_⟩
    · intro j u hj
      cases j with
      | zero => simp at hj; subst hj; simpa using h1
      | succ j => have := c2 j u (by simpa using hj); rw [show x + (j + 1) = x + 1 + j by omega]; exact this
    · intro u hu; rcases List.mem_cons.1 hu with rfl | hu
      · exact h2
      · exact c4 u hu

theorem Rel.cells (r : Rel F ι h w) {o : Nat} {ez : Nat} {fz : Bool} {vs : List AVal} (ho : h.get o = some (.row ez fz vs)) :
    ∃ e, ι o = some e ∧ CellsAt ι F.ρ w e.blk e.base vs ∧ e.esz = ez ∧ vs.length ≤ e.K := by
  obtain ⟨e, g1, _, g⟩ := r.obj o _ ho
  obtain ⟨c, T, fr, a1, a2, a3, a4, a5, a6, a7, a8⟩ := g
  refine ⟨e, g1, fun j a hj => ?_, a2, a4⟩
  obtain ⟨v, v1, v2⟩ := a8 j a hj
  refine ⟨v, by simp [World.cell?, a1, v1], a7 v ?_, v2⟩
  have := Array.getElem?_eq_some_iff.1 v1
  obtain ⟨hlt, rfl⟩ := this
  simp

theorem Rel.roCells (ok : F.Ok) (r : Rel F ι h w) {ro : Nat} {vs : List AVal} (ho : F.c.ro ro = some vs) : ∃ e, F.ρ ro = some e ∧ CellsAt ι F.ρ w e.1 e.2 vs := by
  obtain ⟨e, e1, e2, e3⟩ := ok.ro ro vs ho
  refine ⟨e, e1, fun j a hj => ?_⟩
  obtain ⟨v, v1, v2, v3⟩ := e3 j a hj
  refine ⟨v, ?_, v2, v3.mono (fun _ _ hn => by cases hn)⟩
  rw [← v1]
  exact r.below.cell (p := ⟨e.1, e.2 + j, none⟩) e2

theorem lenA_ok {x : AVal} {n : Nat} {xv : Value} (hq : lenA x = .ok n) (hx : VRel ι F.ρ x xv) : (Builtin.lenOf xv).run F.c.P w = .ok n w := by
  unfold lenA at hq
  split at hq <;> cases hq
  · simp only [VRel] at hx; subst hx; rfl
  · obtain ⟨_, _, _, _, rfl, _⟩ := hx; rfl
  · obtain ⟨_, _, _, rfl, _⟩ := hx; rfl
  · obtain ⟨_, _, _, _, rfl, _⟩ := hx; rfl
  · simp only [VRel] at hx; subst hx; simp [Builtin.lenOf, ba_size]

theorem firstCells_at {ρ : RoMap} {b x size n : Nat} {vs cs : List AVal} (hc : CellsAt ι ρ w b x vs) {off : Nat} (ht : takeR vs off (n * size) = .ok cs) {xo len cap : Nat} (hxo : xo = x + off ∨ n = 0) {P : Program} :
    ∃ arr : Array Value, (∀ d, (Builtin.firstCells size n (.slice (some ⟨b, xo, none⟩) len cap)).run P { w with drawn := d } = .ok arr { w with drawn := d }) ∧ VRels ι ρ cs arr.toList ∧ ∀ v ∈ arr.toList, oneC v = true := by
  obtain ⟨t1, rfl⟩ := takeR_ok ht
  by_cases hn : n = 0
  · subst hn
    refine ⟨#[], fun d => ?_, by simp [VRels], by simp⟩
    simp only [Builtin.firstCells, Nat.zero_mul, loadCells, loadCellsFrom, Sem.run_pure]
  · have hxo : xo = x + off := hxo.resolve_right hn
    subst hxo
    obtain ⟨l, l1, l2, l3, l4⟩ := (hc.sub off (n * size)).list
    have hlen : l.length = n * size := by rw [l1]; simp; omega
    refine ⟨l.toArray, fun d => ?_, by simpa using l3, by simpa using l4⟩
    have := run_loadCells_list (P := P) (w := { w with drawn := d }) ⟨b, x + off, none⟩ l (fun j v hj => by rw [add_none]; exact l2 j v hj)
    rw [hlen] at this
    exact this

theorem firstCells_zero {P : Program} {w : World} {size : Nat} {b : Option Addr} {len cap : Nat} : (Builtin.firstCells size 0 (.slice b len cap)).run P w = .ok #[] w := by
  cases b <;> simp only [Builtin.firstCells, Nat.zero_mul, loadCells, loadCellsFrom, Sem.run_pure]

theorem readSl_ok (ok : F.Ok) (r : Rel F ι h w) {size n len : Nat} {x : AVal} {cs : List AVal} {xv : Value} (hq : readSl F.c h size n x = .ok cs) (hx : VRel ι F.ρ x xv) (hl : lenA x = .ok len) (hn : n ≤ len) :
    ∃ arr : Array Value, (∀ d, (Builtin.firstCells size n xv).run F.c.P { w with drawn := d } = .ok arr { w with drawn := d }) ∧ VRels ι F.ρ cs arr.toList ∧ ∀ v ∈ arr.toList, oneC v = true := by
  unfold readSl at hq
  split at hq
  · split at hq <;> cases hq
    simp only [VRel] at hx; subst hx
    exact ⟨#[], fun d => rfl, rfl, by simp⟩
  · split at hq
    · rename_i hn0; cases hq; subst hn0
      simp only [VRel] at hx
      obtain ⟨e, xo, cap, he, rfl, hcap, hlen, hxo⟩ := hx
      exact ⟨#[], fun d => firstCells_zero, rfl, by simp⟩
    split at hq
    · rename_i o off ln _ ez fz vs ho
      cases hl
      obtain ⟨e, xo, cap, he, rfl, hcap, hlen, hxo⟩ := hx
      obtain ⟨e', g1, g2, _⟩ := r.cells ho
      rw [he] at g1; cases g1
      exact firstCells_at g2 hq (hxo.elim .inl fun h0 => .inr (by omega))
    · cases hq
  · split at hq
    · rename_i hn0; cases hq; subst hn0
      simp only [VRel] at hx
      obtain ⟨e, xo, he, rfl, hlen, hxo⟩ := hx
      exact ⟨#[], fun d => firstCells_zero, rfl, by simp⟩
    split at hq
    · rename_i o off ln cp _ ez fz vs ho
      cases hl
      obtain ⟨e, xo, he, rfl, hlen, hxo⟩ := hx
      obtain ⟨e', g1, g2, _⟩ := r.cells ho
      rw [he] at g1; cases g1
      exact firstCells_at g2 hq (hxo.elim .inl fun h0 => .inr (by omega))
    · cases hq
  · split at hq
    · rename_i hn0; cases hq; subst hn0
      simp only [VRel] at hx
      obtain ⟨e, xo, cap, he, rfl, hlen, hxo⟩ := hx
      exact ⟨#[], fun d => firstCells_zero, rfl, by simp⟩
    split at hq
    · rename_i ro off ln _ vs ho
      cases hl
      obtain ⟨e, xo, cap, he, rfl, hlen, hxo⟩ := hx
      obtain ⟨e', g1, g2⟩ := r.roCells ok ho
      rw [he] at g1; cases g1
      exact firstCells_at g2 hq (hxo.elim .inl fun h0 => .inr (by omega))
    · cases hq
  · rename_i s
    split at hq <;> cases hq
    simp only [VRel] at hx; subst hx
    have harr : (((⟨s.toArray⟩ : ByteArray).extract 0 n).data.map fun b => Value.int .u8 b.toNat).toList = (s.take n).map fun b => Value.int .u8 b.toNat := by
      rw [ba_extract]; simp [List.map_take]
    refine ⟨((⟨s.toArray⟩ : ByteArray).extract 0 n).data.map fun b => .int .u8 b.toNat, fun d => rfl, ?_, ?_⟩
    · rw [harr]
      refine VRels.of_get (by simp) fun j a hj => ?_
      simp only [List.getElem?_map] at hj ⊢
      cases hs : (s.take n)[j]? with
      | none => simp [hs] at hj
      | some b => simp [hs] at hj ⊢; subst hj; rfl
    · intro v hv
      rw [harr] at hv
      obtain ⟨b, _, rfl⟩ := List.mem_map.1 hv
      rfl
  · cases hq

/-- a new row -/
theorem push_row (r : Rel F ι h w) (fr : Fresh ι h.next (h.next + 1)) {cs : List AVal} {c : Array Value} {T : TypeId} {f : Nat × Nat} {esz : Nat} {fz : Bool} (d : Nat) (hl : cs.length ≤ c.size) (hz : fz = false → f = (0, 0)) (hf : f = (0, 0) ∨ c.size ≤ f.1)
    (ho : ∀ v ∈ c.toList, oneC v = true) (hc : ∀ (j : Nat) (a : AVal), cs[j]? = some a → ∃ v, c[j]? = some v ∧ VRel ι F.ρ a v) :
    ∃ ι', ι' h.next = some ⟨w.heap.size, 0, c.size, esz⟩ ∧ Rel F ι' (h.push (.row esz fz cs)) { w with drawn := d, heap := w.heap.push (.cells c T f) } ∧ Step ι h w ι' (h.push (.row esz fz cs)) { w with drawn := d, heap := w.heap.push (.cells c T f) } := by
  have hnone : ι h.next = none := fr _ (Nat.le_refl _) (Nat.lt_succ_self _)
  have := (r.drawn d).push fr (.cells c T f) (.row esz fz cs) ⟨w.heap.size, 0, c.size, esz⟩ rfl ⟨c, T, f, by simp, rfl, by simp, hl, hz, hf, ho, fun j a hj => by
    obtain ⟨v, v1, v2⟩ := hc j a hj
    exact ⟨v, by simpa using v1, v2.mono (upd_sub _ hnone)⟩⟩
  exact ⟨_, upd_self _ _ _, this.1, (Step.drawn ι h w d).trans this.2⟩

theorem nextcap_le (need cap : Nat) (hlt : cap < need) : Builtin.nextslicecap need cap ≤ 2 * need := by
  unfold Builtin.nextslicecap
  split
  · omega
  · split
    · omega
    · have hgrow : ∀ (k c : Nat), 256 ≤ c → c ≤ 2 * need → Builtin.growBy need k c ≤ 2 * need := by
        intro k
        induction k with
        | zero => intro c _ h2; exact h2
        | succ k ih =>
          intro c h1 h2
          unfold Builtin.growBy
          split
          · exact h2
          · exact ih _ (by omega) (by omega)
      exact hgrow 4 cap (by omega) (by omega)

theorem zeroCells_ok' {z : Value} (ho : ∀ x ∈ z.cells.toList, oneC x = true) (n : Nat) : ∀ v ∈ (Builtin.zeroCells z.cells n).toList, oneC v = true := by
  intro v hv
  unfold Builtin.zeroCells at hv
  simp at hv
  obtain ⟨i, hi, rfl⟩ := hv
  have hpos : 0 < z.cells.size := by
    by_cases h0 : z.cells.size = 0
    · simp [h0] at hi
    · omega
  have : i % z.cells.size < z.cells.size := Nat.mod_lt _ hpos
  rw [getElem!_pos z.cells _ this]
  exact ho _ (by simp)


/-- rows at a place, as append leaves them in place -/
theorem Rel.move (r : Rel F ι h w) (fr : Fresh ι h.next (h.next + 1)) {o off : Nat} {ez : Nat} {fz fz' : Bool} {vs vs' : List AVal} {e : Ent} (ho : h.get o = some (.row ez fz vs)) (he : ι o = some e)
    {w' : World} (hk : Keep (fun b => b = e.blk) w w') (hx : ObjRel ι F.ρ w' ⟨e.blk, e.base + off, e.K - off, e.esz⟩ (.row ez fz' vs')) :
    ∃ ι', ι' h.next = some ⟨e.blk, e.base + off, e.K - off, e.esz⟩ ∧ Rel F ι' ((h.del o).push (.row ez fz' vs')) w' ∧ Step ι h w ι' ((h.del o).push (.row ez fz' vs')) w' := by
  have hnone : ι h.next = none := fr _ (Nat.le_refl _) (Nat.lt_succ_self _)
  have hs := upd_sub (o := h.next) ⟨e.blk, e.base + off, e.K - off, e.esz⟩ hnone
  obtain ⟨e', h1, h2, h3⟩ := r.obj o _ ho
  rw [he] at h1; cases h1
  have hkeep : Keep (Own ι h) w w' := hk.mono fun j _ hj => ⟨o, _, e, ho, he, hj.symm⟩
  have hobj : ∀ p y, ((h.del o).push (.row ez fz' vs')).get p = some y → (p = h.next ∧ y = .row ez fz' vs') ∨ (p ≠ h.next ∧ p ≠ o ∧ h.get p = some y) := by
    intro p y hp
    rw [AHeap.get_push, AHeap.get_del] at hp
    split at hp
    · rename_i hpn; left; simp at hp; exact ⟨hpn, hp.symm⟩
    · rename_i hpn
      split at hp
      · cases hp
      · rename_i hpo; exact .inr ⟨hpn, hpo, hp⟩
  refine ⟨upd ι h.next ⟨e.blk, e.base + off, e.K - off, e.esz⟩, upd_self _ _ _, ⟨hkeep.below r.below (Nat.le_refl _) r.own_ge, ?_, ?_, ?_⟩, ⟨hs, ?_, by simp, hkeep, ?_⟩⟩
  · intro p y hp
    rcases hobj p y hp with ⟨rfl, rfl⟩ | ⟨hne, hno, hp'⟩
    · exact ⟨_, upd_self _ _ _, h2, hx.mono hs rfl⟩
    · obtain ⟨f, f1, f2, f3⟩ := r.obj p y hp'
      refine ⟨f, by simp [upd, hne, f1], f2, f3.mono hs (hk.block _ f3.lt fun hb => hno (r.inj p o _ _ f e hp' ho f1 he hb))⟩
  · intro p p' y y' f f' a1 a2 a3 a4 a5
    rcases hobj p y a1 with ⟨rfl, rfl⟩ | ⟨hne, hno, a1'⟩ <;> rcases hobj p' y' a2 with ⟨h6, h7⟩ | ⟨hne', hno', a2'⟩
    · exact h6.symm
    · exfalso
      simp [upd] at a3; subst a3
      simp [upd, hne'] at a4
      exact hno' (r.inj p' o _ _ f' e a2' ho a4 he a5.symm)
    · exfalso
      subst h6
      simp [upd] at a4; subst a4
      simp [upd, hne] at a3
      exact hno (r.inj p o _ _ f e a1' ho a3 he a5)
    · simp [upd, hne] at a3
      simp [upd, hne'] at a4
      exact r.inj p p' y y' f f' a1' a2' a3 a4 a5
  · intro p y hp
    rcases hobj p y hp with ⟨rfl, rfl⟩ | ⟨_, _, hp'⟩
    · simp
    · have := r.lt p y hp'; simp; omega
  · intro p
    by_cases hp : p = h.next
    · subst hp; right; right; simp
    · right; left; simp [upd, hp]
  · rintro b ⟨p, y, f, a1, a2, rfl⟩
    left
    rcases hobj p y a1 with ⟨rfl, rfl⟩ | ⟨hne, _, a1'⟩
    · simp [upd] at a2; subst a2; exact ⟨o, _, e, ho, he, rfl⟩
    · exact ⟨p, y, f, a1', by simpa [upd, hne] using a2, rfl⟩

theorem run_storeCells_nil {P : Program} (a : Addr) : (storeCells a []).run P w = .ok () w := rfl

/-- what is not known of a row, up to its end -/
theorem ObjRel.fill {ι : Inj} {ρ : RoMap} {e : Ent} {ez : Nat} {fz : Bool} {vs : List AVal} (hr : ObjRel ι ρ w e (.row ez fz vs)) : ObjRel ι ρ w e (.row ez fz (vs ++ List.replicate (e.K - vs.length) .dead)) := by
  obtain ⟨c, T, fr, a1, a2, a3, a4, a5, a6, a7, a8⟩ := hr
  refine ⟨c, T, fr, a1, a2, a3, by simp; omega, a5, a6, a7, fun j a hj => ?_⟩
  rw [List.getElem?_append] at hj
  split at hj
  · exact a8 j a hj
  · rw [List.getElem?_replicate] at hj
    split at hj
    · cases hj
      have hlt : e.base + j < c.size := by omega
      exact ⟨c[e.base + j], by simp [hlt], trivial⟩
    · cases hj

/-- a part of a row, as a row -/
theorem ObjRel.part {ι : Inj} {ρ : RoMap} {e : Ent} {ez : Nat} {fz : Bool} {vs : List AVal} (hr : ObjRel ι ρ w e (.row ez fz vs)) (off m : Nat) (ho : off ≤ e.K) :
    ObjRel ι ρ w ⟨e.blk, e.base + off, e.K - off, e.esz⟩ (.row ez true ((vs.drop off).take m)) := by
  obtain ⟨c, T, fr, a1, a2, a3, a4, a5, a6, a7, a8⟩ := hr
  refine ⟨c, T, fr, a1, a2, by simp only; omega, by simp; omega, by simp, a6, a7, fun j a hj => ?_⟩
  rw [List.getElem?_take] at hj
  split at hj
  · rw [List.getElem?_drop] at hj
    obtain ⟨v, v1, v2⟩ := a8 _ a hj
    exact ⟨v, by simp only; rw [Nat.add_assoc]; exact v1, v2⟩
  · cases hj

set_option maxHeartbeats 1000000 in
theorem append_ok (ok : F.Ok) (r : Rel F ι h w) {st : Nat} {xt : Option Nat} {s x v : AVal} {h' : AHeap} {sv xv : Value} {ts : Array TypeId} {ty : TypeId} (h0 : ts[0]? = some st) (h1 : ts[1]? = xt)
    (hq : appendR F.c h st xt s x = .ok (v, h')) (hs : VRel ι F.ρ s sv) (hx : VRel ι F.ρ x xv) (fr : Fresh ι h.next h'.next) :
    ∃ u w' ι', (Builtin.append_ ts ty #[sv, xv]).run F.c.P w = .ok u w' ∧ VRel ι' F.ρ v u ∧ Rel F ι' h' w' ∧ Step ι h w ι' h' w' := by
  unfold appendR at hq
  obtain ⟨e, he, hq1⟩ := Res.bind_ok hq; clear hq
  obtain ⟨i, hi, hq2⟩ := Res.bind_ok hq1; clear hq1
  obtain ⟨_, hn, hq3⟩ := Res.bind_ok hq2; clear hq2
  obtain ⟨n, hl, hq4⟩ := Res.bind_ok hq3; clear hq3
  obtain ⟨new, hnew, hq5⟩ := Res.bind_ok hq4; clear hq4
  obtain ⟨zc, hzc, hq6⟩ := Res.bind_ok hq5; clear hq5
  have hu : F.c.P.underlying st = some (.slice e) := by
    unfold elemSl at he
    obtain ⟨d, hd, he⟩ := Res.bind_ok he
    split at he
    · cases he; exact undR_ok hd
    · cases he
  have hi := infoR_ok hi
  subst h1
  have hlen := lenA_ok (w := w) hl hx
  obtain ⟨arr, a1, a2, a3⟩ := readSl_ok ok r hnew hx hl (Nat.le_refl _)
  have a1w := a1 w.drawn
  split at hq6
  · cases hq6
  rename_i hsz
  have hsz1 : i.size ≠ 0 := fun hh => hsz (.inl hh)
  have hsz2 : i.bytes ≠ 0 := fun hh => hsz (.inr (.inl hh))
  have hsz3 : zc.length = i.size := Decidable.byContradiction fun hh => hsz (.inr (.inr hh))
  have hnl : arr.size = new.length := by have := a2.length; simp at this; omega
  obtain ⟨z, z1, z2, z3⟩ := zeroCells_ok (ι := ι) (ρ := F.ρ) hzc
  have hzl : z.cells.size = i.size := by have := z2.length; simp at this; omega
  have hnewlen : new.length = n * i.size := by
    unfold readSl at hnew
    split at hnew
    · split at hnew <;> cases hnew; rename_i hn0; simp [hn0]
    · split at hnew
      · rename_i hn0; cases hnew; simp [hn0]
      split at hnew
      · obtain ⟨t1, rfl⟩ := takeR_ok hnew; simp; omega
      · cases hnew
    · split at hnew
      · rename_i hn0; cases hnew; simp [hn0]
      split at hnew
      · obtain ⟨t1, rfl⟩ := takeR_ok hnew; simp; omega
      · cases hnew
    · split at hnew
      · rename_i hn0; cases hnew; simp [hn0]
      split at hnew
      · obtain ⟨t1, rfl⟩ := takeR_ok hnew; simp; omega
      · cases hnew
    · split at hnew
      · rename_i hs1; cases hnew; simp [hs1.1]; omega
      · cases hnew
    · cases hnew
  have hfr : ∀ x, h' = (h.push x) ∨ (∃ o, h' = (h.del o).push x) → Fresh ι h.next (h.next + 1) := by
    rintro x (rfl | ⟨o, rfl⟩) <;> exact fr
  -- a new row
  have hnewrow : ∀ (hh : AHeap) (rr : Rel F ι hh w) (hnx : hh.next = h.next) (base : Option Addr) (len cap : Nat) (old : List AVal) (oa : Array Value) (fz : Bool), VRels ι F.ρ old oa.toList → (∀ v ∈ oa.toList, oneC v = true) →
      old.length = len * i.size → (∀ d, (Builtin.firstCells i.size len (.slice base len cap)).run F.c.P { w with drawn := d } = .ok oa { w with drawn := d }) → ¬ len + n ≤ cap → (len + n) * i.bytes ≤ 2 ^ 47 →
      Fresh ι h.next (h.next + 1) → ∃ u w' ι', (Builtin.append_ ts ty #[.slice base len cap, xv]).run F.c.P w = .ok u w' ∧ VRel ι' F.ρ (.sl h.next 0 (len + n)) u ∧ Rel F ι' (hh.push (.row i.size fz (old ++ new))) w' ∧ Step ι hh w ι' (hh.push (.row i.size fz (old ++ new))) w' := by
    intro hh rr hnx base len cap old oa fz b1 b2 b3 b4 b5 b6 b7
    have hroom : ¬ (281474976710656 < Builtin.nextslicecap (len + n) cap * i.bytes) := by
      have := nextcap_le (len + n) cap (by omega)
      have h2 : Builtin.nextslicecap (len + n) cap * i.bytes ≤ 2 * (len + n) * i.bytes := Nat.mul_le_mul_right _ this
      have h3 : 2 * (len + n) * i.bytes = 2 * ((len + n) * i.bytes) := Nat.mul_assoc _ _ _
      omega
    obtain ⟨nc, c1, c2⟩ := append_new (w := w) (ty := ty) h0 hu hi hn hlen b5 hsz2 hroom a1 b4 z1
    have hoa : oa.size = old.length := by have := b1.length; simp at this; omega
    have hzs : (Builtin.zeroCells z.cells (nc - (len + n))).size = (nc - (len + n)) * i.size := by simp [Builtin.zeroCells, hzl]
    have hcs : (oa ++ arr ++ Builtin.zeroCells z.cells (nc - (len + n))).size = nc * i.size := by
      rw [Array.size_append, Array.size_append, hoa, hnl, hzs, b3, hnewlen, ← Nat.add_mul, ← Nat.add_mul]; congr 1; omega
    obtain ⟨ι', d1, d2, d3⟩ := push_row (cs := old ++ new) (c := oa ++ arr ++ Builtin.zeroCells z.cells (nc - (len + n))) (T := e) (f := (0, 0)) (esz := i.size) (fz := fz) rr (by rw [hnx]; exact b7) (w.drawn + 1)
      (by rw [List.length_append, Array.size_append, Array.size_append]; omega) (fun _ => rfl) (.inl rfl) (by
        intro v hv
        rw [Array.toList_append, Array.toList_append, List.mem_append, List.mem_append] at hv
        rcases hv with (hv | hv) | hv
        · exact b2 v hv
        · exact a3 v hv
        · exact zeroCells_ok' z3 _ v hv) (fun j a hj => by
        have hrel := b1.append a2
        obtain ⟨v, v1, v2⟩ := hrel.get hj
        have hlt := (List.getElem?_eq_some_iff.1 v1).1
        refine ⟨v, ?_, v2⟩
        rw [← Array.toList_append, Array.getElem?_toList] at v1
        rw [Array.getElem?_append, if_pos (by simpa using hlt)]
        exact v1)
    rw [hnx] at d1
    refine ⟨_, _, ι', c2, ⟨_, 0, nc, d1, rfl, ?_, c1, .inl rfl⟩, d2, d3⟩
    simp only [hcs, Nat.add_zero]
  have hle_of : ∀ {a b : Nat}, a * i.size ≤ b * i.size → a ≤ b := fun hh => Nat.le_of_mul_le_mul_right hh (Nat.pos_of_ne_zero hsz1)
  split at hq6
  · -- nil
    simp only [VRel] at hs; subst hs
    split at hq6
    · rename_i hn0
      cases hq6
      subst hn0
      exact ⟨_, w, ι, append_in_nil (ty := ty) h0 hu hi hn hlen a1w, rfl, r, Step.refl _ _ _⟩
    · rename_i hn0
      split at hq6
      · cases hq6
      · rename_i hby
        cases hq6
        have := hnewrow h r rfl none 0 0 [] #[] false rfl (by simp) (by simp) (fun d => rfl) (by omega) (by rw [Nat.zero_add]; omega) fr
        simpa using this
  · -- a slice up to its row's end
    rename_i o off len
    split at hq6
    rotate_left; · cases hq6
    rename_i ez fz vs ho
    split at hq6
    rotate_left; · cases hq6
    rename_i hez
    subst hez
    obtain ⟨en, xo, cap, hen, rfl, hcap, hlc, hxo⟩ := hs
    obtain ⟨en', g1, gN, g⟩ := r.obj o _ ho
    rw [hen] at g1; cases g1
    have hgesz : en.esz = i.size := by obtain ⟨_, _, _, _, g2, _⟩ := g; exact g2
    have hgK : vs.length ≤ en.K := by obtain ⟨_, _, _, _, _, _, g4, _⟩ := g; exact g4
    rw [hgesz] at hcap
    split at hq6
    · rename_i hfit
      obtain ⟨vs', hov, hq7⟩ := Res.bind_ok hq6
      cases hq7
      have hle : len + n ≤ cap := hle_of (by rw [Nat.add_mul] at *; omega)
      rcases hxo with hxo | hxo
      · subst hxo
        obtain ⟨row, s1, s2⟩ := g.over (P := F.c.P) hov a2 a3
        have hst : (storeCells ((⟨en.blk, en.base + off, none⟩ : Addr).add (len * i.size)) arr.toList).run F.c.P w = .ok () (w.setRow en.blk row) := by
          rw [add_none, Nat.add_assoc]; exact s1
        obtain ⟨t1, t2⟩ := r.set (.row i.size fz vs') ho hen (Keep.setRow w en.blk row) s2
        exact ⟨_, _, ι, append_in (ty := ty) h0 hu hi hn hlen hle a1w hst, ⟨en, _, cap, hen, rfl, by rw [hgesz]; exact hcap, hle, .inl rfl⟩, t1, t2⟩
      · have hn0 : n = 0 := by omega
        have hl0 : len = 0 := by omega
        subst hn0; subst hl0; subst hxo
        have harr : arr = #[] := by
          have : arr.size = 0 := by rw [hnl, hnewlen]; simp
          exact Array.eq_empty_of_size_eq_zero this
        have hnew0 : new = [] := List.eq_nil_of_length_eq_zero (by rw [hnewlen]; simp)
        subst harr; subst hnew0
        have hvs : vs' = vs := by
          have := (overR_ok hov).2
          simpa using this
        subst hvs
        obtain ⟨t1, t2⟩ := r.set (.row i.size fz vs') ho hen (Keep.refl _ w) g
        exact ⟨_, w, ι, append_in (ty := ty) h0 hu hi hn hlen hle a1w rfl, ⟨en, xo, 0, hen, rfl, by rw [hgesz]; exact hcap, by omega, .inr rfl⟩, t1, t2⟩
    · rename_i hfit
      split at hq6
      · cases hq6
      rename_i hby
      obtain ⟨old, hold, hq7⟩ := Res.bind_ok hq6
      cases hq7
      obtain ⟨q1, q2⟩ := takeR_ok hold
      have hoff : off ≤ en.K := by omega
      have hcells : CellsAt ι F.ρ w en.blk en.base vs := by
        obtain ⟨e'', x1, x2, _⟩ := r.cells ho
        rw [hen] at x1; cases x1; exact x2
      obtain ⟨oa, oa1, oa2, oa3⟩ := firstCells_at (P := F.c.P) (xo := xo) (len := len) (cap := cap) hcells hold (hxo.elim .inl fun h0 => .inr (by omega))
      have holdlen : old.length = len * i.size := by rw [q2]; simp; omega
      have hdel : Step ι h w ι (h.del o) w := ⟨Sub.refl _, fun _ => .inr (.inl rfl), Nat.le_refl _, Keep.refl _ _, fun b hb => .inl hb.del⟩
      by_cases hle : len + n ≤ cap
      · -- there was room
        by_cases hn0 : n = 0
        · exfalso; subst hn0; apply hfit; rw [Nat.add_zero]; omega
        have hxo : xo = en.base + off := hxo.elim id fun h0 => by omega
        subst hxo
        have hfill := g.fill
        have hfl : (vs ++ List.replicate (en.K - vs.length) AVal.dead).length = en.K := by simp; omega
        have hmul : (len + n) * i.size ≤ cap * i.size := Nat.mul_le_mul_right _ hle
        rw [Nat.add_mul] at hmul
        have hov : overR (vs ++ List.replicate (en.K - vs.length) AVal.dead) (off + len * i.size) new =
            .ok ((vs ++ List.replicate (en.K - vs.length) AVal.dead).take (off + len * i.size) ++ new ++ (vs ++ List.replicate (en.K - vs.length) AVal.dead).drop (off + len * i.size + new.length)) := by
          unfold overR; rw [if_pos (by rw [hfl, hnewlen]; omega)]
        obtain ⟨row, s1, s2⟩ := hfill.over (P := F.c.P) hov a2 a3
        have hst : (storeCells ((⟨en.blk, en.base + off, none⟩ : Addr).add (len * i.size)) arr.toList).run F.c.P w = .ok () (w.setRow en.blk row) := by
          rw [add_none, Nat.add_assoc]; exact s1
        have hsub := s2.part off ((len + n) * i.size) hoff
        have hlist : ((((vs ++ List.replicate (en.K - vs.length) AVal.dead).take (off + len * i.size) ++ new ++ (vs ++ List.replicate (en.K - vs.length) AVal.dead).drop (off + len * i.size + new.length)).drop off).take ((len + n) * i.size)) = old ++ new := by
          rw [q2]
          have e1 : (vs ++ List.replicate (en.K - vs.length) AVal.dead).take (off + len * i.size) = vs.take (off + len * i.size) := List.take_append_of_le_length q1
          rw [e1, List.append_assoc, List.drop_append_of_le_length (by simp; omega), List.drop_take, ← List.append_assoc]
          rw [List.take_append_of_le_length (by simp [hnewlen, Nat.add_mul]; omega)]
          rw [show off + len * i.size - off = len * i.size by omega]
          rw [List.take_of_length_le (by simp [hnewlen, Nat.add_mul]; omega)]
        rw [hlist] at hsub
        obtain ⟨ι', m1, m2, m3⟩ := r.move fr ho hen (Keep.setRow w en.blk row) hsub
        refine ⟨_, _, ι', append_in (ty := ty) h0 hu hi hn hlen hle a1w hst, ⟨_, _, cap, m1, rfl, ?_, hle, .inl rfl⟩, m2, m3⟩
        simp only [hgesz]; omega
      · -- there was none
        obtain ⟨u, w', ι', u1, u2, u3, u4⟩ := hnewrow (h.del o) (r.del o) rfl (some ⟨en.blk, xo, none⟩) len cap old oa true oa2 oa3 holdlen oa1 hle (by omega) fr
        exact ⟨u, w', ι', u1, u2, u3, hdel.trans u4⟩
  · -- a slice whose capacity is known
    rename_i o off len cap
    split at hq6
    rotate_left; · cases hq6
    rename_i ez fz vs ho
    obtain ⟨en, xo, hen, rfl, hlc, hxo⟩ := hs
    obtain ⟨en', g1, gN, g⟩ := r.obj o _ ho
    rw [hen] at g1; cases g1
    split at hq6
    · rename_i hle
      obtain ⟨vs', hov, hq7⟩ := Res.bind_ok hq6
      cases hq7
      rcases hxo with hxo | hxo
      · subst hxo
        obtain ⟨row, s1, s2⟩ := g.over (P := F.c.P) hov a2 a3
        have hst : (storeCells ((⟨en.blk, en.base + off, none⟩ : Addr).add (len * i.size)) arr.toList).run F.c.P w = .ok () (w.setRow en.blk row) := by
          rw [add_none, Nat.add_assoc]; exact s1
        obtain ⟨t1, t2⟩ := r.set (.row ez fz vs') ho hen (Keep.setRow w en.blk row) s2
        exact ⟨_, _, ι, append_in (ty := ty) h0 hu hi hn hlen hle a1w hst, ⟨en, _, hen, rfl, hle, .inl rfl⟩, t1, t2⟩
      · have hn0 : n = 0 := by omega
        have hl0 : len = 0 := by omega
        subst hn0; subst hl0; subst hxo
        have harr : arr = #[] := by
          have : arr.size = 0 := by rw [hnl, hnewlen]; simp
          exact Array.eq_empty_of_size_eq_zero this
        have hnew0 : new = [] := List.eq_nil_of_length_eq_zero (by rw [hnewlen]; simp)
        subst harr; subst hnew0
        have hvs : vs' = vs := by
          have := (overR_ok hov).2
          simpa using this
        subst hvs
        obtain ⟨t1, t2⟩ := r.set (.row ez fz vs') ho hen (Keep.refl _ w) g
        exact ⟨_, w, ι, append_in (ty := ty) h0 hu hi hn hlen hle a1w rfl, ⟨en, xo, hen, rfl, by omega, .inr rfl⟩, t1, t2⟩
    · rename_i hle
      split at hq6
      · cases hq6
      rename_i hby
      obtain ⟨old, hold, hq7⟩ := Res.bind_ok hq6
      cases hq7
      obtain ⟨q1, q2⟩ := takeR_ok hold
      have hcells : CellsAt ι F.ρ w en.blk en.base vs := by
        obtain ⟨e'', x1, x2, _⟩ := r.cells ho
        rw [hen] at x1; cases x1; exact x2
      obtain ⟨oa, oa1, oa2, oa3⟩ := firstCells_at (P := F.c.P) (xo := xo) (len := len) (cap := cap) hcells hold (hxo.elim .inl fun h0 => .inr (by omega))
      have holdlen : old.length = len * i.size := by rw [q2]; simp; omega
      exact hnewrow h r rfl (some ⟨en.blk, xo, none⟩) len cap old oa false oa2 oa3 holdlen oa1 hle (by omega) fr
  · -- read-only, and nothing to put
    rename_i ro off len
    split at hq6
    rotate_left; · cases hq6
    rename_i hn0
    cases hq6
    subst hn0
    obtain ⟨e', xo, cap, he', rfl, hlc, hxo⟩ := hs
    have harr : arr = #[] := by
      have : arr.size = 0 := by rw [hnl, hnewlen]; simp
      exact Array.eq_empty_of_size_eq_zero this
    subst harr
    exact ⟨_, w, ι, append_in (ty := ty) h0 hu hi hn hlen hlc a1w rfl, ⟨e', xo, cap, he', rfl, hlc, hxo⟩, r, Step.refl _ _ _⟩
  · cases hq6

end
end Go.Proofs.Ytbnlhhfobgjeaaa
