/-
  A part of the proof of ConsoleParses, over the seat YtofnbldbggddmaaGreatDoor: for every input the law returns true, and the input reads as it did.
-/
import Derived.Test.YtofnbldbggddmaaGreatDoorGa
set_option linter.all false
namespace Go.Proofs.YtofnbldbggddmaaGreatDoor
open Go Go.RowKit

section
variable {F : Fix} {ι : Inj} {h : AHeap} {w : World}

theorem CellsAt.list {ρ : RoMap} {b x : Nat} {vs : List AVal} (hc : CellsAt ι ρ w b x vs) :
    ∃ cs : List Value, cs.length = vs.length ∧ (∀ (j : Nat) (v : Value), cs[j]? = some v → w.cell? ⟨b, x + j, none⟩ = some v) ∧ VRels ι ρ vs cs ∧ ∀ v ∈ cs, oneC v = true := by
  induction vs generalizing x with
  | nil => exact ⟨[], rfl, by simp, rfl, by simp⟩
  | cons a as ih =>
    obtain ⟨v, h1, h2, h3⟩ := hc 0 a rfl
    obtain ⟨cs, c1, c2, c3, c4⟩ := ih (x := x + 1) (fun j a' hj => by
      obtain ⟨u, u1, u2⟩ := hc (j + 1) a' (by simpa using hj)
      exact ⟨u, by rw [show x + 1 + j = x + (j + 1) by omega]; exact u1, u2⟩)
    refine ⟨v :: cs, by simp [c1], ?_, ⟨v, cs, rfl, h3, c3⟩, ?_⟩
    · intro j u hj
      cases j with
      | zero => simp at hj; subst hj; simpa using h1
      | succ j => have := c2 j u (by simpa using hj); rw [show x + (j + 1) = x + 1 + j by omega]; exact this
    · intro u hu; rcases List.mem_cons.1 hu with rfl | hu
      · exact h2
      · exact c4 u hu

theorem Rel.cells (r : Rel F ι h w) {o : Nat} {ez : Nat} {fz : Bool} {vs : List AVal} (ho : h.get o = some (.row ez fz vs)) :
    ∃ e, ι o = some e ∧ CellsAt ι F.ρ w e.blk e.base vs ∧ e.esz = ez ∧ vs.length ≤ e.K := by
  obtain ⟨e, g1, _, g⟩ := r.obj o _ ho
  obtain ⟨c, T, fr, a1, a2, a3, a4, a5, a6, a7, a8⟩ := g
  refine ⟨e, g1, fun j a hj => ?_, a2, a4⟩
  obtain ⟨v, v1, v2⟩ := a8 j a hj
  refine ⟨v, by simp [World.cell?, a1, v1], a7 v ?_, v2⟩
  have := Array.getElem?_eq_some_iff.1 v1
  obtain ⟨hlt, rfl⟩ := this
  simp

theorem Rel.roCells (ok : F.Ok) (r : Rel F ι h w) {ro : Nat} {vs : List AVal} (ho : F.c.ro ro = some vs) : ∃ e, F.ρ ro = some e ∧ CellsAt ι F.ρ w e.1 e.2 vs := by
  obtain ⟨e, e1, e2, e3⟩ := ok.ro ro vs ho
  refine ⟨e, e1, fun j a hj => ?_⟩
  obtain ⟨v, v1, v2, v3⟩ := e3 j a hj
  refine ⟨v, ?_, v2, v3.mono (fun _ _ hn => by cases hn)⟩
  rw [← v1]
  exact r.below.cell (p := ⟨e.1, e.2 + j, none⟩) e2

theorem lenA_ok {x : AVal} {n : Nat} {xv : Value} (hq : lenA x = .ok n) (hx : VRel ι F.ρ x xv) : (Builtin.lenOf xv).run F.c.P w = .ok n w := by
  unfold lenA at hq
  split at hq <;> cases hq
  · simp only [VRel] at hx; subst hx; rfl
  · obtain ⟨_, _, _, _, rfl, _⟩ := hx; rfl
  · obtain ⟨_, _, _, rfl, _⟩ := hx; rfl
  · obtain ⟨_, _, _, _, rfl, _⟩ := hx; rfl
  · simp only [VRel] at hx; subst hx; simp [Builtin.lenOf, ba_size]

theorem firstCells_at {ρ : RoMap} {b x size n : Nat} {vs cs : List AVal} (hc : CellsAt ι ρ w b x vs) {off : Nat} (ht : takeR vs off (n * size) = .ok cs) {xo len cap : Nat} (hxo : xo = x + off ∨ n = 0) {P : Program} :
    ∃ arr : Array Value, (∀ d, (Builtin.firstCells size n (.slice (some ⟨b, xo, none⟩) len cap)).run P { w with drawn := d } = .ok arr { w with drawn := d }) ∧ VRels ι ρ cs arr.toList ∧ ∀ v ∈ arr.toList, oneC v = true := by
  obtain ⟨t1, rfl⟩ := takeR_ok ht
  by_cases hn : n = 0
  · subst hn
    refine ⟨#[], fun d => ?_, by simp [VRels], by simp⟩
    simp only [Builtin.firstCells, Nat.zero_mul, loadCells, loadCellsFrom, Sem.run_pure]
  · have hxo : xo = x + off := hxo.resolve_right hn
    subst hxo
    obtain ⟨l, l1, l2, l3, l4⟩ := (hc.sub off (n * size)).list
    have hlen : l.length = n * size := by rw [l1]; simp; omega
    refine ⟨l.toArray, fun d => ?_, by simpa using l3, by simpa using l4⟩
    have := run_loadCells_list (P := P) (w := { w with drawn := d }) ⟨b, x + off, none⟩ l (fun j v hj => by rw [add_none]; exact l2 j v hj)
    rw [hlen] at this
    exact this

theorem firstCells_zero {P : Program} {w : World} {size : Nat} {b : Option Addr} {len cap : Nat} : (Builtin.firstCells size 0 (.slice b len cap)).run P w = .ok #[] w := by
  cases b <;> simp only [Builtin.firstCells, Nat.zero_mul, loadCells, loadCellsFrom, Sem.run_pure]

theorem readSl_ok (ok : F.Ok) (r : Rel F ι h w) {size n len : Nat} {x : AVal} {cs : List AVal} {xv : Value} (hq : readSl F.c h size n x = .ok cs) (hx : VRel ι F.ρ x xv) (hl : lenA x = .ok len) (hn : n ≤ len) :
    ∃ arr : Array Value, (∀ d, (Builtin.firstCells size n xv).run F.c.P { w with drawn := d } = .ok arr { w with drawn := d }) ∧ VRels ι F.ρ cs arr.toList ∧ ∀ v ∈ arr.toList, oneC v = true := by
  unfold readSl at hq
  split at hq
  · split at hq <;> cases hq
    simp only [VRel] at hx; subst hx
    exact ⟨#[], fun d => rfl, rfl, by simp⟩
  · split at hq
    · rename_i hn0; cases hq; subst hn0
      simp only [VRel] at hx
      obtain ⟨e, xo, cap, he, rfl, hcap, hlen, hxo⟩ := hx
      exact ⟨#[], fun d => firstCells_zero, rfl, by simp⟩
    split at hq
    · rename_i o off ln _ ez fz vs ho
      cases hl
      obtain ⟨e, xo, cap, he, rfl, hcap, hlen, hxo⟩ := hx
      obtain ⟨e', g1, g2, _⟩ := r.cells ho
      rw [he] at g1; cases g1
      exact firstCells_at g2 hq (hxo.elim .inl fun h0 => .inr (by omega))
    · cases hq
  · split at hq
    · rename_i hn0; cases hq; subst hn0
      simp only [VRel] at hx
      obtain ⟨e, xo, he, rfl, hlen, hxo⟩ := hx
      exact ⟨#[], fun d => firstCells_zero, rfl, by simp⟩
    split at hq
    · rename_i o off ln cp _ ez fz vs ho
      cases hl
      obtain ⟨e, xo, he, rfl, hlen, hxo⟩ := hx
      obtain ⟨e', g1, g2, _⟩ := r.cells ho
      rw [he] at g1; cases g1
      exact firstCells_at g2 hq (hxo.elim .inl fun h0 => .inr (by omega))
    · cases hq
  · split at hq
    · rename_i hn0; cases hq; subst hn0
      simp only [VRel] at hx
      obtain ⟨e, xo, cap, he, rfl, hlen, hxo⟩ := hx
      exact ⟨#[], fun d => firstCells_zero, rfl, by simp⟩
    split at hq
    · rename_i ro off ln _ vs ho
      cases hl
      obtain ⟨e, xo, cap, he, rfl, hlen, hxo⟩ := hx
      obtain ⟨e', g1, g2⟩ := r.roCells ok ho
      rw [he] at g1; cases g1
      exact firstCells_at g2 hq (hxo.elim .inl fun h0 => .inr (by omega))
    · cases hq
  · rename_i s
    split at hq <;> cases hq
    simp only [VRel] at hx; subst hx
    have harr : (((⟨s.toArray⟩ : ByteArray).extract 0 n).data.map fun b => Value.int .u8 b.toNat).toList = (s.take n).map fun b => Value.int .u8 b.toNat := by
      rw [ba_extract]; simp [List.map_take]
    refine ⟨((⟨s.toArray⟩ : ByteArray).extract 0 n).data.map fun b => .int .u8 b.toNat, fun d => rfl, ?_, ?_⟩
    · rw [harr]
      refine VRels.of_get (by simp) fun j a hj => ?_
      simp only [List.getElem?_map] at hj ⊢
      cases hs : (s.take n)[j]? with
      | none => simp [hs] at hj
      | some b => simp [hs] at hj ⊢; subst hj; rfl
    · intro v hv
      rw [harr] at hv
      obtain ⟨b, _, rfl⟩ := List.mem_map.1 hv
      rfl
  · cases hq

/-- a new row -/
theorem push_row (r : Rel F ι h w) (fr : Fresh ι h.next (h.next + 1)) {cs : List AVal} {c : Array Value} {T : TypeId} {f : Nat × Nat} {esz : Nat} {fz : Bool} (d : Nat) (hl : cs.length ≤ c.size) (hz : fz = false → f = (0, 0)) (hf : f = (0, 0) ∨ c.size ≤ f.1)
    (ho : ∀ v ∈ c.toList, oneC v = true) (hc : ∀ (j : Nat) (a : AVal), cs[j]? = some a → ∃ v, c[j]? = some v ∧ VRel ι F.ρ a v) :
    ∃ ι', ι' h.next = some ⟨w.heap.size, 0, c.size, esz⟩ ∧ Rel F ι' (h.push (.row esz fz cs)) { w with drawn := d, heap := w.heap.push (.cells c T f) } ∧ Step ι h w ι' (h.push (.row esz fz cs)) { w with drawn := d, heap := w.heap.push (.cells c T f) } := by
  have hnone : ι h.next = none := fr _ (Nat.le_refl _) (Nat.lt_succ_self _)
  have := (r.drawn d).push fr (.cells c T f) (.row esz fz cs) ⟨w.heap.size, 0, c.size, esz⟩ rfl ⟨c, T, f, by simp, rfl, by simp, hl, hz, hf, ho, fun j a hj => by
    obtain ⟨v, v1, v2⟩ := hc j a hj
    exact ⟨v, by simpa using v1, v2.mono (upd_sub _ hnone)⟩⟩
  exact ⟨_, upd_self _ _ _, this.1, (Step.drawn ι h w d).trans this.2⟩

theorem nextcap_le (need cap : Nat) (hlt : cap < need) : Builtin.nextslicecap need cap ≤ 2 * need := by
  unfold Builtin.nextslicecap
  split
  · omega
  · split
    · omega
    · have hgrow : ∀ (k c : Nat), 256 ≤ c → c ≤ 2 * need → Builtin.growBy need k c ≤ 2 * need := by
        intro k
        induction k with
        | zero => intro c _ h2; exact h2
        | succ k ih =>
          intro c h1 h2
          unfold Builtin.growBy
          split
          · exact h2
          · exact ih _ (by omega) (by omega)
      exact hgrow 4 cap (by omega) (by omega)

theorem zeroCells_ok' {z : Value} (ho : ∀ x ∈ z.cells.toList, oneC x = true) (n : Nat) : ∀ v ∈ (Builtin.zeroCells z.cells n).toList, oneC v = true := by
  intro v hv
  unfold Builtin.zeroCells at hv
  simp at hv
  obtain ⟨i, hi, rfl⟩ := hv
  have hpos : 0 < z.cells.size := by
    by_cases h0 : z.cells.size = 0
    · simp [h0] at hi
    · omega
  have : i % z.cells.size < z.cells.size := Nat.mod_lt _ hpos
  rw [getElem!_pos z.cells _ this]
  exact ho _ (by simp)


/-- rows at a place, as append leaves them in place -/
theorem Rel.move (r : Rel F ι h w) (fr : Fresh ι h.next (h.next + 1)) {o off : Nat} {ez : Nat} {fz fz' : Bool} {vs vs' : List AVal} {e : Ent} (ho : h.get o = some (.row ez fz vs)) (he : ι o = some e)
    {w' : World} (hk : Keep (fun b => b = e.blk) w w') (hx : ObjRel ι F.ρ w' ⟨e.blk, e.base + off, e.K - off, e.esz⟩ (.row ez fz' vs')) :
    ∃ ι', ι' h.next = some ⟨e.blk, e.base + off, e.K - off, e.esz⟩ ∧ Rel F ι' ((h.del o).push (.row ez fz' vs')) w' ∧ Step ι h w ι' ((h.del o).push (.row ez fz' vs')) w' := by
  have hnone : ι h.next = none := fr _ (Nat.le_refl _) (Nat.lt_succ_self _)
  have hs := upd_sub (o := h.next) ⟨e.blk, e.base + off, e.K - off, e.esz⟩ hnone
  obtain ⟨e', h1, h2, h3⟩ := r.obj o _ ho
  rw [he] at h1; cases h1
  have hkeep : Keep (Own ι h) w w' := hk.mono fun j _ hj => ⟨o, _, e, ho, he, hj.symm⟩
  have hobj : ∀ p y, ((h.del o).push (.row ez fz' vs')).get p = some y → (p = h.next ∧ y = .row ez fz' vs') ∨ (p ≠ h.next ∧ p ≠ o ∧ h.get p = some y) := by
    intro p y hp
    rw [AHeap.get_push, AHeap.get_del] at hp
    split at hp
    · rename_i hpn; left; simp at hp; exact ⟨hpn, hp.symm⟩
    · rename_i hpn
      split at hp
      · cases hp
      · rename_i hpo; exact .inr ⟨hpn, hpo, hp⟩
  refine ⟨upd ι h.next ⟨e.blk, e.base + off, e.K - off, e.esz⟩, upd_self _ _ _, ⟨hkeep.below r.below (Nat.le_refl _) r.own_ge, ?_, ?_, ?_⟩, ⟨hs, ?_, by simp, hkeep, ?_⟩⟩
  · intro p y hp
    rcases hobj p y hp with ⟨rfl, rfl⟩ | ⟨hne, hno, hp'⟩
    · exact ⟨_, upd_self _ _ _, h2, hx.mono hs rfl⟩
    · obtain ⟨f, f1, f2, f3⟩ := r.obj p y hp'
      refine ⟨f, by simp [upd, hne, f1], f2, f3.mono hs (hk.block _ f3.lt fun hb => hno (r.inj p o _ _ f e hp' ho f1 he hb))⟩
  · intro p p' y y' f f' a1 a2 a3 a4 a5
    rcases hobj p y a1 with ⟨rfl, rfl⟩ | ⟨hne, hno, a1'⟩ <;> rcases hobj p' y' a2 with ⟨h6, h7⟩ | ⟨hne', hno', a2'⟩
    · exact h6.symm
    · exfalso
      simp [upd] at a3; subst a3
      simp [upd, hne'] at a4
      exact hno' (r.inj p' o _ _ f' e a2' ho a4 he a5.symm)
    · exfalso
      subst h6
      simp [upd] at a4; subst a4
      simp [upd, hne] at a3
      exact hno (r.inj p o _ _ f e a1' ho a3 he a5)
    · simp [upd, hne] at a3
      simp [upd, hne'] at a4
      exact r.inj p p' y y' f f' a1' a2' a3 a4 a5
  · intro p y hp
    rcases hobj p y hp with ⟨rfl, rfl⟩ | ⟨_, _, hp'⟩
    · simp
    · have := r.lt p y hp'; simp; omega
  · intro p
    by_cases hp : p = h.next
    · subst hp; right; right; simp
    · right; left; simp [upd, hp]
  · rintro b ⟨p, y, f, a1, a2, rfl⟩
    left
    rcases hobj p y a1 with ⟨rfl, rfl⟩ | ⟨hne, _, a1'⟩
    · simp [upd] at a2; subst a2; exact ⟨o, _, e, ho, he, rfl⟩
    · exact ⟨p, y, f, a1', by simpa [upd, hne] using a2, rfl⟩

theorem run_storeCells_nil {P : Program} (a : Addr) : (storeCells a []).run P w = .ok () w := rfl

/-- what is not known of a row, up to its end -/
theorem ObjRel.fill {ι : Inj} {ρ : RoMap} {e : Ent} {ez : Nat} {fz : Bool} {vs : List AVal} (hr : ObjRel ι ρ w e (.row ez fz vs)) : ObjRel ι ρ w e (.row ez fz (vs ++ List.replicate (e.K - vs.length) .dead)) := by
  obtain ⟨c, T, fr, a1, a2, a3, a4, a5, a6, a7, a8⟩ := hr
  refine ⟨c, T, fr, a1, a2, a3, by simp; omega, a5, a6, a7, fun j a hj => ?_⟩
  rw [List.getElem?_append] at hj
  split at hj
  · exact a8 j a hj
  · rw [List.getElem?_replicate] at hj
    split at hj
    · cases hj
      have hlt : e.base + j < c.size := by omega
      exact ⟨c[e.base + j], by simp [hlt], trivial⟩
    · cases hj

/-- a part of a row, as a row -/
theorem ObjRel.part {ι : Inj} {ρ : RoMap} {e : Ent} {ez : Nat} {fz : Bool} {vs : List AVal} (hr : ObjRel ι ρ w e (.row ez fz vs)) (off m : Nat) (ho : off ≤ e.K) :
    ObjRel ι ρ w ⟨e.blk, e.base + off, e.K - off, e.esz⟩ (.row ez true ((vs.drop off).take m)) := by
  obtain ⟨c, T, fr, a1, a2, a3, a4, a5, a6, a7, a8⟩ := hr
  refine ⟨c, T, fr, a1, a2, by simp only; omega, by simp; omega, by simp, a6, a7, fun j a hj => ?_⟩
  rw [List.getElem?_take] at hj
  split at hj
  · rw [List.getElem?_drop] at hj
    obtain ⟨v, v1, v2⟩ := a8 _ a hj
    exact ⟨v, by simp only; rw [Nat.add_assoc]; exact v1, v2⟩
  · cases hj

set_option maxHeartbeats 1000000 in
theorem appendG_ok (ok : F.Ok) (r : Rel F ι h w) {st : Nat} {xt : Option Nat} {s x v : AVal} {h' : AHeap} {sv xv : Value} {ts : Array TypeId} {ty : TypeId} (h0 : ts[0]? = some st) (h1 : ts[1]? = xt)
    (hn : notMake F.c.P xt = .ok ()) (hq : appendG F.c h st s x = .ok (v, h')) (hs : VRel ι F.ρ s sv) (hx : VRel ι F.ρ x xv) (fr : Fresh ι h.next h'.next) :
    ∃ u w' ι', (Builtin.append_ ts ty #[sv, xv]).run F.c.P w = .ok u w' ∧ VRel ι' F.ρ v u ∧ Rel F ι' h' w' ∧ Step ι h w ι' h' w' := by
  unfold appendG at hq
  obtain ⟨e, he, hq1⟩ := Res.bind_ok hq; clear hq
  obtain ⟨i, hi, hq3⟩ := Res.bind_ok hq1; clear hq1
  obtain ⟨n, hl, hq4⟩ := Res.bind_ok hq3; clear hq3
  obtain ⟨new, hnew, hq5⟩ := Res.bind_ok hq4; clear hq4
  obtain ⟨zc, hzc, hq6⟩ := Res.bind_ok hq5; clear hq5
  have hu : F.c.P.underlying st = some (.slice e) := by
    unfold elemSl at he
    obtain ⟨d, hd, he⟩ := Res.bind_ok he
    split at he
    · cases he; exact undR_ok hd
    · cases he
  have hi := infoR_ok hi
  subst h1
  have hlen := lenA_ok (w := w) hl hx
  obtain ⟨arr, a1, a2, a3⟩ := readSl_ok ok r hnew hx hl (Nat.le_refl _)
  have a1w := a1 w.drawn
  split at hq6
  · cases hq6
  rename_i hsz
  have hsz1 : i.size ≠ 0 := fun hh => hsz (.inl hh)
  have hsz2 : i.bytes ≠ 0 := fun hh => hsz (.inr (.inl hh))
  have hsz3 : zc.length = i.size := Decidable.byContradiction fun hh => hsz (.inr (.inr hh))
  have hnl : arr.size = new.length := by have := a2.length; simp at this; omega
  obtain ⟨z, z1, z2, z3⟩ := zeroCells_ok (ι := ι) (ρ := F.ρ) hzc
  have hzl : z.cells.size = i.size := by have := z2.length; simp at this; omega
  have hnewlen : new.length = n * i.size := by
    unfold readSl at hnew
    split at hnew
    · split at hnew <;> cases hnew; rename_i hn0; simp [hn0]
    · split at hnew
      · rename_i hn0; cases hnew; simp [hn0]
      split at hnew
      · obtain ⟨t1, rfl⟩ := takeR_ok hnew; simp; omega
      · cases hnew
    · split at hnew
      · rename_i hn0; cases hnew; simp [hn0]
      split at hnew
      · obtain ⟨t1, rfl⟩ := takeR_ok hnew; simp; omega
      · cases hnew
    · split at hnew
      · rename_i hn0; cases hnew; simp [hn0]
      split at hnew
      · obtain ⟨t1, rfl⟩ := takeR_ok hnew; simp; omega
      · cases hnew
    · split at hnew
      · rename_i hs1; cases hnew; simp [hs1.1]; omega
      · cases hnew
    · cases hnew
  have hfr : ∀ x, h' = (h.push x) ∨ (∃ o, h' = (h.del o).push x) → Fresh ι h.next (h.next + 1) := by
    rintro x (rfl | ⟨o, rfl⟩) <;> exact fr
  -- a new row
  have hnewrow : ∀ (hh : AHeap) (rr : Rel F ι hh w) (hnx : hh.next = h.next) (base : Option Addr) (len cap : Nat) (old : List AVal) (oa : Array Value) (fz : Bool), VRels ι F.ρ old oa.toList → (∀ v ∈ oa.toList, oneC v = true) →
      old.length = len * i.size → (∀ d, (Builtin.firstCells i.size len (.slice base len cap)).run F.c.P { w with drawn := d } = .ok oa { w with drawn := d }) → ¬ len + n ≤ cap → (len + n) * i.bytes ≤ 2 ^ 47 →
      Fresh ι h.next (h.next + 1) → ∃ u w' ι', (Builtin.append_ ts ty #[.slice base len cap, xv]).run F.c.P w = .ok u w' ∧ VRel ι' F.ρ (.sl h.next 0 (len + n)) u ∧ Rel F ι' (hh.push (.row i.size fz (old ++ new))) w' ∧ Step ι hh w ι' (hh.push (.row i.size fz (old ++ new))) w' := by
    intro hh rr hnx base len cap old oa fz b1 b2 b3 b4 b5 b6 b7
    have hroom : ¬ (281474976710656 < Builtin.nextslicecap (len + n) cap * i.bytes) := by
      have := nextcap_le (len + n) cap (by omega)
      have h2 : Builtin.nextslicecap (len + n) cap * i.bytes ≤ 2 * (len + n) * i.bytes := Nat.mul_le_mul_right _ this
      have h3 : 2 * (len + n) * i.bytes = 2 * ((len + n) * i.bytes) := Nat.mul_assoc _ _ _
      omega
    obtain ⟨nc, c1, c2⟩ := append_new (w := w) (ty := ty) h0 hu hi hn hlen b5 hsz2 hroom a1 b4 z1
    have hoa : oa.size = old.length := by have := b1.length; simp at this; omega
    have hzs : (Builtin.zeroCells z.cells (nc - (len + n))).size = (nc - (len + n)) * i.size := by simp [Builtin.zeroCells, hzl]
    have hcs : (oa ++ arr ++ Builtin.zeroCells z.cells (nc - (len + n))).size = nc * i.size := by
      rw [Array.size_append, Array.size_append, hoa, hnl, hzs, b3, hnewlen, ← Nat.add_mul, ← Nat.add_mul]; congr 1; omega
    obtain ⟨ι', d1, d2, d3⟩ := push_row (cs := old ++ new) (c := oa ++ arr ++ Builtin.zeroCells z.cells (nc - (len + n))) (T := e) (f := (0, 0)) (esz := i.size) (fz := fz) rr (by rw [hnx]; exact b7) (w.drawn + 1)
      (by rw [List.length_append, Array.size_append, Array.size_append]; omega) (fun _ => rfl) (.inl rfl) (by
        intro v hv
        rw [Array.toList_append, Array.toList_append, List.mem_append, List.mem_append] at hv
        rcases hv with (hv | hv) | hv
        · exact b2 v hv
        · exact a3 v hv
        · exact zeroCells_ok' z3 _ v hv) (fun j a hj => by
        have hrel := b1.append a2
        obtain ⟨v, v1, v2⟩ := hrel.get hj
        have hlt := (List.getElem?_eq_some_iff.1 v1).1
        refine ⟨v, ?_, v2⟩
        rw [← Array.toList_append, Array.getElem?_toList] at v1
        rw [Array.getElem?_append, if_pos (by simpa using hlt)]
        exact v1)
    rw [hnx] at d1
    refine ⟨_, _, ι', c2, ⟨_, 0, nc, d1, rfl, ?_, c1, .inl rfl⟩, d2, d3⟩
    simp only [hcs, Nat.add_zero]
  have hle_of : ∀ {a b : Nat}, a * i.size ≤ b * i.size → a ≤ b := fun hh => Nat.le_of_mul_le_mul_right hh (Nat.pos_of_ne_zero hsz1)
  split at hq6
  · -- nil
    simp only [VRel] at hs; subst hs
    split at hq6
    · rename_i hn0
      cases hq6
      subst hn0
      exact ⟨_, w, ι, append_in_nil (ty := ty) h0 hu hi hn hlen a1w, rfl, r, Step.refl _ _ _⟩
    · rename_i hn0
      split at hq6
      · cases hq6
      · rename_i hby
        cases hq6
        have := hnewrow h r rfl none 0 0 [] #[] false rfl (by simp) (by simp) (fun d => rfl) (by omega) (by rw [Nat.zero_add]; omega) fr
        simpa using this
  · -- a slice up to its row's end
    rename_i o off len
    split at hq6
    rotate_left; · cases hq6
    rename_i ez fz vs ho
    split at hq6
    rotate_left; · cases hq6
    rename_i hez
    subst hez
    obtain ⟨en, xo, cap, hen, rfl, hcap, hlc, hxo⟩ := hs
    obtain ⟨en', g1, gN, g⟩ := r.obj o _ ho
    rw [hen] at g1; cases g1
    have hgesz : en.esz = i.size := by obtain ⟨_, _, _, _, g2, _⟩ := g; exact g2
    have hgK : vs.length ≤ en.K := by obtain ⟨_, _, _, _, _, _, g4, _⟩ := g; exact g4
    rw [hgesz] at hcap
    split at hq6
    · rename_i hfit
      obtain ⟨vs', hov, hq7⟩ := Res.bind_ok hq6
      cases hq7
      have hle : len + n ≤ cap := hle_of (by rw [Nat.add_mul] at *; omega)
      rcases hxo with hxo | hxo
      · subst hxo
        obtain ⟨row, s1, s2⟩ := g.over (P := F.c.P) hov a2 a3
        have hst : (storeCells ((⟨en.blk, en.base + off, none⟩ : Addr).add (len * i.size)) arr.toList).run F.c.P w = .ok () (w.setRow en.blk row) := by
          rw [add_none, Nat.add_assoc]; exact s1
        obtain ⟨t1, t2⟩ := r.set (.row i.size fz vs') ho hen (Keep.setRow w en.blk row) s2
        exact ⟨_, _, ι, append_in (ty := ty) h0 hu hi hn hlen hle a1w hst, ⟨en, _, cap, hen, rfl, by rw [hgesz]; exact hcap, hle, .inl rfl⟩, t1, t2⟩
      · have hn0 : n = 0 := by omega
        have hl0 : len = 0 := by omega
        subst hn0; subst hl0; subst hxo
        have harr : arr = #[] := by
          have : arr.size = 0 := by rw [hnl, hnewlen]; simp
          exact Array.eq_empty_of_size_eq_zero this
        have hnew0 : new = [] := List.eq_nil_of_length_eq_zero (by rw [hnewlen]; simp)
        subst harr; subst hnew0
        have hvs : vs' = vs := by
          have := (overR_ok hov).2
          simpa using this
        subst hvs
        obtain ⟨t1, t2⟩ := r.set (.row i.size fz vs') ho hen (Keep.refl _ w) g
        exact ⟨_, w, ι, append_in (ty := ty) h0 hu hi hn hlen hle a1w rfl, ⟨en, xo, 0, hen, rfl, by rw [hgesz]; exact hcap, by omega, .inr rfl⟩, t1, t2⟩
    · rename_i hfit
      split at hq6
      · cases hq6
      rename_i hby
      obtain ⟨old, hold, hq7⟩ := Res.bind_ok hq6
      cases hq7
      obtain ⟨q1, q2⟩ := takeR_ok hold
      have hoff : off ≤ en.K := by omega
      have hcells : CellsAt ι F.ρ w en.blk en.base vs := by
        obtain ⟨e'', x1, x2, _⟩ := r.cells ho
        rw [hen] at x1; cases x1; exact x2
      obtain ⟨oa, oa1, oa2, oa3⟩ := firstCells_at (P := F.c.P) (xo := xo) (len := len) (cap := cap) hcells hold (hxo.elim .inl fun h0 => .inr (by omega))
      have holdlen : old.length = len * i.size := by rw [q2]; simp; omega
      have hdel : Step ι h w ι (h.del o) w := ⟨Sub.refl _, fun _ => .inr (.inl rfl), Nat.le_refl _, Keep.refl _ _, fun b hb => .inl hb.del⟩
      by_cases hle : len + n ≤ cap
      · -- there was room
        by_cases hn0 : n = 0
        · exfalso; subst hn0; apply hfit; rw [Nat.add_zero]; omega
        have hxo : xo = en.base + off := hxo.elim id fun h0 => by omega
        subst hxo
        have hfill := g.fill
        have hfl : (vs ++ List.replicate (en.K - vs.length) AVal.dead).length = en.K := by simp; omega
        have hmul : (len + n) * i.size ≤ cap * i.size := Nat.mul_le_mul_right _ hle
        rw [Nat.add_mul] at hmul
        have hov : overR (vs ++ List.replicate (en.K - vs.length) AVal.dead) (off + len * i.size) new =
            .ok ((vs ++ List.replicate (en.K - vs.length) AVal.dead).take (off + len * i.size) ++ new ++ (vs ++ List.replicate (en.K - vs.length) AVal.dead).drop (off + len * i.size + new.length)) := by
          unfold overR; rw [if_pos (by rw [hfl, hnewlen]; omega)]
        obtain ⟨row, s1, s2⟩ := hfill.over (P := F.c.P) hov a2 a3
        have hst : (storeCells ((⟨en.blk, en.base + off, none⟩ : Addr).add (len * i.size)) arr.toList).run F.c.P w = .ok () (w.setRow en.blk row) := by
          rw [add_none, Nat.add_assoc]; exact s1
        have hsub := s2.part off ((len + n) * i.size) hoff
        have hlist : ((((vs ++ List.replicate (en.K - vs.length) AVal.dead).take (off + len * i.size) ++ new ++ (vs ++ List.replicate (en.K - vs.length) AVal.dead).drop (off + len * i.size + new.length)).drop off).take ((len + n) * i.size)) = old ++ new := by
          rw [q2]
          have e1 : (vs ++ List.replicate (en.K - vs.length) AVal.dead).take (off + len * i.size) = vs.take (off + len * i.size) := List.take_append_of_le_length q1
          rw [e1, List.append_assoc, List.drop_append_of_le_length (by simp; omega), List.drop_take, ← List.append_assoc]
          rw [List.take_append_of_le_length (by simp [hnewlen, Nat.add_mul]; omega)]
          rw [show off + len * i.size - off = len * i.size by omega]
          rw [List.take_of_length_le (by simp [hnewlen, Nat.add_mul]; omega)]
        rw [hlist] at hsub
        obtain ⟨ι', m1, m2, m3⟩ := r.move fr ho hen (Keep.setRow w en.blk row) hsub
        refine ⟨_, _, ι', append_in (ty := ty) h0 hu hi hn hlen hle a1w hst, ⟨_, _, cap, m1, rfl, ?_, hle, .inl rfl⟩, m2, m3⟩
        simp only [hgesz]; omega
      · -- there was none
        obtain ⟨u, w', ι', u1, u2, u3, u4⟩ := hnewrow (h.del o) (r.del o) rfl (some ⟨en.blk, xo, none⟩) len cap old oa true oa2 oa3 holdlen oa1 hle (by omega) fr
        exact ⟨u, w', ι', u1, u2, u3, hdel.trans u4⟩
  · -- a slice whose capacity is known
    rename_i o off len cap
    split at hq6
    rotate_left; · cases hq6
    rename_i ez fz vs ho
    obtain ⟨en, xo, hen, rfl, hlc, hxo⟩ := hs
    obtain ⟨en', g1, gN, g⟩ := r.obj o _ ho
    rw [hen] at g1; cases g1
    split at hq6
    · rename_i hle
      obtain ⟨vs', hov, hq7⟩ := Res.bind_ok hq6
      cases hq7
      rcases hxo with hxo | hxo
      · subst hxo
        obtain ⟨row, s1, s2⟩ := g.over (P := F.c.P) hov a2 a3
        have hst : (storeCells ((⟨en.blk, en.base + off, none⟩ : Addr).add (len * i.size)) arr.toList).run F.c.P w = .ok () (w.setRow en.blk row) := by
          rw [add_none, Nat.add_assoc]; exact s1
        obtain ⟨t1, t2⟩ := r.set (.row ez fz vs') ho hen (Keep.setRow w en.blk row) s2
        exact ⟨_, _, ι, append_in (ty := ty) h0 hu hi hn hlen hle a1w hst, ⟨en, _, hen, rfl, hle, .inl rfl⟩, t1, t2⟩
      · have hn0 : n = 0 := by omega
        have hl0 : len = 0 := by omega
        subst hn0; subst hl0; subst hxo
        have harr : arr = #[] := by
          have : arr.size = 0 := by rw [hnl, hnewlen]; simp
          exact Array.eq_empty_of_size_eq_zero this
        have hnew0 : new = [] := List.eq_nil_of_length_eq_zero (by rw [hnewlen]; simp)
        subst harr; subst hnew0
        have hvs : vs' = vs := by
          have := (overR_ok hov).2
          simpa using this
        subst hvs
        obtain ⟨t1, t2⟩ := r.set (.row ez fz vs') ho hen (Keep.refl _ w) g
        exact ⟨_, w, ι, append_in (ty := ty) h0 hu hi hn hlen hle a1w rfl, ⟨en, xo, hen, rfl, by omega, .inr rfl⟩, t1, t2⟩
    · rename_i hle
      split at hq6
      · cases hq6
      rename_i hby
      obtain ⟨old, hold, hq7⟩ := Res.bind_ok hq6
      cases hq7
      obtain ⟨q1, q2⟩ := takeR_ok hold
      have hcells : CellsAt ι F.ρ w en.blk en.base vs := by
        obtain ⟨e'', x1, x2, _⟩ := r.cells ho
        rw [hen] at x1; cases x1; exact x2
      obtain ⟨oa, oa1, oa2, oa3⟩ := firstCells_at (P := F.c.P) (xo := xo) (len := len) (cap := cap) hcells hold (hxo.elim .inl fun h0 => .inr (by omega))
      have holdlen : old.length = len * i.size := by rw [q2]; simp; omega
      exact hnewrow h r rfl (some ⟨en.blk, xo, none⟩) len cap old oa false oa2 oa3 holdlen oa1 hle (by omega) fr
  · -- read-only, and nothing to put
    rename_i ro off len
    split at hq6
    rotate_left; · cases hq6
    rename_i hn0
    cases hq6
    subst hn0
    obtain ⟨e', xo, cap, he', rfl, hlc, hxo⟩ := hs
    have harr : arr = #[] := by
      have : arr.size = 0 := by rw [hnl, hnewlen]; simp
      exact Array.eq_empty_of_size_eq_zero this
    subst harr
    exact ⟨_, w, ι, append_in (ty := ty) h0 hu hi hn hlen hlc a1w rfl, ⟨e', xo, cap, he', rfl, hlc, hxo⟩, r, Step.refl _ _ _⟩
  · cases hq6

end
end Go.Proofs.YtofnbldbggddmaaGreatDoor
namespace Go.Proofs.YtofnbldbggddmaaGreatDoor
open Go Go.RowKit

section
variable {F : Fix} {ι : Inj} {h : AHeap} {w : World}

theorem elemSl_ok {P : Program} {t e : Nat} (hq : elemSl P t = .ok e) : P.underlying t = some (.slice e) := by
  unfold elemSl at hq
  obtain ⟨d, hd, hq⟩ := Res.bind_ok hq
  split at hq
  · cases hq; exact undR_ok hd
  · cases hq

/-- cells written to a row, from a slice's beginning on -/
theorem write_ok (r : Rel F ι h w) {o off : Nat} {ez : Nat} {fz : Bool} {vs vs' cs : List AVal} {e : Ent} {us : List Value} {xo : Nat} (ho : h.get o = some (.row ez fz vs)) (he : ι o = some e)
    (hxo : xo = e.base + off ∨ cs = []) (hov : overR vs off cs = .ok vs') (hu : VRels ι F.ρ cs us) (h1 : ∀ v ∈ us, oneC v = true) :
    ∃ w', (storeCells ⟨e.blk, xo, none⟩ us).run F.c.P w = .ok () w' ∧ Rel F ι (h.set o (.row ez fz vs')) w' ∧ Step ι h w ι (h.set o (.row ez fz vs')) w' := by
  obtain ⟨e', g1, _, g⟩ := r.obj o _ ho
  rw [he] at g1; cases g1
  by_cases hc : cs = []
  · subst hc
    have : us = [] := by simpa [VRels] using hu
    subst this
    have hvs : vs' = vs := by simpa using (overR_ok hov).2
    subst hvs
    obtain ⟨t1, t2⟩ := r.set (.row ez fz vs') ho he (Keep.refl _ w) g
    exact ⟨w, rfl, t1, t2⟩
  · obtain rfl := hxo.resolve_right hc
    obtain ⟨row, s1, s2⟩ := g.over (P := F.c.P) hov hu h1
    obtain ⟨t1, t2⟩ := r.set (.row ez fz vs') ho he (Keep.setRow w e.blk row) s2
    exact ⟨_, s1, t1, t2⟩

theorem readSl_len {c : Cfg} {size n : Nat} {x : AVal} {new : List AVal} (hnew : readSl c h size n x = .ok new) : new.length = n * size := by
  unfold readSl at hnew
  split at hnew
  · split at hnew <;> cases hnew; rename_i hn0; simp [hn0]
  · split at hnew
    · rename_i hn0; cases hnew; simp [hn0]
    split at hnew
    · obtain ⟨t1, rfl⟩ := takeR_ok hnew; simp; omega
    · cases hnew
  · split at hnew
    · rename_i hn0; cases hnew; simp [hn0]
    split at hnew
    · obtain ⟨t1, rfl⟩ := takeR_ok hnew; simp; omega
    · cases hnew
  · split at hnew
    · rename_i hn0; cases hnew; simp [hn0]
    split at hnew
    · obtain ⟨t1, rfl⟩ := takeR_ok hnew; simp; omega
    · cases hnew
  · split at hnew
    · rename_i hs1; cases hnew; simp [hs1.1]; omega
    · cases hnew
  · cases hnew

theorem copy_ok (ok : F.Ok) (r : Rel F ι h w) {dt : Nat} {d s v : AVal} {h' : AHeap} {dv sv : Value} {ts : Array TypeId} {ty : TypeId} (h0 : ts[0]? = some dt) (hq : copyR F.c h dt d s = .ok (v, h'))
    (hd : VRel ι F.ρ d dv) (hs : VRel ι F.ρ s sv) :
    ∃ u w', (Builtin.copy_ ts ty #[dv, sv]).run F.c.P w = .ok u w' ∧ VRel ι F.ρ v u ∧ Rel F ι h' w' ∧ Step ι h w ι h' w' := by
  unfold copyR at hq
  obtain ⟨e, he, hq1⟩ := Res.bind_ok hq; clear hq
  obtain ⟨size, hsz, hq2⟩ := Res.bind_ok hq1; clear hq1
  obtain ⟨dn, hdn, hq3⟩ := Res.bind_ok hq2; clear hq2
  obtain ⟨sn, hsn, hq4⟩ := Res.bind_ok hq3; clear hq3
  obtain ⟨cs, hcs, hq5⟩ := Res.bind_ok hq4; clear hq4
  have hu := elemSl_ok he
  obtain ⟨arr, a1, a2, a3⟩ := readSl_ok ok r hcs hs hsn (Nat.min_le_left _ _)
  have a1w := a1 w.drawn
  have hslen := lenA_ok (w := w) hsn hs
  have hcl := readSl_len hcs
  have hmin : Nat.min sn dn = min sn dn := rfl
  split at hq5
  · cases hq5
    simp only [VRel] at hd; subst hd
    cases hdn
    refine ⟨.int .i64 ((min sn 0 : Nat) : Int), w, ?_, rfl, r, Step.refl _ _ _⟩
    have : (Builtin.firstCells size 0 sv).run F.c.P w = .ok arr w := by simpa using a1w
    simp [Builtin.copy_, h0, run_und hu, hslen, run_size hsz, goInt, this]
  · rename_i o off len
    cases hdn
    split at hq5
    rotate_left; · cases hq5
    rename_i ez fz vs ho
    obtain ⟨vs', hov, hq6⟩ := Res.bind_ok hq5
    cases hq6
    obtain ⟨en, xo, cap, hen, rfl, hcap, hlc, hxo⟩ := hd
    obtain ⟨w', s1, s2, s3⟩ := write_ok r ho hen (hxo.elim .inl fun h0 => .inr (by
      have : dn = 0 := by omega
      subst this
      exact List.eq_nil_of_length_eq_zero (by simpa using hcl))) hov a2 a3
    refine ⟨.int .i64 ((min sn dn : Nat) : Int), w', ?_, rfl, s2, s3⟩
    simp [Builtin.copy_, h0, run_und hu, hslen, run_size hsz, hmin, goInt, a1w, s1]
  · rename_i o off len cap
    cases hdn
    split at hq5
    rotate_left; · cases hq5
    rename_i ez fz vs ho
    obtain ⟨vs', hov, hq6⟩ := Res.bind_ok hq5
    cases hq6
    obtain ⟨en, xo, hen, rfl, hlc, hxo⟩ := hd
    obtain ⟨w', s1, s2, s3⟩ := write_ok r ho hen (hxo.elim .inl fun h0 => .inr (by
      have : dn = 0 := by omega
      subst this
      exact List.eq_nil_of_length_eq_zero (by simpa using hcl))) hov a2 a3
    refine ⟨.int .i64 ((min sn dn : Nat) : Int), w', ?_, rfl, s2, s3⟩
    simp [Builtin.copy_, h0, run_und hu, hslen, run_size hsz, hmin, goInt, a1w, s1]
  · cases hq5

theorem reps_length (n : Nat) (l : List AVal) : (reps n l).length = n * l.length := by
  simp [reps]
theorem reps_get (n : Nat) (l : List AVal) (j : Nat) (hj : j < n * l.length) : (reps n l)[j]? = l[j % l.length]? := by
  induction n generalizing j with
  | zero => simp at hj
  | succ n ih =>
    have hpos : 0 < l.length := by
      by_cases h0 : l.length = 0
      · simp [h0] at hj
      · omega
    simp only [reps, List.replicate_succ, List.flatten_cons]
    rw [List.getElem?_append]
    split
    · rename_i hlt; rw [Nat.mod_eq_of_lt hlt]
    · rename_i hlt
      have := ih (j - l.length) (by rw [Nat.succ_mul] at hj; omega)
      simp only [reps] at this
      rw [this]
      congr 1
      have e : j = j - l.length + l.length := by omega
      conv => rhs; rw [e, Nat.add_mod_right]

/-- a row of zeros -/
theorem zeros_rel {ρ : RoMap} {z : Value} {zs : List AVal} {size n : Nat} (hz : VRels ι ρ zs z.cells.toList) (ho : ∀ x ∈ z.cells.toList, oneC x = true) (hl : zs.length = size) (hpos : size ≠ 0) :
    VRels ι ρ (reps n zs) ((Array.range (n * size)).map (z.cells[· % z.cells.size]!)).toList ∧ ∀ v ∈ ((Array.range (n * size)).map (z.cells[· % z.cells.size]!)).toList, oneC v = true := by
  have hzs : z.cells.size = size := by have := hz.length; simp at this; omega
  constructor
  · refine VRels.of_get (by simp [reps_length, hl]) fun j a hj => ?_
    have hlt : j < n * size := by have := (List.getElem?_eq_some_iff.1 hj).1; rw [reps_length, hl] at this; exact this
    rw [reps_get n zs j (by rw [hl]; exact hlt)] at hj
    obtain ⟨v, v1, v2⟩ := hz.get hj
    refine ⟨v, ?_, v2⟩
    have hm : j % size < z.cells.size := by rw [hzs]; exact Nat.mod_lt _ (by omega)
    rw [hl] at v1
    simp [hlt, hzs]
    have v1' : z.cells[j % size]? = some v := by simpa using v1
    have := Array.getElem?_eq_getElem hm
    rw [this] at v1'
    rw [getElem!_pos z.cells _ hm]
    simpa using v1'
  · intro v hv
    simp at hv
    obtain ⟨j, hj, rfl⟩ := hv
    have hm : j % z.cells.size < z.cells.size := Nat.mod_lt _ (by omega)
    apply ho
    simp [hm]

theorem clear_ok (r : Rel F ι h w) {t : Nat} {x v : AVal} {h' : AHeap} {xv : Value} {ts : Array TypeId} {ty : TypeId} (h0 : ts[0]? = some t) (hq : clearR F.c h t x = .ok (v, h')) (hx : VRel ι F.ρ x xv) :
    ∃ w', (Builtin.clear_ ts ty #[xv]).run F.c.P w = .ok (.tuple #[]) w' ∧ v = .tuple [] ∧ Rel F ι h' w' ∧ Step ι h w ι h' w' := by
  unfold clearR at hq
  obtain ⟨d, hd, hq1⟩ := Res.bind_ok hq; clear hq
  have hu := undR_ok hd
  split at hq1
  rotate_left; · cases hq1
  rename_i e
  have hwrite : ∀ (o off n : Nat) (en : Ent) (xo cap : Nat), ι o = some en → (xo = en.base + off ∨ n = 0) → n ≠ 0 → (match h.get o with
      | some (.row esz fz vs) => (zeroCellsR F.c.P e).bind fun z => (sizeR F.c.P e).bind fun size => if z.length = size then
          (overR vs off (reps n z)).bind fun vs' => .ok (.tuple [], h.set o (.row esz fz vs')) else .err 142
      | _ => .err 143) = Res.ok (v, h') → ∃ w', (Builtin.clear_ ts ty #[.slice (some ⟨en.blk, xo, none⟩) n cap]).run F.c.P w = .ok (.tuple #[]) w' ∧ v = .tuple [] ∧ Rel F ι h' w' ∧ Step ι h w ι h' w' := by
    intro o off n en xo cap hen hxo hn hq
    split at hq
    rotate_left; · cases hq
    rename_i ez fz vs ho
    obtain ⟨z, hz, hq2⟩ := Res.bind_ok hq
    obtain ⟨size, hs, hq3⟩ := Res.bind_ok hq2
    split at hq3
    rotate_left; · cases hq3
    rename_i hzl
    obtain ⟨vs', hov, hq4⟩ := Res.bind_ok hq3
    cases hq4
    obtain ⟨zv, z1, z2, z3⟩ := zeroCells_ok (ι := ι) (ρ := F.ρ) hz
    have hzs : zv.cells.size = size := by have := z2.length; simp at this; omega
    have hrel : VRels ι F.ρ (reps n z) (Builtin.zeroCells zv.cells n).toList ∧ ∀ v ∈ (Builtin.zeroCells zv.cells n).toList, oneC v = true := by
      unfold Builtin.zeroCells
      by_cases h0 : size = 0
      · have e1 : z = [] := List.eq_nil_of_length_eq_zero (by omega)
        have e2 : zv.cells = #[] := Array.eq_empty_of_size_eq_zero (by omega)
        subst e1; rw [e2]
        simp [reps, VRels]
      · rw [hzs]
        have := zeros_rel (n := n) z2 z3 hzl h0
        rw [hzs] at this
        exact this
    obtain ⟨w', s1, s2, s3⟩ := write_ok r ho hen (hxo.elim .inl fun h0 => absurd h0 hn) hov hrel.1 hrel.2
    refine ⟨w', ?_, rfl, s2, s3⟩
    have : n = (n - 1) + 1 := by omega
    rw [this]
    rw [this] at s1
    simp [Builtin.clear_, h0, run_und hu, z1, s1]
  split at hq1
  · cases hq1
    simp only [VRel] at hx; subst hx
    exact ⟨w, by simp [Builtin.clear_, h0, run_und hu], rfl, r, Step.refl _ _ _⟩
  · rename_i o off n
    obtain ⟨en, xo, cap, hen, rfl, hcap, hlc, hxo⟩ := hx
    split at hq1
    · rename_i hn0; cases hq1; subst hn0
      exact ⟨w, by simp [Builtin.clear_, h0, run_und hu], rfl, r, Step.refl _ _ _⟩
    · rename_i hn0
      exact hwrite o off n en xo cap hen (hxo.elim .inl fun h0 => .inr (by omega)) hn0 hq1
  · rename_i o off n cap
    obtain ⟨en, xo, hen, rfl, hlc, hxo⟩ := hx
    split at hq1
    · rename_i hn0; cases hq1; subst hn0
      exact ⟨w, by simp [Builtin.clear_, h0, run_und hu], rfl, r, Step.refl _ _ _⟩
    · rename_i hn0
      exact hwrite o off n en xo cap hen (hxo.elim .inl fun h0 => .inr (by omega)) hn0 hq1
  · cases hq1

/-! ### what is made -/
theorem box_ok (r : Rel F ι h w) {t : Nat} {a v : AVal} {h' : AHeap} {av : Value} (hq : boxR h a = .ok (v, h')) (ha : VRel ι F.ρ a av) (fr : Fresh ι h.next h'.next) :
    ∃ u w' ι', (Instr.box t av).run F.c.P w = .ok u w' ∧ VRel ι' F.ρ v u ∧ Rel F ι' h' w' ∧ Step ι h w ι' h' w' := by
  unfold boxR at hq
  obtain ⟨cs, hcs, hq1⟩ := Res.bind_ok hq
  cases hq1
  obtain ⟨c1, c2⟩ := ha.cells hcs
  have hl := c1.length
  obtain ⟨ι', d1, d2, d3⟩ := push_row (cs := cs) (c := av.cells) (T := t) (f := (0, 0)) (esz := 0) (fz := false) r fr w.drawn (by simp at hl; omega) (fun _ => rfl) (.inl rfl) c2 (fun j a hj => by
    obtain ⟨v, v1, v2⟩ := c1.get hj; exact ⟨v, by simpa using v1, v2⟩)
  exact ⟨.pointer (some ⟨w.heap.size, 0, none⟩), _, ι', by simp [Instr.box, newVar, Go.newRow], ⟨_, d1, rfl⟩, d2, d3⟩

theorem alloc_ok (r : Rel F ι h w) {t : Nat} {z v : AVal} {h' : AHeap} (hz : zeroV F.c.P t = .ok z) (hq : boxR h z = .ok (v, h')) (fr : Fresh ι h.next h'.next) :
    ∃ u w' ι', (Instr.alloc t true (.tuple #[])).run F.c.P w = .ok u w' ∧ VRel ι' F.ρ v u ∧ Rel F ι' h' w' ∧ Step ι h w ι' h' w' := by
  obtain ⟨zv, z1, z2⟩ := zeroV_ok (ι := ι) (ρ := F.ρ) hz
  obtain ⟨u, w', ι', b1, b2⟩ := box_ok (t := t) r hq z2 fr
  refine ⟨u, w', ι', ?_, b2⟩
  rw [← b1]
  simp [Instr.alloc, Instr.box, z1]

theorem bldAlloc_ok (r : Rel F ι h w) {t : Nat} {z v : AVal} {h' : AHeap} (hz : zeroV F.c.P t = .ok z) (hq : bldR h t z = .ok (v, h')) (fr : Fresh ι h.next h'.next) :
    ∃ u w' ι', (Instr.alloc t true (.tuple #[])).run F.c.P w = .ok u w' ∧ VRel ι' F.ρ v u ∧ Rel F ι' h' w' ∧ Step ι h w ι' h' w' := by
  obtain ⟨zv, z1, z2⟩ := zeroV_ok (ι := ι) (ρ := F.ρ) hz
  unfold bldR at hq
  split at hq
  rotate_left; · cases hq
  cases hq
  obtain ⟨a, rfl, a1, a2⟩ := z2
  have hb : a = #[.pointer none, .slice none 0 0] := by
    obtain ⟨x, l, e1, e2, y, l', rfl, e3, e4⟩ := a1
    simp only [VRel] at e2 e3
    subst e2; subst e3; subst e4
    apply Array.toList_inj.1; rw [e1]
  subst hb
  obtain ⟨d1, d2⟩ := r.push fr (.cells #[.pointer none, .slice none 0 0] t (0, 0)) (.bld t none) ⟨w.heap.size, 0, 2, 0⟩ rfl
    ⟨.pointer none, .slice none 0 0, by simp, rfl, .inl rfl, .inl ⟨rfl, rfl⟩⟩
  refine ⟨.pointer (some ⟨w.heap.size, 0, none⟩), _, _, ?_, ⟨⟨w.heap.size, 0, 2, 0⟩, upd_self _ _ _, rfl⟩, d1, d2⟩
  simp [Instr.alloc, newVar, Go.newRow, z1, Value.cells]

theorem buildSlice_ok (r : Rel F ι h w) {t n : Nat} {parts : List (Nat × AVal)} {pv : Array (Nat × Value)} {v : AVal} {h' : AHeap} (hq : buildSliceR F.c.P h t n parts = .ok (v, h')) (hp : PartsRel ι F.ρ parts pv.toList) (fr : Fresh ι h.next h'.next) :
    ∃ u w' ι', (Instr.buildSlice t n pv).run F.c.P w = .ok u w' ∧ VRel ι' F.ρ v u ∧ Rel F ι' h' w' ∧ Step ι h w ι' h' w' := by
  unfold buildSliceR at hq
  obtain ⟨e, he, hq1⟩ := Res.bind_ok hq; clear hq
  obtain ⟨size, hs, hq2⟩ := Res.bind_ok hq1; clear hq1
  have hu := elemSl_ok he
  split at hq2
  · cases hq2
  rename_i hbig
  split at hq2
  · cases hq2
  rename_i hsz
  obtain ⟨z, hz, hq3⟩ := Res.bind_ok hq2; clear hq2
  split at hq3
  rotate_left; · cases hq3
  rename_i hzl
  obtain ⟨cs, hcs, hq4⟩ := Res.bind_ok hq3; clear hq3
  cases hq4
  obtain ⟨zv, z1, z2, z3⟩ := zeroCells_ok (ι := ι) (ρ := F.ρ) hz
  have hzs : zv.cells.size = size := by have := z2.length; simp at this; omega
  obtain ⟨y1, y2⟩ := zeros_rel (n := n) z2 z3 hzl hsz
  obtain ⟨rv, f1, f2, f3⟩ := fill_ok parts pv.toList (reps n z) cs _ hcs hp y1 y2
  have hlen : cs.length = n * size := by
    have : ∀ (place : Nat → Option (Nat × Nat)) (parts : List (Nat × AVal)) (cells res : List AVal), fillR place cells parts = .ok res → res.length = cells.length := by
      intro place parts
      induction parts with
      | nil => intro cells res hq; simp [fillR] at hq; rw [hq]
      | cons p parts ih =>
        intro cells res hq
        unfold fillR at hq
        obtain ⟨_, _, hq1⟩ := Res.bind_ok hq
        obtain ⟨_, _, hq2⟩ := Res.bind_ok hq1
        split at hq2
        · obtain ⟨_, ho, hq3⟩ := Res.bind_ok hq2
          rw [ih _ _ hq3]
          obtain ⟨o1, rfl⟩ := overR_ok ho
          simp; omega
        · cases hq2
    rw [this _ _ _ _ hcs, reps_length, hzl]
  have hrs : rv.size = n * size := by have := f2.length; simp at this; omega
  obtain ⟨ι', d1, d2, d3⟩ := push_row (cs := cs) (c := rv) (T := e) (f := (0, 0)) (esz := size) (fz := false) r fr w.drawn (by omega) (fun _ => rfl) (.inl rfl) f3 (fun j a hj => by
    obtain ⟨v, v1, v2⟩ := f2.get hj; exact ⟨v, by simpa using v1, v2⟩)
  refine ⟨.slice (some ⟨w.heap.size, 0, none⟩) n n, _, ι', ?_, ⟨_, 0, n, d1, rfl, by simp [hrs], Nat.le_refl _, .inl rfl⟩, d2, d3⟩
  have hbig' : ¬ 16777216 < n * size := hbig
  by_cases hn : n * size = 0
  · have hn0 : n = 0 := (Nat.mul_eq_zero.1 hn).resolve_right hsz
    subst hn0
    have hr : Array.range 0 = (#[] : Array Nat) := rfl
    have f1' : Instr.fill (fun i => some (i * size, size)) #[] pv.toList = some rv := by
      rw [Nat.zero_mul, hr] at f1
      simpa using f1
    simp [Instr.buildSlice, run_und hu, run_size hs, hr, f1', Go.newRow]
  · simp [Instr.buildSlice, run_und hu, run_size hs, hbig', hn, z1]
    rw [f1]
    simp [Go.newRow]


set_option maxHeartbeats 1000000 in
theorem makeSlice_ok (r : Rel F ι h w) {t : Nat} {l m v : AVal} {h' : AHeap} {lv mv : Value} (hq : makeSliceR F.c.P h t l m = .ok (v, h')) (hl : VRel ι F.ρ l lv) (hm : VRel ι F.ρ m mv) (fr : Fresh ι h.next h'.next) :
    ∃ u w' ι', (Instr.makeSlice t lv mv).run F.c.P w = .ok u w' ∧ VRel ι' F.ρ v u ∧ Rel F ι' h' w' ∧ Step ι h w ι' h' w' := by
  unfold makeSliceR at hq
  split at hq
  rotate_left; · cases hq
  rename_i kl n km k
  simp only [VRel] at hl hm; subst hl; subst hm
  obtain ⟨e, he, hq1⟩ := Res.bind_ok hq; clear hq
  obtain ⟨i, hi, hq2⟩ := Res.bind_ok hq1; clear hq1
  have hu := elemSl_ok he
  have hi := infoR_ok hi
  split at hq2
  rotate_left; · cases hq2
  rename_i hc
  obtain ⟨c1, c2, c3, c4, c5, c6⟩ := hc
  obtain ⟨z, hz, hq3⟩ := Res.bind_ok hq2; clear hq2
  split at hq3
  rotate_left; · cases hq3
  rename_i hzl
  cases hq3
  obtain ⟨zv, z1, z2, z3⟩ := zeroCells_ok (ι := ι) (ρ := F.ρ) hz
  have hzs : zv.cells.size = i.size := by have := z2.length; simp at this; omega
  obtain ⟨y1, y2⟩ := zeros_rel (n := k.toNat) z2 z3 hzl c6
  have hrs : ((Array.range (k.toNat * i.size)).map (zv.cells[· % zv.cells.size]!)).size = k.toNat * i.size := by simp
  obtain ⟨ι', d1, d2, d3⟩ := push_row (cs := reps k.toNat z) (c := (Array.range (k.toNat * i.size)).map (zv.cells[· % zv.cells.size]!)) (T := e) (f := (0, 0)) (esz := i.size) (fz := false) r fr w.drawn
    (by rw [hrs, reps_length, hzl]; exact Nat.le_refl _) (fun _ => rfl) (.inl rfl) y2 (fun j a hj => by
    obtain ⟨v, v1, v2⟩ := y1.get hj; exact ⟨v, by rw [← Array.getElem?_toList]; exact v1, v2⟩)
  refine ⟨.slice (some ⟨w.heap.size, 0, none⟩) n.toNat k.toNat, _, ι', ?_, ⟨_, 0, k.toNat, d1, rfl, by simp, by omega, .inl rfl⟩, d2, d3⟩
  have g1 : ¬ (IntKind.i64.wrap k < 0) := by rw [c2]; omega
  have g2 : ¬ (281474976710656 < (i.bytes : Int) * IntKind.i64.wrap k) := by rw [c2]; omega
  have g3 : ¬ (IntKind.i64.wrap n < 0) := by rw [c1]; omega
  have g4 : ¬ (IntKind.i64.wrap k < IntKind.i64.wrap n) := by rw [c1, c2]; omega
  by_cases hn : k.toNat * i.size = 0
  · have hk0 : k.toNat = 0 := (Nat.mul_eq_zero.1 hn).resolve_right c6
    have hr : Array.range 0 = (#[] : Array Nat) := rfl
    simp [Instr.makeSlice, run_und hu, run_sizeOf' hi, asInt, asIntOf, run_typeInfo' hi, g1, g2, g3, g4, c1, c2, hk0, hr, Go.newRow]
    rw [c2] at g1 g2 g4
    rw [c1] at g3 g4
    simp [g1, g2, g3, g4]
  · simp [Instr.makeSlice, run_und hu, run_sizeOf' hi, asInt, asIntOf, run_typeInfo' hi, g1, g2, g3, g4, c1, c2, hn, z1, Go.newRow]
    rw [c2] at g1 g2 g4
    rw [c1] at g3 g4
    simp [g1, g2, g3, g4, hn, z1]

/-! ### conversions -/
theorem strBytes_ok (r : Rel F ι h w) {e : Nat} {b : List UInt8} (fr : Fresh ι h.next (h.next + 1)) :
    ∃ u w' ι', (Conv.stringToBytes e ⟨b.toArray⟩).run F.c.P w = .ok u w' ∧ VRel ι' F.ρ (.sl h.next 0 b.length) u ∧
      Rel F ι' (h.push (.row 1 true (b.map fun x => .int .u8 x.toNat))) w' ∧ Step ι h w ι' (h.push (.row 1 true (b.map fun x => .int .u8 x.toNat))) w' := by
  obtain ⟨nc, hnc, hch⟩ : ∃ nc, b.length ≤ nc ∧ (choose (.appendCap b.length 0 e)).run F.c.P w = .ok nc w.drew := by
    refine ⟨b.length + w.tape w.drawn (.appendCap b.length 0 e) % (2 ^ 63 - b.length), Nat.le_add_right _ _, ?_⟩
    rw [run_choose, if_neg (by simp [Question.forced])]
    simp only [Question.cut]
    rfl
  let c : Array Value := (b.toArray.map fun x => Value.int .u8 x.toNat) ++ Array.replicate (nc - b.length) (Value.int .u8 0)
  have hcs : c.size = nc := by simp [c]; omega
  obtain ⟨ι', d1, d2, d3⟩ := push_row (cs := b.map fun x => AVal.int .u8 x.toNat) (c := c) (T := e) (f := (nc, nc + 1)) (esz := 1) (fz := true) r fr (w.drawn + 1) (by simp [hcs]; omega) (by simp) (.inr (by omega)) (by
      intro v hv
      simp [c] at hv
      rcases hv with ⟨x, _, rfl⟩ | ⟨_, rfl⟩ <;> rfl) (fun j a hj => by
      simp only [List.getElem?_map] at hj
      cases hb : b[j]? with
      | none => simp [hb] at hj
      | some x =>
        simp [hb] at hj; subst hj
        have hlt := (List.getElem?_eq_some_iff.1 hb).1
        refine ⟨.int .u8 x.toNat, ?_, rfl⟩
        have hbx : b[j] = x := (List.getElem?_eq_some_iff.1 hb).2
        simp [c, Array.getElem?_append, hlt, hbx])
  refine ⟨.slice (some ⟨w.heap.size, 0, none⟩) b.length nc, _, ι', ?_, ⟨_, 0, nc, d1, rfl, by simp [hcs], hnc, .inl rfl⟩, d2, d3⟩
  have hsh : ({ w.drew with heap := w.heap.push (.cells c e) } : World).shape? w.heap.size = some (e, nc) := by simp [World.shape?, hcs]
  have hfz : ({ w.drew with heap := w.heap.push (.cells c e) } : World).freeze { block := w.heap.size, off := nc } 1 = { w with drawn := w.drawn + 1, heap := w.heap.push (.cells c e (nc, nc + 1)) } := by
    simp only [World.freeze]
    rw [if_neg (by simp)]
    simp only [World.mk.injEq, and_true, true_and]
    refine ⟨?_, rfl, rfl, rfl, rfl⟩
    apply Array.ext_getElem?
    intro k
    rw [Array.getElem?_modify]
    by_cases hk : w.heap.size = k
    · subst hk; simp
    · simp only [hk, if_false, Array.getElem?_push]
      split <;> simp_all
  have hnr : (Go.newRow e c).run F.c.P w.drew = .ok ⟨w.heap.size, 0, none⟩ { w.drew with heap := w.heap.push (.cells c e) } := rfl
  have hcc : (Array.map (fun x => Value.int IntKind.u8 ↑x.toNat) b.toArray) ++ Array.replicate (nc - b.length) (Value.int .u8 0) = c := rfl
  simp only [Conv.stringToBytes, ba_size, Sem.run_bind, hch, Result.andThen_ok, hcc, hnr, markStringish, run_shape, hsh, run_freeze, hfz, Sem.run_pure]


theorem appMake_ok (r : Rel F ι h w) {st : Nat} {xt : Option Nat} {s x v : AVal} {h' : AHeap} {sv xv : Value} {ts : Array TypeId} {ty : TypeId} (h0 : ts[0]? = some st) (h1 : ts[1]? = xt)
    (hq : appMakeR F.c h st xt s x = .ok (v, h')) (hs : VRel ι F.ρ s sv) (hx : VRel ι F.ρ x xv) (fr : Fresh ι h.next h'.next) :
    ∃ u w' ι', (Builtin.append_ ts ty #[sv, xv]).run F.c.P w = .ok u w' ∧ VRel ι' F.ρ v u ∧ Rel F ι' h' w' ∧ Step ι h w ι' h' w' := by
  unfold appMakeR at hq
  split at hq
  rotate_left; · cases hq
  rename_i ut
  obtain ⟨d, hd, hq1⟩ := Res.bind_ok hq; clear hq
  split at hq1
  rotate_left; · cases hq1
  rename_i k'
  split at hq1
  rotate_left; · cases hq1
  rename_i o off len cap k l
  obtain ⟨e, he, hq2⟩ := Res.bind_ok hq1; clear hq1
  obtain ⟨i, hi, hq3⟩ := Res.bind_ok hq2; clear hq2
  obtain ⟨zc, hzc, hq4⟩ := Res.bind_ok hq3; clear hq3
  split at hq4
  · cases hq4
  rename_i hsz
  have hu := elemSl_ok he
  have hi := infoR_ok hi
  have hu2 := undR_ok hd
  obtain ⟨c1, c2, c3, c4, c5, c6, c7⟩ : i.size ≠ 0 ∧ i.bytes ≠ 0 ∧ zc.length = i.size ∧ ¬ l < 0 ∧ IntKind.i64.wrap l = l ∧ ¬ len + l.toNat ≤ cap ∧ (len + l.toNat) * i.bytes ≤ 2 ^ 47 := by
    refine ⟨fun hh => hsz (.inl hh), fun hh => hsz (.inr (.inl hh)), Decidable.byContradiction fun hh => hsz (.inr (.inr (.inl hh))), fun hh => hsz (.inr (.inr (.inr (.inl hh)))), Decidable.byContradiction fun hh => hsz (.inr (.inr (.inr (.inr (.inl hh))))), fun hh => hsz (.inr (.inr (.inr (.inr (.inr (.inl hh)))))), Nat.le_of_not_lt fun hh => hsz (.inr (.inr (.inr (.inr (.inr (.inr hh))))))⟩
  split at hq4
  rotate_left; · cases hq4
  rename_i ez fz vs ho
  obtain ⟨old, hold, hq5⟩ := Res.bind_ok hq4
  cases hq5
  simp only [VRel] at hx; subst hx
  obtain ⟨en, xo, hen, rfl, hlc, hxo⟩ := hs
  obtain ⟨z, z1, z2, z3⟩ := zeroCells_ok (ι := ι) (ρ := F.ρ) hzc
  have hzl : z.cells.size = i.size := by have := z2.length; simp at this; omega
  obtain ⟨q1, q2⟩ := takeR_ok hold
  have hcells : CellsAt ι F.ρ w en.blk en.base vs := by
    obtain ⟨e'', x1, x2, _⟩ := r.cells ho
    rw [hen] at x1; cases x1; exact x2
  obtain ⟨oa, oa1, oa2, oa3⟩ := firstCells_at (P := F.c.P) (xo := xo) (len := len) (cap := cap) hcells hold (hxo.elim .inl fun h0 => .inr (by omega))
  have holdlen : old.length = len * i.size := by rw [q2]; simp; omega
  obtain ⟨n, hn⟩ : ∃ n, n = l.toNat := ⟨_, rfl⟩
  have hroom : ¬ (281474976710656 < Builtin.nextslicecap (len + l.toNat) cap * i.bytes) := by
    have := nextcap_le (len + l.toNat) cap (by omega)
    have h2 : Builtin.nextslicecap (len + l.toNat) cap * i.bytes ≤ 2 * (len + l.toNat) * i.bytes := Nat.mul_le_mul_right _ this
    have h3 : 2 * (len + l.toNat) * i.bytes = 2 * ((len + l.toNat) * i.bytes) := Nat.mul_assoc _ _ _
    omega
  obtain ⟨nc, n1, n2⟩ := append_new0 (w := w) (ty := ty) (k := k) h0 hu hi h1 hu2 c4 c5 c6 c2 c7 hzl hroom oa1 z1
  rw [← hn] at *
  have hoa : oa.size = old.length := by have := oa2.length; simp at this; omega
  have hzr := zeros_rel (n := n) z2 z3 c3 c1
  rw [← hzl] at hzr
  obtain ⟨a2, a3⟩ : VRels ι F.ρ (reps n zc) (Builtin.zeroCells z.cells n).toList ∧ ∀ v ∈ (Builtin.zeroCells z.cells n).toList, oneC v = true := hzr
  have hzn : (Builtin.zeroCells z.cells n).size = n * i.size := by simp [Builtin.zeroCells, hzl]
  have hzs : (Builtin.zeroCells z.cells (nc - (len + n))).size = (nc - (len + n)) * i.size := by simp [Builtin.zeroCells, hzl]
  have hrl : (reps n zc).length = n * i.size := by rw [reps_length, c3]
  have hcs : (oa ++ Builtin.zeroCells z.cells n ++ Builtin.zeroCells z.cells (nc - (len + n))).size = nc * i.size := by
    rw [Array.size_append, Array.size_append, hoa, hzn, hzs, holdlen, ← Nat.add_mul, ← Nat.add_mul]; congr 1; omega
  obtain ⟨ι', d1, d2, d3⟩ := push_row (cs := old ++ reps n zc) (c := oa ++ Builtin.zeroCells z.cells n ++ Builtin.zeroCells z.cells (nc - (len + n))) (T := e) (f := (0, 0)) (esz := i.size) (fz := false) r fr (w.drawn + 1)
    (by rw [List.length_append, Array.size_append, Array.size_append]; omega) (fun _ => rfl) (.inl rfl) (by
      intro v hv
      rw [Array.toList_append, Array.toList_append, List.mem_append, List.mem_append] at hv
      rcases hv with (hv | hv) | hv
      · exact oa3 v hv
      · exact a3 v hv
      · exact zeroCells_ok' z3 _ v hv) (fun j a hj => by
      have hrel := oa2.append a2
      obtain ⟨v, v1, v2⟩ := hrel.get hj
      have hlt := (List.getElem?_eq_some_iff.1 v1).1
      refine ⟨v, ?_, v2⟩
      rw [← Array.toList_append, Array.getElem?_toList] at v1
      rw [Array.getElem?_append, if_pos (by simpa using hlt)]
      exact v1)
  refine ⟨_, _, ι', n2, ⟨_, 0, nc, d1, rfl, ?_, n1, .inl rfl⟩, d2, d3⟩
  simp only [hcs, Nat.add_zero]

theorem append_ok (ok : F.Ok) (r : Rel F ι h w) {st : Nat} {xt : Option Nat} {s x v : AVal} {h' : AHeap} {sv xv : Value} {ts : Array TypeId} {ty : TypeId} (h0 : ts[0]? = some st) (h1 : ts[1]? = xt)
    (hq : appendR F.c h st xt s x = .ok (v, h')) (hs : VRel ι F.ρ s sv) (hx : VRel ι F.ρ x xv) (fr : Fresh ι h.next h'.next) :
    ∃ u w' ι', (Builtin.append_ ts ty #[sv, xv]).run F.c.P w = .ok u w' ∧ VRel ι' F.ρ v u ∧ Rel F ι' h' w' ∧ Step ι h w ι' h' w' := by
  unfold appendR at hq
  cases hn : notMake F.c.P xt with
  | ok u => rw [hn] at hq; exact appendG_ok ok r h0 h1 hn hq hs hx fr
  | err n => rw [hn] at hq; exact appMake_ok r h0 h1 hq hs hx fr
end
end Go.Proofs.YtofnbldbggddmaaGreatDoor
namespace Go.Proofs.YtofnbldbggddmaaGreatDoor
open Go Go.RowKit

section
variable {F : Fix} {ι : Inj} {h : AHeap} {w : World}

theorem bytesOfA_ok {ρ : RoMap} {P : Program} {f : Value → ByteArray → Sem (ForInStep ByteArray)} (hf : ∀ n s, f (.int .u8 n) s = pure (ForInStep.yield (s.push (UInt8.ofNat n.toNat)))) :
    ∀ {cs : List AVal} {l : List UInt8} {vs : List Value} {acc : ByteArray}, bytesOfA cs = .ok l → VRels ι ρ cs vs → (forIn vs acc f).run P w = .ok ⟨acc.data ++ l.toArray⟩ w
  | [], l, vs, acc, hq, hv => by
    simp [bytesOfA] at hq; subst hq
    simp [VRels] at hv; subst hv
    rw [run_forIn_nil]; simp
  | a :: cs, l, _, acc, hq, hv => by
    obtain ⟨v, vs, rfl, v1, v2⟩ := hv
    unfold bytesOfA at hq
    obtain ⟨b, hb, hq1⟩ := Res.bind_ok hq
    obtain ⟨l', hl, hq2⟩ := Res.bind_ok hq1
    cases hq2
    unfold byteOfA at hb
    split at hb
    · cases hb
      simp only [VRel] at v1; subst v1
      rw [run_forIn_cons, hf]
      simp only [Sem.run_pure, Result.andThen_ok]
      rw [bytesOfA_ok hf hl v2]
      congr 2
      simp [ByteArray.push]
    · cases hb

theorem conv_ok (ok : F.Ok) (r : Rel F ι h w) {s d : Nat} {x res : AVal} {xv : Value} (hq : convR F.c h s d x = .ok res) (hx : VRel ι F.ρ x xv) : ∃ v, (convert s d xv).run F.c.P w = .ok v w ∧ VRel ι F.ρ res v := by
  unfold convR at hq
  obtain ⟨sd, hs, hq1⟩ := Res.bind_ok hq; clear hq
  obtain ⟨dd, hd, hq2⟩ := Res.bind_ok hq1; clear hq1
  have hus := undR_ok hs
  have hud := undR_ok hd
  split at hq2
  · cases hq2; simp only [VRel] at hx; subst hx
    exact ⟨_, by simp [convert, run_und hus, run_und hud, Conv.intToInt], rfl⟩
  · cases hq2; simp only [VRel] at hx; subst hx
    exact ⟨_, by simp [convert, run_und hus, run_und hud, Conv.intToFloat], rfl⟩
  · split at hq2
    · rename_i hn
      split at hq2
      · rename_i hr
        cases hq2; simp only [VRel] at hx; subst hx
        exact ⟨_, by simp [convert, run_und hus, run_und hud, Conv.floatToInt, hn, hr], rfl⟩
      · cases hq2
    · cases hq2
  · cases hq2; simp only [VRel] at hx; subst hx
    exact ⟨_, by simp [convert, run_und hus, run_und hud], rfl⟩
  · obtain ⟨ed, he, hq3⟩ := Res.bind_ok hq2
    have hue := undR_ok he
    split at hq3
    · cases hq3; simp only [VRel] at hx; subst hx
      exact ⟨_, by simp [convert, run_und hus, run_und hud, run_und hue, Conv.bytesToString, ByteArray.empty, ByteArray.emptyWithCapacity]; rfl, rfl⟩
    · cases hq3
  · obtain ⟨ed, he, hq3⟩ := Res.bind_ok hq2
    have hue := undR_ok he
    split at hq3
    · obtain ⟨n, hn, hq4⟩ := Res.bind_ok hq3
      obtain ⟨cs, hcs, hq5⟩ := Res.bind_ok hq4
      obtain ⟨l, hl, hq6⟩ := Res.bind_ok hq5
      cases hq6
      have hslice : ∃ a c, xv = .slice (some a) n c ∧ lenA x = .ok n := by
        unfold lenSl at hn
        split at hn
        · cases hn; obtain ⟨_, _, _, _, rfl, _⟩ := hx; exact ⟨_, _, rfl, rfl⟩
        · cases hn; obtain ⟨_, _, _, rfl, _⟩ := hx; exact ⟨_, _, rfl, rfl⟩
        · cases hn; obtain ⟨_, _, _, _, rfl, _⟩ := hx; exact ⟨_, _, rfl, rfl⟩
        · cases hn
      obtain ⟨a, c, rfl, hlen⟩ := hslice
      obtain ⟨arr, a1, a2, a3⟩ := readSl_ok ok r hcs hx hlen (Nat.le_refl _)
      have a1w : (loadCells a n).run F.c.P w = .ok arr w := by
        have := a1 w.drawn
        simp only [Builtin.firstCells, Nat.mul_one] at this
        exact this
      refine ⟨.string ⟨l.toArray⟩, ?_, rfl⟩
      simp [convert, run_und hus, run_und hud, run_und hue, Conv.bytesToString, a1w]
      rw [← Array.forIn_toList, bytesOfA_ok (fun n s => rfl) hl a2]
      simp [ByteArray.empty, ByteArray.emptyWithCapacity]
      try rfl
    · cases hq3
  · cases hq2

theorem len_ok (r : Rel F ι h w) {t : Nat} {x v : AVal} {xv : Value} {ts : Array TypeId} {ty : TypeId} (h0 : ts[0]? = some t) (hq : lenR F.c h t x = .ok v) (hx : VRel ι F.ρ x xv) :
    ∃ u, (Builtin.len_ ts ty #[xv]).run F.c.P w = .ok u w ∧ VRel ι F.ρ v u := by
  unfold lenR at hq
  obtain ⟨d, hd, hq1⟩ := Res.bind_ok hq; clear hq
  have hu := undR_ok hd
  split at hq1
  · split at hq1
    · cases hq1; simp only [VRel] at hx; subst hx
      exact ⟨_, by simp [Builtin.len_, h0, run_und hu, goInt, ba_size], rfl⟩
    · cases hq1
  · split at hq1
    · cases hq1
    · rename_i hne
      obtain ⟨n, hn, hq2⟩ := Res.bind_ok hq1
      cases hq2
      unfold lenA at hn
      split at hn
      · cases hn; simp only [VRel] at hx; subst hx; exact ⟨_, by simp [Builtin.len_, h0, run_und hu, goInt], rfl⟩
      · cases hn; obtain ⟨_, _, _, _, rfl, _⟩ := hx; exact ⟨_, by simp [Builtin.len_, h0, run_und hu, goInt], rfl⟩
      · cases hn; obtain ⟨_, _, _, rfl, _⟩ := hx; exact ⟨_, by simp [Builtin.len_, h0, run_und hu, goInt], rfl⟩
      · cases hn; obtain ⟨_, _, _, _, rfl, _⟩ := hx; exact ⟨_, by simp [Builtin.len_, h0, run_und hu, goInt], rfl⟩
      · exact absurd rfl (hne _)
      · cases hn
  · obtain ⟨es, hes, hq2⟩ := Res.bind_ok hq1
    cases hq2
    rcases entriesR_ok hes with ⟨rfl, rfl⟩ | ⟨o, rfl, ho⟩
    · simp only [VRel] at hx; subst hx
      exact ⟨_, by simp [Builtin.len_, h0, run_und hu, goInt], rfl⟩
    · obtain ⟨e, he, rfl⟩ := hx
      obtain ⟨e', g1, _, g⟩ := r.obj o _ ho
      rw [he] at g1; cases g1
      obtain ⟨ents, clock, g3, g4, _, g5⟩ := g
      have hg : (getObj e.blk).run F.c.P w = .ok (.map ents clock) w := by simp [getObj, Sem.run, g3]
      exact ⟨_, by simp [Builtin.len_, h0, run_und hu, goInt, hg, g4], rfl⟩
  · cases hq1; exact ⟨_, by simp [Builtin.len_, h0, run_und hu, goInt], rfl⟩
  · obtain ⟨ad, had, hq2⟩ := Res.bind_ok hq1
    split at hq2
    · cases hq2; exact ⟨_, by simp [Builtin.len_, h0, run_und hu, run_und (undR_ok had), goInt], rfl⟩
    · cases hq2
  · cases hq1

theorem fold_ok {ρ : RoMap} {P : Program} {f : AVal → AVal → Res AVal} {g : Value → Value → Sem Value} (hfg : ∀ {a b r : AVal} {x y : Value}, f a b = .ok r → VRel ι ρ a x → VRel ι ρ b y → ∃ v, (g x y).run P w = .ok v w ∧ VRel ι ρ r v) :
    ∀ (l : List AVal) (a r : AVal) (x : Value) (vs : List Value), foldR f a l = .ok r → VRel ι ρ a x → VRels ι ρ l vs → ∃ v, (vs.foldlM g x).run P w = .ok v w ∧ VRel ι ρ r v
  | [], a, r, x, vs, hq, hx, hv => by
    simp [foldR] at hq; subst hq
    simp [VRels] at hv; subst hv
    exact ⟨x, by simp, hx⟩
  | b :: l, a, r, x, _, hq, hx, hv => by
    obtain ⟨y, ys, rfl, v1, v2⟩ := hv
    unfold foldR at hq
    obtain ⟨z, hz, hq1⟩ := Res.bind_ok hq
    obtain ⟨u, u1, u2⟩ := hfg hz hx v1
    obtain ⟨v, v1', v2'⟩ := fold_ok hfg l z r u ys hq1 u2 v2
    exact ⟨v, by simp [List.foldlM_cons, u1, v1'], v2'⟩

theorem max2_ok {ρ : RoMap} {P : Program} {a b r : AVal} {x y : Value} (hq : max2R a b = .ok r) (hx : VRel ι ρ a x) (hy : VRel ι ρ b y) : ∃ v, (Builtin.max2 x y).run P w = .ok v w ∧ VRel ι ρ r v := by
  unfold max2R at hq
  split at hq
  · cases hq; simp only [VRel] at hx hy; subst hx; subst hy; exact ⟨_, by simp [Builtin.max2], rfl⟩
  · cases hq
theorem min2_ok {ρ : RoMap} {P : Program} {a b r : AVal} {x y : Value} (hq : min2R a b = .ok r) (hx : VRel ι ρ a x) (hy : VRel ι ρ b y) : ∃ v, (Builtin.min2 x y).run P w = .ok v w ∧ VRel ι ρ r v := by
  unfold min2R at hq
  split at hq
  · cases hq; simp only [VRel] at hx hy; subst hx; subst hy; exact ⟨_, by simp [Builtin.min2], rfl⟩
  · cases hq

/-- an operation's outcome -/
def OpTo (P : Program) (s : Sem Next) (w : World) (R : Value → World → Prop) : Prop :=
  ∃ v w', (s.run P w = .ok (.value v) w' ∨ (s.run P w = .ok .skip w' ∧ v = undef)) ∧ R v w'

/-- what an operation leads to -/
def Out (F : Fix) (ι : Inj) (h : AHeap) (w : World) (v : AVal) (h' : AHeap) (u : Value) (w' : World) : Prop :=
  ∃ ι', VRel ι' F.ρ v u ∧ Rel F ι' h' w' ∧ Step ι h w ι' h' w'

set_option maxHeartbeats 1000000 in
theorem builtin_ok (ok : F.Ok) (r : Rel F ι h w) {b : Builtin} {ts : Array TypeId} {ty : TypeId} {cs : Array Bool} {args : List AVal} {v : AVal} {h' : AHeap} {av : Array Value} (hq : builtinR F.c h b ts args = .ok (v, h')) (ha : VRels ι F.ρ args av.toList) (fr : Fresh ι h.next h'.next) :
    OpTo F.c.P (builtin b ts ty cs av) w (Out F ι h w v h') := by
  unfold builtinR at hq
  split at hq
  · rename_i t x h0
    obtain ⟨_, hq1, hq2⟩ := Res.bind_ok hq
    cases hq2
    obtain ⟨xv, _, hav, a1, a2⟩ := ha
    have : av = #[xv] := by apply Array.toList_inj.1; rw [hav]; simp [VRels] at a2; simp [a2]
    subst this
    obtain ⟨u, u1, u2⟩ := len_ok (ty := ty) r h0 hq1 a1
    exact ⟨u, w, .inl (by simp [builtin, u1]), ι, u2, r, Step.refl _ _ _⟩
  · rename_i t s x h0
    obtain ⟨sv, _, hav, a1, xv, _, rfl, a2, a3⟩ := ha
    have : av = #[sv, xv] := by apply Array.toList_inj.1; rw [hav]; simp [VRels] at a3; simp [a3]
    subst this
    obtain ⟨u, w', ι', u1, u2, u3, u4⟩ := append_ok (ty := ty) ok r h0 rfl hq a1 a2 fr
    exact ⟨u, w', .inl (by simp [builtin, u1]), ι', u2, u3, u4⟩
  · rename_i t d s h0
    obtain ⟨dv, _, hav, a1, sv, _, rfl, a2, a3⟩ := ha
    have : av = #[dv, sv] := by apply Array.toList_inj.1; rw [hav]; simp [VRels] at a3; simp [a3]
    subst this
    obtain ⟨u, w', u1, u2, u3, u4⟩ := copy_ok (ty := ty) ok r h0 hq a1 a2
    exact ⟨u, w', .inl (by simp [builtin, u1]), ι, u2, u3, u4⟩
  · rename_i t x h0
    obtain ⟨xv, _, hav, a1, a2⟩ := ha
    have : av = #[xv] := by apply Array.toList_inj.1; rw [hav]; simp [VRels] at a2; simp [a2]
    subst this
    obtain ⟨w', u1, rfl, u3, u4⟩ := clear_ok (ty := ty) r h0 hq a1
    exact ⟨_, w', .inl (by simp [builtin, u1]), ι, ⟨_, rfl, rfl⟩, u3, u4⟩
  · rename_i t m k h0
    obtain ⟨mv, _, hav, a1, kv, _, rfl, a2, a3⟩ := ha
    have : av = #[mv, kv] := by apply Array.toList_inj.1; rw [hav]; simp [VRels] at a3; simp [a3]
    subst this
    obtain ⟨w', u1, rfl, u3, u4⟩ := delete_ok (ty := ty) ok r h0 hq a1 a2
    exact ⟨_, w', .inl (by simp [builtin, u1]), ι, ⟨_, rfl, rfl⟩, u3, u4⟩
  · obtain ⟨_, hq1, hq2⟩ := Res.bind_ok hq
    cases hq2
    obtain ⟨xv, vs, hav, a1, a2⟩ := ha
    obtain ⟨u, u1, u2⟩ := fold_ok (P := F.c.P) (w := w) (fun h1 h2 h3 => max2_ok h1 h2 h3) _ _ _ _ _ hq1 a1 a2
    exact ⟨u, w, .inl (by simp [builtin, Builtin.max_, hav, u1]), ι, u2, r, Step.refl _ _ _⟩
  · obtain ⟨_, hq1, hq2⟩ := Res.bind_ok hq
    cases hq2
    obtain ⟨xv, vs, hav, a1, a2⟩ := ha
    obtain ⟨u, u1, u2⟩ := fold_ok (P := F.c.P) (w := w) (fun h1 h2 h3 => min2_ok h1 h2 h3) _ _ _ _ _ hq1 a1 a2
    exact ⟨u, w, .inl (by simp [builtin, Builtin.min_, hav, u1]), ι, u2, r, Step.refl _ _ _⟩
  · rename_i t x h0
    obtain ⟨e, he, hq1⟩ := Res.bind_ok hq
    have hu := elemSl_ok he
    obtain ⟨xv, _, hav, a1, a2⟩ := ha
    have : av = #[xv] := by apply Array.toList_inj.1; rw [hav]; simp [VRels] at a2; simp [a2]
    subst this
    split at hq1
    · cases hq1
      obtain ⟨_, _, _, rfl, _⟩ := a1
      exact ⟨_, w, .inl (by simp [builtin, Builtin.cap_, h0, run_und hu, goInt]), ι, rfl, r, Step.refl _ _ _⟩
    · cases hq1
      simp only [VRel] at a1; subst a1
      exact ⟨_, w, .inl (by simp [builtin, Builtin.cap_, h0, run_und hu, goInt]), ι, rfl, r, Step.refl _ _ _⟩
    · cases hq1
  · rename_i k a k' b'
    split at hq
    · rename_i hk; subst hk
      cases hq
      obtain ⟨xv, _, hav, a1, yv, _, rfl, a2, a3⟩ := ha
      have : av = #[xv, yv] := by apply Array.toList_inj.1; rw [hav]; simp [VRels] at a3; simp [a3]
      subst this
      simp only [VRel] at a1 a2; subst a1; subst a2
      have hc : Builtin.complex_ ts ty #[.float k a, .float k b'] = (if k = k then pure (.complex k a b') else stuck "complex: parts of different kinds") := rfl
      exact ⟨_, w, .inl (by simp only [builtin, hc, if_true, Sem.run_bind, Sem.run_pure, Result.andThen_ok]), ι, rfl, r, Step.refl _ _ _⟩
    · cases hq
  · rename_i k a b'
    cases hq
    obtain ⟨xv, _, hav, a1, a2⟩ := ha
    have : av = #[xv] := by apply Array.toList_inj.1; rw [hav]; simp [VRels] at a2; simp [a2]
    subst this
    simp only [VRel] at a1; subst a1
    have hc : Builtin.real_ ts ty #[.complex k a b'] = pure (.float k a) := rfl
    exact ⟨_, w, .inl (by simp only [builtin, hc, Sem.run_bind, Sem.run_pure, Result.andThen_ok]), ι, rfl, r, Step.refl _ _ _⟩
  · rename_i k a b'
    cases hq
    obtain ⟨xv, _, hav, a1, a2⟩ := ha
    have : av = #[xv] := by apply Array.toList_inj.1; rw [hav]; simp [VRels] at a2; simp [a2]
    subst this
    simp only [VRel] at a1; subst a1
    have hc : Builtin.imag_ ts ty #[.complex k a b'] = pure (.float k b') := rfl
    exact ⟨_, w, .inl (by simp only [builtin, hc, Sem.run_bind, Sem.run_pure, Result.andThen_ok]), ι, rfl, r, Step.refl _ _ _⟩
  · cases hq
end
end Go.Proofs.YtofnbldbggddmaaGreatDoor
namespace Go.Proofs.YtofnbldbggddmaaGreatDoor
open Go Go.RowKit

section
variable {F : Fix} {ι : Inj} {h : AHeap} {w : World} {bad : List Nat} {env : List AVal} {ev : Operand → Value}

theorem opnds_ok {ρ : RoMap} (hev : ∀ x a, opnd bad env x = .ok a → VRel ι ρ a (ev x)) : ∀ (l : List Operand) (as : List AVal), opnds bad env l = .ok as → VRels ι ρ as (l.map ev)
  | [], as, hq => by simp [opnds] at hq; subst hq; rfl
  | x :: l, as, hq => by
    unfold opnds at hq
    obtain ⟨a, ha, hq1⟩ := Res.bind_ok hq
    obtain ⟨r, hr, hq2⟩ := Res.bind_ok hq1
    cases hq2
    exact ⟨ev x, l.map ev, rfl, hev x a ha, opnds_ok hev l r hr⟩

theorem opndParts_ok {ρ : RoMap} (hev : ∀ x a, opnd bad env x = .ok a → VRel ι ρ a (ev x)) : ∀ (l : List (Nat × Operand)) (as : List (Nat × AVal)), opndParts bad env l = .ok as → PartsRel ι ρ as (l.map fun p => (p.1, ev p.2))
  | [], as, hq => by simp [opndParts] at hq; subst hq; exact .nil
  | x :: l, as, hq => by
    unfold opndParts at hq
    obtain ⟨a, ha, hq1⟩ := Res.bind_ok hq
    obtain ⟨r, hr, hq2⟩ := Res.bind_ok hq1
    cases hq2
    exact .cons (hev _ _ ha) (opndParts_ok hev l r hr)

theorem optR_ok {ρ : RoMap} (hev : ∀ x a, opnd bad env x = .ok a → VRel ι ρ a (ev x)) {x : Option Operand} {a : Option AVal} (hq : optR (opnd bad env) x = .ok a) : OptV ι ρ a (x.map ev) := by
  unfold optR at hq
  split at hq
  · cases hq; trivial
  · obtain ⟨v, hv, hq1⟩ := Res.bind_ok hq
    cases hq1
    exact hev _ _ hv

theorem pureV_ok {v : AVal} {h' : AHeap} {x : Res AVal} (hq : pureV h x = .ok (v, h')) : x = .ok v ∧ h' = h := by
  unfold pureV at hq
  obtain ⟨a, ha, hq1⟩ := Res.bind_ok hq
  cases hq1; exact ⟨ha, rfl⟩

theorem OpTo.value {P : Program} {s : Sem Value} {v : AVal} {u : Value} (r : Rel F ι h w) (hs : s.run P w = .ok u w) (hv : VRel ι F.ρ v u) : OpTo P (do pure (.value (← s))) w (Out F ι h w v h) :=
  ⟨u, w, .inl (by simp [hs]), ι, hv, r, Step.refl _ _ _⟩

theorem OpTo.made {P : Program} {s : Sem Value} {v : AVal} {h' : AHeap} (hs : ∃ u w' ι', s.run P w = .ok u w' ∧ VRel ι' F.ρ v u ∧ Rel F ι' h' w' ∧ Step ι h w ι' h' w') : OpTo P (do pure (.value (← s))) w (Out F ι h w v h') := by
  obtain ⟨u, w', ι', h1, h2, h3, h4⟩ := hs
  exact ⟨u, w', .inl (by simp [h1]), ι', h2, h3, h4⟩

theorem store_ok (r : Rel F ι h w) {t : Nat} {x v : AVal} {h' : AHeap} {xv vv : Value} (hq : storeR F.c h t x v = .ok h') (hx : VRel ι F.ρ x xv) (hv : VRel ι F.ρ v vv) :
    ∃ w', (Instr.storeAt t xv vv).run F.c.P w = .ok () w' ∧ Rel F ι h' w' ∧ Step ι h w ι h' w' := by
  unfold storeR at hq
  split at hq
  rotate_left; · cases hq
  rename_i o off
  split at hq
  rotate_left; · cases hq
  rename_i ez fz vs ho
  obtain ⟨n, hn, hq1⟩ := Res.bind_ok hq
  obtain ⟨cs, hcs, hq2⟩ := Res.bind_ok hq1
  split at hq2
  rotate_left; · cases hq2
  rename_i hl
  obtain ⟨vs', hov, hq3⟩ := Res.bind_ok hq2
  cases hq3
  obtain ⟨e, he, rfl⟩ := hx
  obtain ⟨c1, c2⟩ := hv.cells hcs
  have hlen := c1.length
  obtain ⟨w', s1, s2, s3⟩ := write_ok (xo := e.base + off) r ho he (.inl rfl) hov c1 c2
  refine ⟨w', ?_, s2, s3⟩
  have hsz : vv.cells.size = n := by simp at hlen; omega
  simp [Instr.storeAt, Instr.sureAddr, storeVar, run_size hn, hsz, s1]

theorem load_ok (ok : F.Ok) (r : Rel F ι h w) {t : Nat} {x v : AVal} {xv : Value} (hq : loadR F.c h t x = .ok v) (hx : VRel ι F.ρ x xv) : ∃ u, (Instr.loadAt t xv).run F.c.P w = .ok u w ∧ VRel ι F.ρ v u := by
  unfold loadR at hq
  obtain ⟨rw', hr, hq1⟩ := Res.bind_ok hq
  unfold rowR at hr
  split at hr
  · rename_i o off
    split at hr
    · rename_i ez fz vs ho
      cases hr
      obtain ⟨e, he, rfl⟩ := hx
      obtain ⟨e', g1, g2, _⟩ := r.cells ho
      rw [he] at g1; cases g1
      obtain ⟨u, u1, u2⟩ := g2.loadVar (P := F.c.P) hq1
      exact ⟨u, by simp [Instr.loadAt, Instr.sureAddr, u1], u2⟩
    · cases hr
  · rename_i ro off
    split at hr
    · rename_i vs ho
      cases hr
      obtain ⟨e, he, rfl⟩ := hx
      obtain ⟨e', g1, g2⟩ := r.roCells ok ho
      rw [he] at g1; cases g1
      obtain ⟨u, u1, u2⟩ := g2.loadVar (P := F.c.P) hq1
      exact ⟨u, by simp [Instr.loadAt, Instr.sureAddr, u1], u2⟩
    · cases hr
  · cases hr

set_option maxHeartbeats 2000000 in
theorem opR_ok (ok : F.Ok) (r : Rel F ι h w) (hev : ∀ x a, opnd bad env x = .ok a → VRel ι F.ρ a (ev x)) {o : Oper} {v : AVal} {h' : AHeap} (hq : opR F.c bad env h o = .ok (v, h')) (fr : Fresh ι h.next h'.next) :
    OpTo F.c.P (execOp ev o) w (Out F ι h w v h') := by
  unfold opR at hq
  split at hq
  case h_1 x ho =>
    obtain ⟨h1, rfl⟩ := pureV_ok hq
    simp only [execOp, ho]
    exact ⟨_, w, .inl rfl, ι, hev _ _ h1, r, Step.refl _ _ _⟩
  case h_2 x ho =>
    obtain ⟨h1, rfl⟩ := pureV_ok hq
    simp only [execOp, ho]
    exact ⟨_, w, .inl rfl, ι, hev _ _ h1, r, Step.refl _ _ _⟩
  case h_3 x a b ho =>
    obtain ⟨c, hc, hq1⟩ := Res.bind_ok hq
    have hcv := hev _ _ hc
    split at hq1
    · obtain ⟨h1, rfl⟩ := pureV_ok hq1
      simp only [VRel] at hcv
      exact ⟨ev a, w, .inl (by simp [execOp, ho, hcv, asBool]), ι, hev _ _ h1, r, Step.refl _ _ _⟩
    · obtain ⟨h1, rfl⟩ := pureV_ok hq1
      simp only [VRel] at hcv
      exact ⟨ev b, w, .inl (by simp [execOp, ho, hcv, asBool]), ι, hev _ _ h1, r, Step.refl _ _ _⟩
    · cases hq1
  case h_4 t ho =>
    obtain ⟨z, hz, hq1⟩ := Res.bind_ok hq
    simp only [execOp, ho]
    split at hq1
    · exact OpTo.made (bldAlloc_ok r hz hq1 fr)
    · exact OpTo.made (alloc_ok r hz hq1 fr)
  case h_5 t x ho =>
    obtain ⟨a, ha, hq1⟩ := Res.bind_ok hq
    simp only [execOp, ho]
    exact OpTo.made (box_ok r hq1 (hev _ _ ha) fr)
  case h_6 t ps ho =>
    obtain ⟨l, hl, hq1⟩ := Res.bind_ok hq
    obtain ⟨h1, rfl⟩ := pureV_ok hq1
    simp only [execOp, ho]
    obtain ⟨u, u1, u2⟩ := build_ok (w := w) (pv := ps.map fun (i, x) => (i, ev x)) h1 (by simpa using opndParts_ok hev _ _ hl)
    exact OpTo.value r u1 u2
  case h_7 t n ps ho =>
    obtain ⟨l, hl, hq1⟩ := Res.bind_ok hq
    simp only [execOp, ho]
    exact OpTo.made (buildSlice_ok (pv := ps.map fun (i, x) => (i, ev x)) r hq1 (by simpa using opndParts_ok hev _ _ hl) fr)
  case h_8 t a ho =>
    obtain ⟨p, hp, hq1⟩ := Res.bind_ok hq
    obtain ⟨h1, rfl⟩ := pureV_ok hq1
    simp only [execOp, ho]
    obtain ⟨u, u1, u2⟩ := load_ok ok r h1 (hev _ _ hp)
    exact OpTo.value r u1 u2
  case h_9 t a x ho =>
    obtain ⟨p, hp, hq1⟩ := Res.bind_ok hq
    obtain ⟨y, hy, hq2⟩ := Res.bind_ok hq1
    obtain ⟨hh, hst, hq3⟩ := Res.bind_ok hq2
    cases hq3
    obtain ⟨w', s1, s2, s3⟩ := store_ok r hst (hev _ _ hp) (hev _ _ hy)
    exact ⟨undef, w', .inr ⟨by simp [execOp, ho, s1], rfl⟩, ι, ⟨_, rfl, rfl⟩, s2, s3⟩
  case h_10 x ho =>
    obtain ⟨p, hp, hq1⟩ := Res.bind_ok hq
    obtain ⟨h1, rfl⟩ := pureV_ok hq1
    have hv := hev _ _ hp
    unfold nilCheckR at h1
    split at h1
    · cases h1
      obtain ⟨e, he, hve⟩ := hv
      exact ⟨ev x, w, .inl (by simp [execOp, ho, hve]), ι, ⟨e, he, hve⟩, r, Step.refl _ _ _⟩
    · cases h1
      obtain ⟨e, he, hve⟩ := hv
      exact ⟨ev x, w, .inl (by simp [execOp, ho, hve]), ι, ⟨e, he, hve⟩, r, Step.refl _ _ _⟩
    · cases h1
  case h_11 op xt x y yt ho =>
    obtain ⟨a, ha, hq1⟩ := Res.bind_ok hq
    obtain ⟨b, hb, hq2⟩ := Res.bind_ok hq1
    split at hq2
    rotate_left; · cases hq2
    rename_i hg
    obtain ⟨h1, rfl⟩ := pureV_ok hq2
    obtain ⟨g1, g2⟩ := guard_ok (w := w) ok (hev _ _ ha) (hev _ _ hb) hg
    obtain ⟨u, u1, u2⟩ := binR_ok ok r h1 (hev _ _ ha) (hev _ _ hb) g2
    exact ⟨u, w, .inl (by simp [execOp, ho, g1, u1]), ι, u2, r, Step.refl _ _ _⟩
  case h_12 op t x ho =>
    obtain ⟨a, ha, hq1⟩ := Res.bind_ok hq
    obtain ⟨h1, rfl⟩ := pureV_ok hq1
    obtain ⟨u, u1, u2⟩ := un_ok (w := w) (P := F.c.P) h1 (hev _ _ ha)
    simp only [execOp, ho]
    exact OpTo.value r u1 u2
  case h_13 s d x ho =>
    obtain ⟨a, ha, hq1⟩ := Res.bind_ok hq
    obtain ⟨su, hsu, hq1'⟩ := Res.bind_ok hq1
    obtain ⟨du, hdu, hq2⟩ := Res.bind_ok hq1'
    have hv := hev _ _ ha
    have hus := undR_ok hsu
    have hud := undR_ok hdu
    simp only [execOp, ho]
    split at hq2
    · rename_i el b
      obtain ⟨wd, hwd, hq3⟩ := Res.bind_ok hq2
      have huw := undR_ok hwd
      split at hq3
      · cases hq3
        simp only [VRel] at hv
        obtain ⟨u, w', ι', u1, u2, u3, u4⟩ := strBytes_ok (e := el) (b := b) r fr
        rw [hv]
        exact OpTo.made ⟨u, w', ι', by cases su <;> simp [convert, run_und hus, run_und hud, run_und huw, u1], u2, u3, u4⟩
      · cases hq3
    · rename_i el o' off n
      obtain ⟨wd, hwd, hq3⟩ := Res.bind_ok hq2
      have huw := undR_ok hwd
      split at hq3
      · split at hq3
        · rename_i ez fz vs hob
          split at hq3
          · rename_i hsd
            cases hq3
            subst hsd
            rw [hud] at hus; cases hus
            have hv0 := hv
            obtain ⟨e, xo, cap, he, hve, hcap, hlc, hxo⟩ := hv
            obtain ⟨e', g1, _, g⟩ := r.obj o' _ hob
            rw [he] at g1; cases g1
            obtain ⟨c, T, f, a1, a2, a3, a4, a5, a6, a7, a8⟩ := g
            have hlt : e.blk < w.heap.size := (Array.getElem?_eq_some_iff.1 a1).1
            have hnew : ∃ f', (w.freeze { block := e.blk, off := c.size } 1) = { w with heap := w.heap.setIfInBounds e.blk (.cells c T f') } ∧ c.size ≤ f'.1 := by
              obtain ⟨lo, hi⟩ := f
              refine ⟨if lo == hi then (c.size, c.size + 1) else (min lo c.size, max hi (c.size + 1)), ?_, ?_⟩
              · simp only [World.freeze]
                rw [if_neg (by simp)]
                congr 1
                apply Array.ext_getElem?
                intro k
                rw [Array.getElem?_modify, Array.getElem?_setIfInBounds]
                by_cases hk : e.blk = k
                · subst hk
                  simp only [if_true, a1, hlt, Option.map_some]
                · simp only [hk, if_false]
              · split
                · exact Nat.le_refl _
                · rename_i hne
                  simp only
                  rcases a6 with a6 | a6
                  · cases a6; simp at hne
                  · omega
            obtain ⟨f', hf1, hf2⟩ := hnew
            obtain ⟨t1, t2⟩ := r.set (w' := { w with heap := w.heap.setIfInBounds e.blk (.cells c T f') }) (.row ez true vs) hob he ⟨rfl, rfl, rfl, by simp, fun k _ hk => by simp [Ne.symm hk]⟩
              ⟨c, T, f', by simp [hlt], a2, a3, a4, by simp, .inr hf2, a7, a8⟩
            refine OpTo.made ⟨ev x, _, ι, ?_, hv0, t1, t2⟩
            rw [hve]
            have hsh : w.shape? e.blk = some (T, c.size) := by simp [World.shape?, a1]
            simp [convert, run_und hud, run_und huw, markStringish, hsh, hf1]
          · cases hq3
        · cases hq3
      · cases hq3
    · obtain ⟨h1, rfl⟩ := pureV_ok hq2
      obtain ⟨u, u1, u2⟩ := conv_ok ok r h1 hv
      exact OpTo.value r u1 u2
  case h_14 t x ho =>
    obtain ⟨a, ha, hq1⟩ := Res.bind_ok hq
    obtain ⟨d, hd, hq2⟩ := Res.bind_ok hq1
    have hu := undR_ok hd
    split at hq2
    · cases hq2
    · rename_i hne
      cases hq2
      refine ⟨.iface t (ev x), w, .inl ?_, ι, ⟨_, rfl, hev _ _ ha⟩, r, Step.refl _ _ _⟩
      cases d <;> simp [execOp, ho, Instr.makeInterface, run_und hu]
      exact absurd rfl (hne _)
  case h_15 fn first cap ho =>
    split at hq
    · rename_i f
      obtain ⟨a, ha, hq1⟩ := Res.bind_ok hq
      obtain ⟨b, hb, hq2⟩ := Res.bind_ok hq1
      cases hq2
      exact ⟨.func (.func f) (first.map ev) (cap.map ev), w, .inl (by simp [execOp, ho, Instr.makeFunc]), ι, ⟨_, _, rfl, by simpa using opnds_ok hev _ _ ha, by simpa using opnds_ok hev _ _ hb⟩, r, Step.refl _ _ _⟩
    · cases hq
  case h_16 t rr ho =>
    split at hq
    · cases hq
      have := r.push fr (.map #[] 0) (.map []) ⟨w.heap.size, 0, 0, 0⟩ rfl ⟨#[], 0, by simp, rfl, rfl, by simp⟩
      exact ⟨.map (some w.heap.size), _, .inl (by simp [execOp, ho, Instr.makeMap]), _, ⟨_, upd_self _ _ _, rfl⟩, this.1, this.2⟩
    · cases hq
  case h_17 t l m ho =>
    obtain ⟨a, ha, hq1⟩ := Res.bind_ok hq
    obtain ⟨b, hb, hq2⟩ := Res.bind_ok hq1
    simp only [execOp, ho]
    exact OpTo.made (makeSlice_ok r hq2 (hev _ _ ha) (hev _ _ hb) fr)
  case h_18 t x lo hi mx ho =>
    obtain ⟨a, ha, hq1⟩ := Res.bind_ok hq
    obtain ⟨b, hb, hq2⟩ := Res.bind_ok hq1
    obtain ⟨c, hc, hq3⟩ := Res.bind_ok hq2
    obtain ⟨d, hd, hq4⟩ := Res.bind_ok hq3
    obtain ⟨h1, rfl⟩ := pureV_ok hq4
    simp only [execOp, ho]
    obtain ⟨u, u1, u2⟩ := slice_ok r h1 (hev _ _ ha) (optR_ok hev hb) (optR_ok hev hc) (optR_ok hev hd)
    exact OpTo.value r u1 u2
  case h_19 t x f ho =>
    obtain ⟨a, ha, hq1⟩ := Res.bind_ok hq
    obtain ⟨h1, rfl⟩ := pureV_ok hq1
    simp only [execOp, ho]
    obtain ⟨u, u1, u2⟩ := fieldAddr_ok (w := w) h1 (hev _ _ ha)
    exact OpTo.value r u1 u2
  case h_20 t x f ho =>
    obtain ⟨a, ha, hq1⟩ := Res.bind_ok hq
    obtain ⟨h1, rfl⟩ := pureV_ok hq1
    simp only [execOp, ho]
    obtain ⟨u, u1, u2⟩ := field_ok (w := w) h1 (hev _ _ ha)
    exact OpTo.value r u1 u2
  case h_21 t x i ho =>
    obtain ⟨a, ha, hq1⟩ := Res.bind_ok hq
    obtain ⟨b, hb, hq2⟩ := Res.bind_ok hq1
    obtain ⟨h1, rfl⟩ := pureV_ok hq2
    simp only [execOp, ho]
    obtain ⟨u, u1, u2⟩ := indexAddr_ok (w := w) h1 (hev _ _ ha) (hev _ _ hb)
    exact OpTo.value r u1 u2
  case h_22 t x i ho =>
    obtain ⟨a, ha, hq1⟩ := Res.bind_ok hq
    obtain ⟨b, hb, hq2⟩ := Res.bind_ok hq1
    obtain ⟨h1, rfl⟩ := pureV_ok hq2
    simp only [execOp, ho]
    obtain ⟨u, u1, u2⟩ := index_ok (w := w) h1 (hev _ _ ha) (hev _ _ hb)
    exact OpTo.value r u1 u2
  case h_23 t x k cok ho =>
    obtain ⟨a, ha, hq1⟩ := Res.bind_ok hq
    obtain ⟨b, hb, hq2⟩ := Res.bind_ok hq1
    obtain ⟨h1, rfl⟩ := pureV_ok hq2
    simp only [execOp, ho]
    obtain ⟨u, u1, u2⟩ := lookup_ok ok r h1 (hev _ _ ha) (hev _ _ hb)
    exact OpTo.value r u1 u2
  case h_24 t m k x ho =>
    obtain ⟨a, ha, hq1⟩ := Res.bind_ok hq
    obtain ⟨b, hb, hq2⟩ := Res.bind_ok hq1
    obtain ⟨y, hy, hq3⟩ := Res.bind_ok hq2
    obtain ⟨hh, hm, hq4⟩ := Res.bind_ok hq3
    cases hq4
    obtain ⟨w', s1, s2, s3⟩ := mapUpdate_ok ok r hm (hev _ _ ha) (hev _ _ hb) (hev _ _ hy)
    exact ⟨undef, w', .inr ⟨by simp [execOp, ho, s1], rfl⟩, ι, ⟨_, rfl, rfl⟩, s2, s3⟩
  case h_25 x i ho =>
    obtain ⟨a, ha, hq1⟩ := Res.bind_ok hq
    obtain ⟨h1, rfl⟩ := pureV_ok hq1
    simp only [execOp, ho]
    obtain ⟨u, u1, u2⟩ := extract_ok (w := w) h1 (hev _ _ ha)
    exact OpTo.value r u1 u2
  case h_26 x ho =>
    split at hq
    · rename_i b hb
      obtain ⟨args, ha, hq1⟩ := Res.bind_ok hq
      obtain ⟨cs, he⟩ : ∃ cs, execOp ev o = builtin b x.argTypes o.type cs (x.args.map ev) := by
        refine ⟨x.args.map fun | .const _ => true | _ => false, ?_⟩
        simp only [execOp, ho, resolve, hb]
        rfl
      rw [he]
      exact builtin_ok ok r hq1 (by simpa using opnds_ok hev _ _ ha) fr
    · cases hq
  case h_27 => cases hq
end
end Go.Proofs.YtofnbldbggddmaaGreatDoor
