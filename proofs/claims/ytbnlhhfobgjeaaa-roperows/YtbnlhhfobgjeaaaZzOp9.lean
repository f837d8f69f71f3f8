/-
  Conversions, lengths, builtins; one operation as a whole.
-/
import Derived.Test.YtbnlhhfobgjeaaaZzOp8
set_option linter.all false
namespace Go.Proofs.Ytbnlhhfobgjeaaa
open Go Go.RowKit

section
variable {F : Fix} {ι : Inj} {h : AHeap} {w : World}

theorem bytesOfA_ok {ρ : RoMap} {P : Program} {f : Value → ByteArray → Sem (ForInStep ByteArray)} (hf : ∀ n s, f (.int .u8 n) s = pure (ForInStep.yield (s.push (UInt8.ofNat n.toNat)))) :
    ∀ {cs : List AVal} {l : List UInt8} {vs : List Value} {acc : ByteArray}, bytesOfA cs = .ok l → VRels ι ρ cs vs → (forIn vs acc f).run P w = .ok ⟨acc.data ++ l.toArray⟩ w
  | [], l, vs, acc, hq, hv => by
    simp [bytesOfA] at hq; subst hq
    simp [VRels] at hv; subst hv
    rw [run_forIn_nil]; simp
  | a :: cs, l, _, acc, hq, hv => by
    obtain ⟨v, vs, rfl, v1, v2⟩ := hv
    unfold bytesOfA at hq
    obtain ⟨b, hb, hq1⟩ := Res.bind_ok hq
    obtain ⟨l', hl, hq2⟩ := Res.bind_ok hq1
    cases hq2
    unfold byteOfA at hb
    split at hb
    · cases hb
      simp only [VRel] at v1; subst v1
      rw [run_forIn_cons, hf]
      simp only [Sem.run_pure, Result.andThen_ok]
      rw [bytesOfA_ok hf hl v2]
      congr 2
      simp [ByteArray.push]
    · cases hb

theorem conv_ok (ok : F.Ok) (r : Rel F ι h w) {s d : Nat} {x res : AVal} {xv : Value} (hq : convR F.c h s d x = .ok res) (hx : VRel ι F.ρ x xv) : ∃ v, (convert s d xv).run F.c.P w = .ok v w ∧ VRel ι F.ρ res v := by
  unfold convR at hq
  obtain ⟨sd, hs, hq1⟩ := Res.bind_ok hq; clear hq
  obtain ⟨dd, hd, hq2⟩ := Res.bind_ok hq1; clear hq1
  have hus := undR_ok hs
  have hud := undR_ok hd
  split at hq2
  · cases hq2; simp only [VRel] at hx; subst hx
    exact ⟨_, by simp [convert, run_und hus, run_und hud, Conv.intToInt], rfl⟩
  · cases hq2; simp only [VRel] at hx; subst hx
    exact ⟨_, by simp [convert, run_und hus, run_und hud, Conv.intToFloat], rfl⟩
  · split at hq2
    · rename_i hn
      split at hq2
      · rename_i hr
        cases hq2; simp only [VRel] at hx; subst hx
        exact ⟨_, by simp [convert, run_und hus, run_und hud, Conv.floatToInt, hn, hr], rfl⟩
      · cases hq2
    · cases hq2
  · cases hq2; simp only [VRel] at hx; subst hx
    exact ⟨_, by simp [convert, run_und hus, run_und hud], rfl⟩
  · obtain ⟨ed, he, hq3⟩ := Res.bind_ok hq2
    have hue := undR_ok he
    split at hq3
    · cases hq3; simp only [VRel] at hx; subst hx
      exact ⟨_, by simp [convert, run_und hus, run_und hud, run_und hue, Conv.bytesToString, ByteArray.empty, ByteArray.emptyWithCapacity]; rfl, rfl⟩
    · cases hq3
  · obtain ⟨ed, he, hq3⟩ := Res.bind_ok hq2
    have hue := undR_ok he
    split at hq3
    · obtain ⟨n, hn, hq4⟩ := Res.bind_ok hq3
      obtain ⟨cs, hcs, hq5⟩ := Res.bind_ok hq4
      obtain ⟨l, hl, hq6⟩ := Res.bind_ok hq5
      cases hq6
      have hslice : ∃ a c, xv = .slice (some a) n c ∧ lenA x = .ok n := by
        unfold lenSl at hn
        split at hn
        · cases hn; obtain ⟨_, _, _, _, rfl, _⟩ := hx; exact ⟨_, _, rfl, rfl⟩
        · cases hn; obtain ⟨_, _, _, rfl, _⟩ := hx; exact ⟨_, _, rfl, rfl⟩
        · cases hn; obtain ⟨_, _, _, _, rfl, _⟩ := hx; exact ⟨_, _, rfl, rfl⟩
        · cases hn
      obtain ⟨a, c, rfl, hlen⟩ := hslice
      obtain ⟨arr, a1, a2, a3⟩ := readSl_ok ok r hcs hx hlen (Nat.le_refl _)
      have a1w : (loadCells a n).run F.c.P w = .ok arr w := by
        have := a1 w.drawn
        simp only [Builtin.firstCells, Nat.mul_one] at this
        exact this
      refine ⟨.string ⟨l.toArray⟩, ?_, rfl⟩
      simp [convert, run_und hus, run_und hud, run_und hue, Conv.bytesToString, a1w]
      rw [← Array.forIn_toList, bytesOfA_ok (fun n s => rfl) hl a2]
      simp [ByteArray.empty, ByteArray.emptyWithCapacity]
      try rfl
    · cases hq3
  · cases hq2

theorem len_ok (r : Rel F ι h w) {t : Nat} {x v : AVal} {xv : Value} {ts : Array TypeId} {ty : TypeId} (h0 : ts[0]? = some t) (hq : lenR F.c h t x = .ok v) (hx : VRel ι F.ρ x xv) :
    ∃ u, (Builtin.len_ ts ty #[xv]).run F.c.P w = .ok u w ∧ VRel ι F.ρ v u := by
  unfold lenR at hq
  obtain ⟨d, hd, hq1⟩ := Res.bind_ok hq; clear hq
  have hu := undR_ok hd
  split at hq1
  · split at hq1
    · cases hq1; simp only [VRel] at hx; subst hx
      exact ⟨_, by simp [Builtin.len_, h0, run_und hu, goInt, ba_size], rfl⟩
    · cases hq1
  · split at hq1
    · cases hq1
    · rename_i hne
      obtain ⟨n, hn, hq2⟩ := Res.bind_ok hq1
      cases hq2
      unfold lenA at hn
      split at hn
      · cases hn; simp only [VRel] at hx; subst hx; exact ⟨_, by simp [Builtin.len_, h0, run_und hu, goInt], rfl⟩
      · cases hn; obtain ⟨_, _, _, _, rfl, _⟩ := hx; exact ⟨_, by simp [Builtin.len_, h0, run_und hu, goInt], rfl⟩
      · cases hn; obtain ⟨_, _, _, rfl, _⟩ := hx; exact ⟨_, by simp [Builtin.len_, h0, run_und hu, goInt], rfl⟩
      · cases hn; obtain ⟨_, _, _, _, rfl, _⟩ := hx; exact ⟨_, by simp [Builtin.len_, h0, run_und hu, goInt], rfl⟩
      · exact absurd rfl (hne _)
      · cases hn
  · obtain ⟨es, hes, hq2⟩ := Res.bind_ok hq1
    cases hq2
    rcases entriesR_ok hes with ⟨rfl, rfl⟩ | ⟨o, rfl, ho⟩
    · simp only [VRel] at hx; subst hx
      exact ⟨_, by simp [Builtin.len_, h0, run_und hu, goInt], rfl⟩
    · obtain ⟨e, he, rfl⟩ := hx
      obtain ⟨e', g1, _, g⟩ := r.obj o _ ho
      rw [he] at g1; cases g1
      obtain ⟨ents, clock, g3, g4, _, g5⟩ := g
      have hg : (getObj e.blk).run F.c.P w = .ok (.map ents clock) w := by simp [getObj, Sem.run, g3]
      exact ⟨_, by simp [Builtin.len_, h0, run_und hu, goInt, hg, g4], rfl⟩
  · cases hq1; exact ⟨_, by simp [Builtin.len_, h0, run_und hu, goInt], rfl⟩
  · obtain ⟨ad, had, hq2⟩ := Res.bind_ok hq1
    split at hq2
    · cases hq2; exact ⟨_, by simp [Builtin.len_, h0, run_und hu, run_und (undR_ok had), goInt], rfl⟩
    · cases hq2
  · cases hq1

theorem fold_ok {ρ : RoMap} {P : Program} {f : AVal → AVal → Res AVal} {g : Value → Value → Sem Value} (hfg : ∀ {a b r : AVal} {x y : Value}, f a b = .ok r → VRel ι ρ a x → VRel ι ρ b y → ∃ v, (g x y).run P w = .ok v w ∧ VRel ι ρ r v) :
    ∀ (l : List AVal) (a r : AVal) (x : Value) (vs : List Value), foldR f a l = .ok r → VRel ι ρ a x → VRels ι ρ l vs → ∃ v, (vs.foldlM g x).run P w = .ok v w ∧ VRel ι ρ r v
  | [], a, r, x, vs, hq, hx, hv => by
    simp [foldR] at hq; subst hq
    simp [VRels] at hv; subst hv
    exact ⟨x, by simp, hx⟩
  | b :: l, a, r, x, _, hq, hx, hv => by
    obtain ⟨y, ys, rfl, v1, v2⟩ := hv
    unfold foldR at hq
    obtain ⟨z, hz, hq1⟩ := Res.bind_ok hq
    obtain ⟨u, u1, u2⟩ := hfg hz hx v1
    obtain ⟨v, v1', v2'⟩ := fold_ok hfg l z r u ys hq1 u2 v2
    exact ⟨v, by simp [List.foldlM_cons, u1, v1'], v2'⟩

theorem max2_ok {ρ : RoMap} {P : Program} {a b r : AVal} {x y : Value} (hq : max2R a b = .ok r) (hx : VRel ι ρ a x) (hy : VRel ι ρ b y) : ∃ v, (Builtin.max2 x y).run P w = .ok v w ∧ VRel ι ρ r v := by
  unfold max2R at hq
  split at hq
  · cases hq; simp only [VRel] at hx hy; subst hx; subst hy; exact ⟨_, by simp [Builtin.max2], rfl⟩
  · cases hq
theorem min2_ok {ρ : RoMap} {P : Program} {a b r : AVal} {x y : Value} (hq : min2R a b = .ok r) (hx : VRel ι ρ a x) (hy : VRel ι ρ b y) : ∃ v, (Builtin.min2 x y).run P w = .ok v w ∧ VRel ι ρ r v := by
  unfold min2R at hq
  split at hq
  · cases hq; simp only [VRel] at hx hy; subst hx; subst hy; exact ⟨_, by simp [Builtin.min2], rfl⟩
  · cases hq

/-- an operation's outcome -/
def OpTo (P : Program) (s : Sem Next) (w : World) (R : Value → World → Prop) : Prop :=
  ∃ v w', (s.run P w = .ok (.value v) w' ∨ (s.run P w = .ok .skip w' ∧ v = undef)) ∧ R v w'

/-- what an operation leads to -/
def Out (F : Fix) (ι : Inj) (h : AHeap) (w : World) (v : AVal) (h' : AHeap) (u : Value) (w' : World) : Prop :=
  ∃ ι', VRel ι' F.ρ v u ∧ Rel F ι' h' w' ∧ Step ι h w ι' h' w'

set_option maxHeartbeats 1000000 in
theorem builtin_ok (ok : F.Ok) (r : Rel F ι h w) {b : Builtin} {ts : Array TypeId} {ty : TypeId} {cs : Array Bool} {args : List AVal} {v : AVal} {h' : AHeap} {av : Array Value} (hq : builtinR F.c h b ts args = .ok (v, h')) (ha : VRels ι F.ρ args av.toList) (fr : Fresh ι h.next h'.next) :
    OpTo F.c.P (builtin b ts ty cs av) w (Out F ι h w v h') := by
  unfold builtinR at hq
  split at hq
  · rename_i t x h0
    obtain ⟨_, hq1, hq2⟩ := Res.bind_ok hq
    cases hq2
    obtain ⟨xv, _, hav, a1, a2⟩ := ha
    have : av = #[xv] := by apply Array.toList_inj.1; rw [hav]; simp [VRels] at a2; simp [a2]
    subst this
    obtain ⟨u, u1, u2⟩ := len_ok (ty := ty) r h0 hq1 a1
    exact ⟨u, w, .inl (by simp [builtin, u1]), ι, u2, r, Step.refl _ _ _⟩
  · rename_i t s x h0
    obtain ⟨sv, _, hav, a1, xv, _, rfl, a2, a3⟩ := ha
    have : av = #[sv, xv] := by apply Array.toList_inj.1; rw [hav]; simp [VRels] at a3; simp [a3]
    subst this
    obtain ⟨u, w', ι', u1, u2, u3, u4⟩ := append_ok (ty := ty) ok r h0 rfl hq a1 a2 fr
    exact ⟨u, w', .inl (by simp [builtin, u1]), ι', u2, u3, u4⟩
  · rename_i t d s h0
    obtain ⟨dv, _, hav, a1, sv, _, rfl, a2, a3⟩ := ha
    have : av = #[dv, sv] := by apply Array.toList_inj.1; rw [hav]; simp [VRels] at a3; simp [a3]
    subst this
    obtain ⟨u, w', u1, u2, u3, u4⟩ := copy_ok (ty := ty) ok r h0 hq a1 a2
    exact ⟨u, w', .inl (by simp [builtin, u1]), ι, u2, u3, u4⟩
  · rename_i t x h0
    obtain ⟨xv, _, hav, a1, a2⟩ := ha
    have : av = #[xv] := by apply Array.toList_inj.1; rw [hav]; simp [VRels] at a2; simp [a2]
    subst this
    obtain ⟨w', u1, rfl, u3, u4⟩ := clear_ok (ty := ty) r h0 hq a1
    exact ⟨_, w', .inl (by simp [builtin, u1]), ι, ⟨_, rfl, rfl⟩, u3, u4⟩
  · rename_i t m k h0
    obtain ⟨mv, _, hav, a1, kv, _, rfl, a2, a3⟩ := ha
    have : av = #[mv, kv] := by apply Array.toList_inj.1; rw [hav]; simp [VRels] at a3; simp [a3]
    subst this
    obtain ⟨w', u1, rfl, u3, u4⟩ := delete_ok (ty := ty) ok r h0 hq a1 a2
    exact ⟨_, w', .inl (by simp [builtin, u1]), ι, ⟨_, rfl, rfl⟩, u3, u4⟩
  · obtain ⟨_, hq1, hq2⟩ := Res.bind_ok hq
    cases hq2
    obtain ⟨xv, vs, hav, a1, a2⟩ := ha
    obtain ⟨u, u1, u2⟩ := fold_ok (P := F.c.P) (w := w) (fun h1 h2 h3 => max2_ok h1 h2 h3) _ _ _ _ _ hq1 a1 a2
    exact ⟨u, w, .inl (by simp [builtin, Builtin.max_, hav, u1]), ι, u2, r, Step.refl _ _ _⟩
  · obtain ⟨_, hq1, hq2⟩ := Res.bind_ok hq
    cases hq2
    obtain ⟨xv, vs, hav, a1, a2⟩ := ha
    obtain ⟨u, u1, u2⟩ := fold_ok (P := F.c.P) (w := w) (fun h1 h2 h3 => min2_ok h1 h2 h3) _ _ _ _ _ hq1 a1 a2
    exact ⟨u, w, .inl (by simp [builtin, Builtin.min_, hav, u1]), ι, u2, r, Step.refl _ _ _⟩
  · rename_i t x h0
    obtain ⟨e, he, hq1⟩ := Res.bind_ok hq
    have hu := elemSl_ok he
    obtain ⟨xv, _, hav, a1, a2⟩ := ha
    have : av = #[xv] := by apply Array.toList_inj.1; rw [hav]; simp [VRels] at a2; simp [a2]
    subst this
    split at hq1
    · cases hq1
      obtain ⟨_, _, _, rfl, _⟩ := a1
      exact ⟨_, w, .inl (by simp [builtin, Builtin.cap_, h0, run_und hu, goInt]), ι, rfl, r, Step.refl _ _ _⟩
    · cases hq1
      simp only [VRel] at a1; subst a1
      exact ⟨_, w, .inl (by simp [builtin, Builtin.cap_, h0, run_und hu, goInt]), ι, rfl, r, Step.refl _ _ _⟩
    · cases hq1
  · rename_i k a k' b'
    split at hq
    · rename_i hk; subst hk
      cases hq
      obtain ⟨xv, _, hav, a1, yv, _, rfl, a2, a3⟩ := ha
      have : av = #[xv, yv] := by apply Array.toList_inj.1; rw [hav]; simp [VRels] at a3; simp [a3]
      subst this
      simp only [VRel] at a1 a2; subst a1; subst a2
      have hc : Builtin.complex_ ts ty #[.float k a, .float k b'] = (if k = k then pure (.complex k a b') else stuck "complex: parts of different kinds") := rfl
      exact ⟨_, w, .inl (by simp only [builtin, hc, if_true, Sem.run_bind, Sem.run_pure, Result.andThen_ok]), ι, rfl, r, Step.refl _ _ _⟩
    · cases hq
  · rename_i k a b'
    cases hq
    obtain ⟨xv, _, hav, a1, a2⟩ := ha
    have : av = #[xv] := by apply Array.toList_inj.1; rw [hav]; simp [VRels] at a2; simp [a2]
    subst this
    simp only [VRel] at a1; subst a1
    have hc : Builtin.real_ ts ty #[.complex k a b'] = pure (.float k a) := rfl
    exact ⟨_, w, .inl (by simp only [builtin, hc, Sem.run_bind, Sem.run_pure, Result.andThen_ok]), ι, rfl, r, Step.refl _ _ _⟩
  · rename_i k a b'
    cases hq
    obtain ⟨xv, _, hav, a1, a2⟩ := ha
    have : av = #[xv] := by apply Array.toList_inj.1; rw [hav]; simp [VRels] at a2; simp [a2]
    subst this
    simp only [VRel] at a1; subst a1
    have hc : Builtin.imag_ ts ty #[.complex k a b'] = pure (.float k b') := rfl
    exact ⟨_, w, .inl (by simp only [builtin, hc, Sem.run_bind, Sem.run_pure, Result.andThen_ok]), ι, rfl, r, Step.refl _ _ _⟩
  · cases hq
end
end Go.Proofs.Ytbnlhhfobgjeaaa
