/-
  Operators, more: '==' of any values, keys of maps, slices, places, values that are built.
-/
import Derived.Test.YtbnlhhfobgjeaaaZzOp1
set_option linter.all false
namespace Go.Proofs.Ytbnlhhfobgjeaaa
open Go Go.RowKit

section
variable {P : Program}
theorem run_forIn_cons {α β : Type} (a : α) (l : List α) (b : β) (f : α → β → Sem (ForInStep β)) (w : World) :
    (forIn (a :: l) b f).run P w = ((f a b).run P w).andThen fun r w' => match r with
      | .done b => .ok b w'
      | .yield b => (forIn l b f).run P w' := by
  simp only [List.forIn_cons, Sem.run_bind]
  congr 1
  funext r w'
  cases r <;> rfl
theorem run_forIn_nil {α β : Type} (b : β) (f : α → β → Sem (ForInStep β)) (w : World) : (forIn ([] : List α) b f).run P w = .ok b w := by
  simp
theorem run_mapM_arr {α β : Type} (xs : Array α) (f : α → Sem β) (w : World) {ys : List β} (h : (xs.toList.mapM f).run P w = .ok ys w) : (xs.mapM f).run P w = .ok ys.toArray w := by
  rw [Array.mapM_eq_mapM_toList, Sem.run_map, h]; rfl
theorem run_mapM_cons {α β : Type} (a : α) (l : List α) (f : α → Sem β) (w : World) {y : β} {ys : List β} (h : (f a).run P w = .ok y w) (h' : (l.mapM f).run P w = .ok ys w) :
    ((a :: l).mapM f).run P w = .ok (y :: ys) w := by
  simp [List.mapM_cons, h, h']
end

section
variable {F : Fix} {ι : Inj} {h : AHeap} {w : World}

/-- one field held against another one -/
def fieldStep (d : Nat) (cs ds : Array Value) (f : Field) (_ : Option Bool × Unit) : Sem (ForInStep (Option Bool × Unit)) :=
  if f.name = "_" then pure (ForInStep.yield (none, ()))
  else do
    let a ← part f.type cs f.offset
    let b ← part f.type ds f.offset
    let r ← Op.equalIn d f.type a b
    if r = false then pure (ForInStep.done (some false, ())) else pure (ForInStep.yield (none, ()))

theorem equalIn_struct {P : Program} {d t : Nat} {fs : Array Field} {cs ds : Array Value} (hu : P.underlying t = some (.struct fs)) (hs : P.stoodInHeld t = false) :
    (Op.equalIn (d + 1) t (.agg cs) (.agg ds)).run P w = ((forIn fs.toList (none, ()) (fieldStep d cs ds)).run P w).andThen fun a w' =>
      Sem.run P (match a.fst with | some r => pure r | none => pure true) w' := by
  simp [Op.equalIn, run_und hu, hs]
  have e : (fun (f : Field) (__s : Option Bool × Unit) => if f.name = "_" then (pure (ForInStep.yield (none, ())) : Sem (ForInStep (Option Bool × Unit)))
          else do
            let __do_lift ← part f.type cs f.offset
            let __do_lift_1 ← part f.type ds f.offset
            let __do_lift ← Op.equalIn d f.type __do_lift __do_lift_1
            if __do_lift = false then pure (ForInStep.done (some false, ())) else pure (ForInStep.yield (none, ()))) = fieldStep d cs ds := by
    funext f s
    by_cases hn : f.name = "_" <;> simp [fieldStep, hn]
  rw [e]
  congr 1
  funext a w'
  rcases a with ⟨_ | _, _⟩ <;> rfl

theorem eqFlat_ok (r : Rel F ι h w) {d t : Nat} {u : TypeDesc} {a b : AVal} {x y : Value} {res : Bool} (hu : F.c.P.underlying t = some u) (hq : eqFlat F.c.P h u a b = .ok res)
    (hx : VRel ι F.ρ a x) (hy : VRel ι F.ρ b y) : (Op.equalIn (d + 1) t x y).run F.c.P w = .ok res w := by
  unfold eqFlat at hq
  split at hq
  · split at hq <;> cases hq
    · simp only [VRel] at hx hy; subst hx; subst hy; simp [Op.equalIn, run_und hu]
    · simp only [VRel] at hx; subst hx; obtain ⟨_, rfl, _⟩ := hy; simp [Op.equalIn, run_und hu]
    · simp only [VRel] at hy; subst hy; obtain ⟨_, rfl, _⟩ := hx; simp [Op.equalIn, run_und hu]
  · split at hq <;> cases hq
    · simp only [VRel] at hx hy; subst hx; subst hy; simp [Op.equalIn, run_und hu]
    · simp only [VRel] at hx; subst hx; obtain ⟨_, _, _, _, rfl, _⟩ := hy; simp [Op.equalIn, run_und hu]
    · simp only [VRel] at hx; subst hx; obtain ⟨_, _, _, rfl, _⟩ := hy; simp [Op.equalIn, run_und hu]
    · simp only [VRel] at hx; subst hx; obtain ⟨_, _, _, _, rfl, _⟩ := hy; simp [Op.equalIn, run_und hu]
    · simp only [VRel] at hy; subst hy; obtain ⟨_, _, _, _, rfl, _⟩ := hx; simp [Op.equalIn, run_und hu]
    · simp only [VRel] at hy; subst hy; obtain ⟨_, _, _, rfl, _⟩ := hx; simp [Op.equalIn, run_und hu]
    · simp only [VRel] at hy; subst hy; obtain ⟨_, _, _, _, rfl, _⟩ := hx; simp [Op.equalIn, run_und hu]
  · split at hq <;> cases hq
    · simp only [VRel] at hx hy; subst hx; subst hy; simp [Op.equalIn, run_und hu]
    · simp only [VRel] at hx; subst hx; obtain ⟨_, _, rfl⟩ := hy; simp [Op.equalIn, run_und hu]
    · simp only [VRel] at hy; subst hy; obtain ⟨_, _, rfl⟩ := hx; simp [Op.equalIn, run_und hu]
  · split at hq <;> cases hq
    · simp only [VRel] at hx hy; subst hx; subst hy; simp [Op.equalIn, run_und hu]
    · simp only [VRel] at hx; subst hx; obtain ⟨_, _, rfl, _⟩ := hy; simp [Op.equalIn, run_und hu]
    · simp only [VRel] at hy; subst hy; obtain ⟨_, _, rfl, _⟩ := hx; simp [Op.equalIn, run_und hu]
  · split at hq
    · rename_i hf; exact eq1_ok r hu hf hq hx hy
    · cases hq

theorem eqFields_ok {d : Nat} {eq : Nat → AVal → AVal → Res Bool}
    (heq : ∀ (t : Nat) (a b : AVal) (x y : Value) (res : Bool), eq t a b = .ok res → VRel ι F.ρ a x → VRel ι F.ρ b y → (Op.equalIn d t x y).run F.c.P w = .ok res w) :
    ∀ (fs : List Field) (xs ys : List AVal) (cs ds : Array Value) (res : Bool), eqFields F.c.P eq fs xs ys = .ok res →
    VRels ι F.ρ xs cs.toList → (∀ v ∈ cs.toList, oneC v = true) → VRels ι F.ρ ys ds.toList → (∀ v ∈ ds.toList, oneC v = true) →
    (res = true → (forIn fs (none, ()) (fieldStep d cs ds)).run F.c.P w = .ok (none, ()) w) ∧ (res = false → (forIn fs (none, ()) (fieldStep d cs ds)).run F.c.P w = .ok (some false, ()) w)
  | [], _, _, _, _, res, hq, _, _, _, _ => by
    simp [eqFields] at hq; subst hq
    exact ⟨fun _ => run_forIn_nil _ _ _, fun h => (by cases h)⟩
  | f :: fs, xs, ys, cs, ds, res, hq, c1, c2, d1, d2 => by
    unfold eqFields at hq
    split at hq
    · rename_i hn
      have ih := eqFields_ok heq fs xs ys cs ds res hq c1 c2 d1 d2
      have hstep : ∀ s, (fieldStep d cs ds f s).run F.c.P w = .ok (ForInStep.yield (none, ())) w := by
        intro s; simp [fieldStep, hn]
      simp only [run_forIn_cons, hstep, Result.andThen_ok]
      exact ih
    · rename_i hn
      obtain ⟨a, ha, hq⟩ := Res.bind_ok hq
      obtain ⟨b, hb, hq⟩ := Res.bind_ok hq
      obtain ⟨e, he, hq⟩ := Res.bind_ok hq
      obtain ⟨v, v1, v2⟩ := part_ok (w := w) c1 c2 ha
      obtain ⟨u, u1, u2⟩ := part_ok (w := w) d1 d2 hb
      have hrun := heq f.type a b v u e he v2 u2
      cases e with
      | true =>
        have ih := eqFields_ok heq fs xs ys cs ds res hq c1 c2 d1 d2
        have hstep : ∀ s, (fieldStep d cs ds f s).run F.c.P w = .ok (ForInStep.yield (none, ())) w := by
          intro s; simp [fieldStep, hn, v1, u1, hrun]
        simp only [run_forIn_cons, hstep, Result.andThen_ok]
        exact ih
      | false =>
        cases hq
        have hstep : ∀ s, (fieldStep d cs ds f s).run F.c.P w = .ok (ForInStep.done (some false, ())) w := by
          intro s; simp [fieldStep, hn, v1, u1, hrun]
        simp only [run_forIn_cons, hstep, Result.andThen_ok]
        exact ⟨fun h => (by cases h), fun _ => by simp⟩

theorem eqIn_ok (ok : F.Ok) (r : Rel F ι h w) : ∀ (d t : Nat) (a b : AVal) (x y : Value) (res : Bool), eqIn F.c h d t a b = .ok res → VRel ι F.ρ a x → VRel ι F.ρ b y →
    (Op.equalIn d t x y).run F.c.P w = .ok res w
  | 0, _, _, _, _, _, _, hq, _, _ => by simp [eqIn] at hq
  | d + 1, t, a, b, x, y, res, hq, hx, hy => by
    unfold eqIn at hq
    obtain ⟨u, hu', hq⟩ := Res.bind_ok hq
    have hu := undR_ok hu'
    by_cases hs : ∃ fs, u = .struct fs
    · obtain ⟨fs, rfl⟩ := hs
      by_cases ha : ∃ xs, a = .agg xs
      · obtain ⟨xs, rfl⟩ := ha
        by_cases hb : ∃ ys, b = .agg ys
        · obtain ⟨ys, rfl⟩ := hb
          simp only at hq
          split at hq
          · rename_i he
            obtain ⟨cs, rfl, c1, c2⟩ := hx
            obtain ⟨ds, rfl, d1, d2⟩ := hy
            rw [equalIn_struct hu (ok.eqs t he).1]
            have := eqFields_ok (eqIn_ok ok r d) fs.toList xs ys cs ds res hq c1 c2 d1 d2
            cases res with
            | true => rw [this.1 rfl]; rfl
            | false => rw [this.2 rfl]; rfl
          · cases hq
        · cases b <;> simp_all
      · cases a <;> simp_all
    · have : eqFlat F.c.P h u a b = .ok res := by cases u <;> simp_all
      exact eqFlat_ok r hu this hx hy

theorem VRel.agg_inv {ρ : RoMap} {a : AVal} {cs : Array Value} (h : VRel ι ρ a (.agg cs)) (hd : a ≠ .dead) : ∃ l, a = .agg l := by
  cases a <;> simp [VRel] at h hd ⊢
theorem VRel.nili_inv {ρ : RoMap} {a : AVal} (h : VRel ι ρ a .nilIface) (hd : a ≠ .dead) : a = .nili := by
  cases a <;> simp [VRel] at h hd ⊢
theorem VRel.int_inv {ρ : RoMap} {a : AVal} {k : IntKind} {n : Int} (h : VRel ι ρ a (.int k n)) (hd : a ≠ .dead) : a = .int k n := by
  cases a <;> simp_all [VRel]
theorem VRel.float_inv {ρ : RoMap} {a : AVal} {k : FloatKind} {n : Nat} (h : VRel ι ρ a (.float k n)) (hd : a ≠ .dead) : a = .float k n := by
  cases a <;> simp_all [VRel]
theorem VRel.cplx_inv {ρ : RoMap} {a : AVal} {k : FloatKind} {n m : Nat} (h : VRel ι ρ a (.complex k n m)) (hd : a ≠ .dead) : a = .cplx k n m := by
  cases a <;> simp_all [VRel]
theorem VRel.str_inv {ρ : RoMap} {a : AVal} {s : ByteArray} (h : VRel ι ρ a (.string s)) (hd : a ≠ .dead) : ∃ l, a = .str l := by
  cases a <;> simp [VRel] at h hd ⊢

/-- the guard of '==' and '!=' lets by -/
theorem guard_ok (ok : F.Ok) {op : BinOp} {xt : Nat} {ox oy : Operand} {a b : AVal} {x y : Value} (hx : VRel ι F.ρ a x) (hy : VRel ι F.ρ b y)
    (hg : eqGuardA F.c op xt ox oy a b = true) :
    (eqGuard op xt ox oy x y).run F.c.P w = .ok () w ∧ ((op = .eql ∨ op = .neq) → a ≠ .dead ∧ b ≠ .dead) := by
  by_cases hop : op = .eql ∨ op = .neq
  · have hg' : guardOk F.c xt ox oy a b = true := by rcases hop with rfl | rfl <;> simpa [eqGuardA] using hg
    have hd : a ≠ .dead ∧ b ≠ .dead := by
      constructor <;> rintro rfl
      · simp [guardOk] at hg'
      · cases a <;> simp [guardOk] at hg'
    refine ⟨?_, fun _ => hd⟩
    by_cases h1 : x = .nilIface ∧ y = .nilIface
    · obtain ⟨rfl, rfl⟩ := h1
      obtain rfl := hx.nili_inv hd.1
      obtain rfl := hy.nili_inv hd.2
      simp only [guardOk] at hg'
      rcases hop with rfl | rfl <;> (cases ox <;> cases oy <;> simp_all [eqGuard, isConstOp])
    · by_cases h2 : (∃ cs, x = .agg cs) ∧ ∃ ds, y = .agg ds
      · obtain ⟨⟨cs, rfl⟩, ds, rfl⟩ := h2
        obtain ⟨l, rfl⟩ := hx.agg_inv hd.1
        obtain ⟨m, rfl⟩ := hy.agg_inv hd.2
        simp only [guardOk] at hg'
        have := (ok.eqs xt hg').2
        rcases hop with rfl | rfl <;> simp [eqGuard, this]
      · rcases hop with rfl | rfl <;> simp only [eqGuard] <;> split <;> simp_all
  · refine ⟨?_, fun h => absurd h hop⟩
    cases op <;> simp_all [eqGuard]

theorem binOp_eq {op : BinOp} {xt : Nat} {x y : Value} (hop : op = .eql ∨ op = .neq) (h1 : ∀ k a k' b, ¬ (x = .int k a ∧ y = .int k' b)) (h2 : ∀ k a k' b, ¬ (x = .float k a ∧ y = .float k' b))
    (h3 : ∀ k a b k' c d, ¬ (x = .complex k a b ∧ y = .complex k' c d)) (h4 : ∀ a b, ¬ (x = .string a ∧ y = .string b)) :
    binOp op xt x y = (do let b ← Op.equal xt x y; pure (.bool (if op = .eql then b else !b))) := by
  rcases hop with rfl | rfl <;> (unfold binOp; split) <;> first
    | (exfalso; first | exact h1 _ _ _ _ ⟨rfl, rfl⟩ | exact h2 _ _ _ _ ⟨rfl, rfl⟩ | exact h3 _ _ _ _ _ _ ⟨rfl, rfl⟩ | exact h4 _ _ ⟨rfl, rfl⟩)
    | simp_all

theorem binR_ok (ok : F.Ok) (r : Rel F ι h w) {op : BinOp} {xt : Nat} {a b res : AVal} {x y : Value} (hq : binR F.c h op xt a b = .ok res) (hx : VRel ι F.ρ a x) (hy : VRel ι F.ρ b y)
    (hd : (op = .eql ∨ op = .neq) → a ≠ .dead ∧ b ≠ .dead) :
    ∃ v, (binOp op xt x y).run F.c.P w = .ok v w ∧ VRel ι F.ρ res v := by
  have hcore : ∀ op, (op = .eql ∨ op = .neq) → a ≠ .dead → b ≠ .dead → (∀ k n k' m, ¬ (a = .int k n ∧ b = .int k' m)) → (∀ k n k' m, ¬ (a = .float k n ∧ b = .float k' m)) →
      (∀ k n o k' m p, ¬ (a = .cplx k n o ∧ b = .cplx k' m p)) → (∀ s t, ¬ (a = .str s ∧ b = .str t)) → ∀ e, eqIn F.c h 10000 xt a b = .ok e →
      (binOp op xt x y).run F.c.P w = .ok (.bool (if op = .eql then e else !e)) w := by
    intro op hop da db n1 n2 n3 n4 e he
    rw [binOp_eq hop]
    · have hrun := eqIn_ok ok r 10000 xt a b x y e he hx hy
      simp only [Op.equal, Op.maxDepth, Sem.run_bind, hrun, Result.andThen_ok, Sem.run_pure]
    · rintro k n k' m ⟨rfl, rfl⟩; exact n1 _ _ _ _ ⟨hx.int_inv da, hy.int_inv db⟩
    · rintro k n k' m ⟨rfl, rfl⟩; exact n2 _ _ _ _ ⟨hx.float_inv da, hy.float_inv db⟩
    · rintro k n o k' m p ⟨rfl, rfl⟩; exact n3 _ _ _ _ _ _ ⟨hx.cplx_inv da, hy.cplx_inv db⟩
    · rintro s t ⟨rfl, rfl⟩
      obtain ⟨l, hl⟩ := hx.str_inv da
      obtain ⟨m, hm⟩ := hy.str_inv db
      exact n4 _ _ ⟨hl, hm⟩
  unfold binR at hq
  split at hq
  · simp only [VRel] at hx hy; subst hx; subst hy; exact shift_ok hq xt
  · simp only [VRel] at hx hy; subst hx; subst hy; exact shift_ok hq xt
  · simp only [VRel] at hx hy; subst hx; subst hy
    split at hq
    · rename_i hk; subst hk; exact intBin_ok hq xt
    · cases hq
  · simp only [VRel] at hx hy; subst hx; subst hy
    split at hq
    · rename_i hk; subst hk; exact float_ok hq xt
    · cases hq
  · simp only [VRel] at hx hy; subst hx; subst hy
    split at hq
    · rename_i hk; subst hk; exact cplx_ok hq xt
    · cases hq
  · simp only [VRel] at hx hy; subst hx; subst hy; exact str_ok hq xt
  · rename_i n1 n2 n3 n4
    obtain ⟨e, he, hq⟩ := Res.bind_ok hq
    cases hq
    obtain ⟨da, db⟩ := hd (.inl rfl)
    exact ⟨_, hcore .eql (.inl rfl) da db (fun k n k' m hh => n1 k n k' m hh.1 hh.2) (fun k n k' m hh => n2 k n k' m hh.1 hh.2) (fun k n o k' m p hh => n3 k n o k' m p hh.1 hh.2) (fun s t hh => n4 s t hh.1 hh.2) e he, rfl⟩
  · rename_i n1 n2 n3 n4
    obtain ⟨e, he, hq⟩ := Res.bind_ok hq
    cases hq
    obtain ⟨da, db⟩ := hd (.inr rfl)
    exact ⟨_, hcore .neq (.inr rfl) da db (fun k n k' m hh => n1 k n k' m hh.1 hh.2) (fun k n k' m hh => n2 k n k' m hh.1 hh.2) (fun k n o k' m p hh => n3 k n o k' m p hh.1 hh.2) (fun s t hh => n4 s t hh.1 hh.2) e he, rfl⟩
  · cases hq
end
end Go.Proofs.Ytbnlhhfobgjeaaa
