/-
  Maps: keys, what is looked up, put, and taken out.
-/
import Derived.Test.YtbnlhhfobgjeaaaZzOp2
set_option linter.all false
namespace Go.Proofs.Ytbnlhhfobgjeaaa
open Go Go.RowKit

section
variable {P : Program} {w : World}

theorem sameNow_in {kt n : Nat} {d : TypeDesc} {x y : Value} {b : Bool} (hu : P.underlying kt = some d) (h : Instr.sameNow d x y = some b) : (Op.equalIn (n + 1) kt x y).run P w = .ok b w := by
  unfold Instr.sameNow at h
  split at h
  · split at h
    · rename_i hk; subst hk; cases h
      simp [Op.equalIn, run_und hu]
    · cases h
  · cases h; simp [Op.equalIn, run_und hu]
  · cases h; simp [Op.equalIn, run_und hu]
  · cases h

theorem sameNow_ok {kt : Nat} {d : TypeDesc} {x y : Value} {b : Bool} (hu : P.underlying kt = some d) (h : Instr.sameNow d x y = some b) : (Op.equal kt x y).run P w = .ok b w :=
  sameNow_in (n := 9999) hu h

theorem findNow_ok {kt : Nat} {d : TypeDesc} {x : Value} (hu : P.underlying kt = some d) : ∀ (es : List MapEntry) (i : Nat) (r : Option (Nat × Value)), Instr.findNow d x es i = some r →
    (Instr.findAsking kt x es i).run P w = .ok r w
  | [], i, r, h => by simp [Instr.findNow] at h; subst h; simp [Instr.findAsking]
  | e :: es, i, r, h => by
    unfold Instr.findNow at h
    split at h
    · rename_i hs; cases h; simp [Instr.findAsking, sameNow_ok hu hs]
    · rename_i hs; have := findNow_ok hu es (i + 1) r h; simp [Instr.findAsking, sameNow_ok hu hs, this]
    · cases h

theorem findKey_eq {kt : Nat} {d : TypeDesc} {x : Value} (hu : P.underlying kt = some d) (es : List MapEntry) : (Instr.findKey kt x es).run P w = (Instr.findAsking kt x es 0).run P w := by
  simp only [Instr.findKey, Sem.run_bind, run_und hu, Result.andThen_ok]
  cases h : Instr.findNow d x es 0 with
  | none => rfl
  | some r => simp [findNow_ok hu es 0 r h]

def scalarD : Option TypeDesc → Bool
  | some (.int _) | some .string | some .bool => true
  | _ => false

theorem checkKey_flat {t n : Nat} {d : TypeDesc} {e : Bool} {v : Value} (hu : P.underlying t = some d) (hs : scalarD (some d) = true) : (Instr.checkKey e (n + 1) t v).run P w = .ok () w := by
  cases d <;> simp [scalarD] at hs <;> simp [Instr.checkKey, run_und hu]

theorem keySimple_eq {kt : Nat} : keySimple P kt = true → (∃ d, P.underlying kt = some d ∧ scalarD (some d) = true) ∨
    ∃ fs, P.underlying kt = some (.struct fs) ∧ ∀ f ∈ fs.toList, (∃ d, P.underlying f.type = some d ∧ scalarD (some d) = true) ∧ f.name ≠ "_" := by
  intro h
  unfold keySimple at h
  split at h
  · left; exact ⟨_, by assumption, rfl⟩
  · left; exact ⟨_, by assumption, rfl⟩
  · left; exact ⟨_, by assumption, rfl⟩
  · rename_i fs hu
    right
    refine ⟨fs, hu, fun f hf => ?_⟩
    have := (List.all_eq_true.1 h) f hf
    split at this
    · rename_i h1; exact ⟨⟨_, h1, rfl⟩, by simpa using this⟩
    · rename_i h1; exact ⟨⟨_, h1, rfl⟩, by simpa using this⟩
    · rename_i h1; exact ⟨⟨_, h1, rfl⟩, by simpa using this⟩
    · cases this
  · cases h

theorem part_flat {t off : Nat} {d : TypeDesc} {cs : Array Value} (hu : P.underlying t = some d) (hs : scalarD (some d) = true) (ho : off < cs.size) : (part t cs off).run P w = .ok cs[off] w := by
  have : isAggD d = false := by cases d <;> simp [scalarD] at hs <;> rfl
  simp [part, run_isAgg' hu, this, ho]

theorem checkKey_in {ι : Inj} {ρ : RoMap} {kt n : Nat} {k : AVal} {v : Value} {e : Bool} (hs : keySimple P kt = true) (hf : keyFits P kt k = true) (hv : VRel ι ρ k v) :
    (Instr.checkKey e (n + 2) kt v).run P w = .ok () w := by
  rcases keySimple_eq hs with ⟨d, hu, hd⟩ | ⟨fs, hu, hfs⟩
  · exact checkKey_flat hu hd
  · unfold keyFits at hf
    rw [hu] at hf
    cases k <;> simp only [Bool.false_eq_true] at hf
    rename_i vs
    obtain ⟨cs, rfl, c1, c2⟩ := hv
    have hoff : ∀ f ∈ fs.toList, f.offset < cs.size := by
      intro f hm
      have := (List.all_eq_true.1 hf) f hm
      have hl := c1.length
      simp at this hl
      omega
    have hgen : ∀ l : List Field, (∀ f ∈ l, f ∈ fs.toList) → (forIn l PUnit.unit fun (f : Field) (_ : PUnit) =>
        if f.name = "_" then (pure (ForInStep.yield PUnit.unit) : Sem (ForInStep PUnit))
        else do
          let v ← part f.type cs f.offset
          (fun _ => ForInStep.yield PUnit.unit) <$> Instr.checkKey e (n + 1) f.type v).run P w = .ok PUnit.unit w := by
      intro l hl
      induction l with
      | nil => exact run_forIn_nil _ _ _
      | cons f l ih =>
        obtain ⟨⟨d, hd1, hd2⟩, hn⟩ := hfs f (hl f (by simp))
        have ho := hoff f (hl f (by simp))
        rw [run_forIn_cons]
        simp only [hn, if_false, Sem.run_bind, part_flat hd1 hd2 ho, Result.andThen_ok, Sem.run_map, checkKey_flat hd1 hd2]
        exact ih fun g hg => hl g (by simp [hg])
    have := hgen fs.toList (fun f hf => hf)
    simp only [Array.forIn_toList] at this
    rw [Instr.checkKey]
    simp only [Sem.run_bind, run_und hu, Result.andThen_ok]
    simp
    rw [this]
    rfl

theorem checkKey_ok {ι : Inj} {ρ : RoMap} {kt : Nat} {k : AVal} {v : Value} {e : Bool} (hs : keySimple P kt = true) (hf : keyFits P kt k = true) (hv : VRel ι ρ k v) :
    (Instr.checkKey e 10000 kt v).run P w = .ok () w := checkKey_in (n := 9998) hs hf hv
end

section
variable {F : Fix} {ι : Inj} {h : AHeap} {w : World}

def OptRel (ι : Inj) (ρ : RoMap) : Option (Nat × AVal) → Option (Nat × Value) → Prop
  | none, none => True
  | some (i, a), some (j, v) => i = j ∧ VRel ι ρ a v
  | _, _ => False

def EntsRel (ι : Inj) (ρ : RoMap) : List (AVal × AVal) → List MapEntry → Prop
  | [], l => l = []
  | x :: xs, l => ∃ y ys, l = y :: ys ∧ VRel ι ρ x.1 y.key ∧ VRel ι ρ x.2 y.val ∧ EntsRel ι ρ xs ys

theorem EntsRel.of {ι : Inj} {ρ : RoMap} : ∀ {es : List (AVal × AVal)} {ents : List MapEntry}, ents.length = es.length →
    (∀ (j : Nat) (x : AVal × AVal), es[j]? = some x → ∃ y : MapEntry, ents[j]? = some y ∧ VRel ι ρ x.1 y.key ∧ VRel ι ρ x.2 y.val) → EntsRel ι ρ es ents
  | [], ents, hl, _ => by simp at hl; simp [EntsRel, hl]
  | x :: xs, [], hl, _ => by simp at hl
  | x :: xs, y :: ys, hl, hh => by
    obtain ⟨z, z1, z2, z3⟩ := hh 0 x rfl
    simp at z1; subst z1
    exact ⟨y, ys, rfl, z2, z3, EntsRel.of (by simpa using hl) fun j x hj => by
      obtain ⟨z, z1, z2⟩ := hh (j + 1) x (by simpa using hj); exact ⟨z, by simpa using z1, z2⟩⟩

theorem findR_ok (ok : F.Ok) (r : Rel F ι h w) {kt : Nat} {k : AVal} {kv : Value} (hk : VRel ι F.ρ k kv) : ∀ (es : List (AVal × AVal)) (ents : List MapEntry) (i : Nat) (res : Option (Nat × AVal)),
    findR F.c h kt k es i = .ok res → EntsRel ι F.ρ es ents → ∃ res', (Instr.findAsking kt kv ents i).run F.c.P w = .ok res' w ∧ OptRel ι F.ρ res res'
  | [], ents, i, res, hq, he => by
    simp [findR] at hq; subst hq
    simp [EntsRel] at he; subst he
    exact ⟨none, by simp [Instr.findAsking], trivial⟩
  | x :: xs, ents, i, res, hq, he => by
    unfold findR at hq
    obtain ⟨b, hb, hq⟩ := Res.bind_ok hq
    obtain ⟨y, ys, rfl, h1, h2, h3⟩ := he
    have hrun := eqIn_ok ok r 10000 kt k x.1 kv y.key b hb hk h1
    cases b with
    | true =>
      cases hq
      exact ⟨some (i, y.val), by simp [Instr.findAsking, Op.equal, Op.maxDepth, hrun], rfl, h2⟩
    | false =>
      obtain ⟨res', r1, r2⟩ := findR_ok ok r hk xs ys (i + 1) res hq h3
      exact ⟨res', by simp [Instr.findAsking, Op.equal, Op.maxDepth, hrun, r1], r2⟩

theorem mapTypes_ok {P : Program} {t : Nat} {kt : Nat × Nat} (hq : mapTypes P t = .ok kt) : P.underlying t = some (.map kt.1 kt.2) ∧ keySimple P kt.1 = true := by
  unfold mapTypes at hq
  obtain ⟨d, hd, hq⟩ := Res.bind_ok hq
  split at hq
  · split at hq
    · cases hq; exact ⟨undR_ok hd, by assumption⟩
    · cases hq
  · cases hq

theorem keySimple_und {P : Program} {t : Nat} (hq : keySimple P t = true) : ∃ d, P.underlying t = some d := by
  rcases keySimple_eq hq with ⟨d, h1, _⟩ | ⟨fs, h1, _⟩ <;> exact ⟨_, h1⟩

/-- constants -/
theorem toA1_ok {ρ : RoMap} {v : Value} {a : AVal} (hq : toA1 v = some a) : VRel ι ρ a v ∧ oneC v = true ∧ a.isCell = true := by
  unfold toA1 at hq
  split at hq <;> cases hq <;> simp [VRel, oneC, AVal.isCell]

theorem toAs_ok {ρ : RoMap} : ∀ {l : List Value} {as : List AVal}, toAs l = some as → VRels ι ρ as l ∧ ∀ v ∈ l, oneC v = true
  | [], as, hq => by simp [toAs] at hq; subst hq; exact ⟨rfl, by simp⟩
  | v :: l, as, hq => by
    unfold toAs at hq
    split at hq
    · rename_i a rr h1 h2
      cases hq
      obtain ⟨a1, a2⟩ := toAs_ok (ρ := ρ) h2
      obtain ⟨b1, b2, _⟩ := toA1_ok (ρ := ρ) (ι := ι) h1
      exact ⟨⟨v, l, rfl, b1, a1⟩, by simpa [b2] using a2⟩
    · cases hq

theorem toA_ok {ρ : RoMap} {v : Value} {a : AVal} (hq : toA v = some a) : VRel ι ρ a v := by
  unfold toA at hq
  split at hq
  · rename_i cs
    cases hl : toAs cs.toList with
    | none => simp [hl] at hq
    | some l =>
      simp [hl] at hq; subst hq
      obtain ⟨h1, h2⟩ := toAs_ok (ρ := ρ) (ι := ι) hl
      exact ⟨cs, rfl, h1, h2⟩
  · exact (toA1_ok hq).1

theorem zeroV_ok {P : Program} {ρ : RoMap} {t : Nat} {a : AVal} (hq : zeroV P t = .ok a) : ∃ z, (∀ w, (zeroValue t).run P w = .ok z w) ∧ VRel ι ρ a z := by
  unfold zeroV at hq
  obtain ⟨i, h1, hq⟩ := Res.bind_ok hq
  obtain ⟨z, h2, hq⟩ := Res.bind_ok hq
  exact ⟨z, fun w => run_zero (infoR_ok h1) (ofOpt_ok h2) w, toA_ok (ofOpt_ok hq)⟩

theorem zeroCells_ok {P : Program} {ρ : RoMap} {t : Nat} {cs : List AVal} (hq : zeroCellsR P t = .ok cs) :
    ∃ z, (∀ w, (zeroValue t).run P w = .ok z w) ∧ VRels ι ρ cs z.cells.toList ∧ ∀ x ∈ z.cells.toList, oneC x = true := by
  unfold zeroCellsR at hq
  obtain ⟨a, h1, h2⟩ := Res.bind_ok hq
  obtain ⟨z, h3, h4⟩ := zeroV_ok (ι := ι) (ρ := ρ) h1
  exact ⟨z, h3, h4.cells h2⟩

theorem entriesR_ok {x : AVal} {es : List (AVal × AVal)} (hq : entriesR h x = .ok es) : (x = .nilm ∧ es = []) ∨ ∃ o, x = .map o ∧ h.get o = some (.map es) := by
  unfold entriesR at hq
  split at hq
  · cases hq; exact .inl ⟨rfl, rfl⟩
  · split at hq
    · cases hq; exact .inr ⟨_, rfl, by assumption⟩
    · cases hq
  · cases hq

theorem lookup_ok (ok : F.Ok) (r : Rel F ι h w) {t : Nat} {x k res : AVal} {cok : Bool} {xv kv : Value} (hq : lookupR F.c h t x k cok = .ok res) (hx : VRel ι F.ρ x xv) (hk : VRel ι F.ρ k kv) :
    ∃ v, (Instr.lookup t xv kv cok).run F.c.P w = .ok v w ∧ VRel ι F.ρ res v := by
  unfold lookupR at hq
  obtain ⟨kt, h1, hq⟩ := Res.bind_ok hq
  obtain ⟨es, h2, hq⟩ := Res.bind_ok hq
  obtain ⟨hu, hs⟩ := mapTypes_ok h1
  split at hq
  · cases hq
  rename_i hf
  have hf : keyFits F.c.P kt.1 k = true := by simpa using hf
  obtain ⟨fr, h3, hq⟩ := Res.bind_ok hq
  obtain ⟨kd, hkd⟩ := keySimple_und hs
  have htail : ∀ ents : Array MapEntry, EntsRel ι F.ρ es ents.toList → ∃ v, ((do
      Instr.checkKey ents.isEmpty 10000 kt.1 kv
      let (v, ok) ← match ← Instr.findKey kt.1 kv ents.toList with
        | some (_, v) => pure (v, true)
        | none => pure (← zeroValue kt.2, false)
      pure (if cok then .tuple #[v, .bool ok] else v)) : Sem Value).run F.c.P w = .ok v w ∧ VRel ι F.ρ res v := by
    intro ents e2
    obtain ⟨res', f1, f2⟩ := findR_ok ok r hk es ents.toList 0 fr h3 e2
    simp only [Sem.run_bind, Result.andThen_ok, checkKey_ok hs hf hk, findKey_eq hkd, f1]
    cases fr with
    | none =>
      cases res' with
      | some p => exact f2.elim
      | none =>
        obtain ⟨z, z1, z2⟩ := Res.bind_ok hq
        obtain ⟨zv, y1, y2⟩ := zeroV_ok (ι := ι) (ρ := F.ρ) z1
        cases z2
        cases cok
        · exact ⟨zv, by simp [y1], y2⟩
        · exact ⟨.tuple #[zv, .bool false], by simp [y1], ⟨_, rfl, ⟨zv, _, rfl, y2, ⟨_, _, rfl, rfl, rfl⟩⟩⟩⟩
    | some p =>
      obtain ⟨i, a⟩ := p
      cases res' with
      | none => exact f2.elim
      | some p' =>
        obtain ⟨j, v⟩ := p'
        cases hq
        cases cok
        · exact ⟨v, by simp, f2.2⟩
        · exact ⟨.tuple #[v, .bool true], by simp, ⟨_, rfl, ⟨v, _, rfl, f2.2, ⟨_, _, rfl, rfl, rfl⟩⟩⟩⟩
  rcases entriesR_ok h2 with ⟨rfl, rfl⟩ | ⟨o, rfl, ho⟩
  · simp only [VRel] at hx; subst hx
    obtain ⟨v, v1, v2⟩ := htail #[] rfl
    refine ⟨v, ?_, v2⟩
    rw [← v1]
    simp only [Instr.lookup, Sem.run_bind, run_und hu, Result.andThen_ok, Sem.run_pure]
    rfl
  · obtain ⟨e, he, rfl⟩ := hx
    obtain ⟨e', g1, _, g⟩ := r.obj o _ ho
    rw [he] at g1; cases g1
    obtain ⟨ents, clock, g3, g4, _, g5⟩ := g
    obtain ⟨v, v1, v2⟩ := htail ents (EntsRel.of (by simpa using g4) (by simpa using g5))
    refine ⟨v, ?_, v2⟩
    rw [← v1]
    have hg : (getObj e.blk).run F.c.P w = .ok (.map ents clock) w := by simp [getObj, Sem.run, g3]
    simp only [Instr.lookup, Sem.run_bind, run_und hu, Result.andThen_ok, Sem.run_pure, hg]
    rfl

theorem setVal_get (es : List (AVal × AVal)) (i : Nat) (v : AVal) (j : Nat) : (setVal es i v)[j]? = (es[j]?).map fun x => if j = i then (x.1, v) else x := by
  induction es generalizing i j with
  | nil => cases i <;> simp [setVal]
  | cons e es ih =>
    cases i with
    | zero => cases j with
      | zero => simp [setVal]
      | succ j => simp [setVal]
    | succ i => cases j with
      | zero => simp [setVal]
      | succ j => simp [setVal, ih]

theorem setVal_length (es : List (AVal × AVal)) (i : Nat) (v : AVal) : (setVal es i v).length = es.length := by
  induction es generalizing i with
  | nil => cases i <;> rfl
  | cons e es ih => cases i <;> simp [setVal, ih]

end
end Go.Proofs.Ytbnlhhfobgjeaaa
