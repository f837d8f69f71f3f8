/-
  Operators: what the abstract machine makes of values is what the model makes of them.
-/
import Derived.Test.YtbnlhhfobgjeaaaZzMem
import Derived.Laws.Sem
import Derived.Laws.Strings
set_option linter.all false
namespace Go.Proofs.Ytbnlhhfobgjeaaa
open Go Go.RowKit

theorem ba_list (s : List UInt8) : (⟨s.toArray⟩ : ByteArray).toList = s := by
  rw [ByteArray.toList_eq]
theorem ba_size (s : List UInt8) : (⟨s.toArray⟩ : ByteArray).size = s.length := by simp [ByteArray.size]
theorem ba_append (s t : List UInt8) : (⟨s.toArray⟩ ++ ⟨t.toArray⟩ : ByteArray) = ⟨(s ++ t).toArray⟩ := by
  apply ByteArray.ext; simp
theorem ba_beq (s t : List UInt8) : ((⟨s.toArray⟩ : ByteArray) == ⟨t.toArray⟩) = (s == t) := by
  show ((s.toArray == t.toArray) : Bool) = _
  simp
theorem ba_get (s : List UInt8) (n : Nat) : (⟨s.toArray⟩ : ByteArray)[n]? = s[n]? := by
  simp [getElem?_def, ByteArray.getElem_eq_getElem_data, ba_size]
theorem ba_extract (s : List UInt8) (a b : Nat) : (⟨s.toArray⟩ : ByteArray).extract a b = ⟨((s.take b).drop a).toArray⟩ := by
  apply ByteArray.ext; simp [ByteArray.data_extract, List.extract_eq_take_drop, List.drop_take]

section
variable {P : Program} {ι : Inj} {ρ : RoMap} {w : World}

theorem intBin_ok {op : BinOp} {k : IntKind} {a b : Int} {r : AVal} (h : intBin op k a b = .ok r) (xt : Nat) :
    ∃ v, (binOp op xt (.int k a) (.int k b)).run P w = .ok v w ∧ VRel ι ρ r v := by
  cases op <;> simp only [intBin] at h
  case quo => split at h <;> cases h; rename_i hb; exact ⟨_, by simp [binOp, Op.intDiv, hb], rfl⟩
  case rem => split at h <;> cases h; rename_i hb; exact ⟨_, by simp [binOp, Op.intDiv, hb], rfl⟩
  all_goals cases h
  all_goals exact ⟨_, by simp [binOp, Op.intArith, Op.intBits, Op.intCmp], rfl⟩

theorem shift_ok {op : BinOp} {k k' : IntKind} {a b : Int} {r : AVal} (h : shiftBin op k a b = .ok r) (xt : Nat) :
    ∃ v, (binOp op xt (.int k a) (.int k' b)).run P w = .ok v w ∧ VRel ι ρ r v := by
  unfold shiftBin at h
  split at h
  · cases h
  · rename_i hb
    cases op <;> simp only at h <;> cases h
    all_goals exact ⟨_, by simp [binOp, Op.shift, hb], rfl⟩

theorem str_ok {op : BinOp} {a b : List UInt8} {r : AVal} (h : strBin op a b = .ok r) (xt : Nat) :
    ∃ v, (binOp op xt (.string ⟨a.toArray⟩) (.string ⟨b.toArray⟩)).run P w = .ok v w ∧ VRel ι ρ r v := by
  cases op <;> simp only [strBin] at h
  case add =>
    split at h <;> cases h; rename_i hb
    exact ⟨_, by simp only [binOp, Op.stringOp, ba_size, if_neg hb, ba_append, Sem.run_pure], rfl⟩
  all_goals cases h
  all_goals exact ⟨_, by simp only [binOp, Op.stringOp, ba_list, Sem.run_pure], rfl⟩

theorem float_ok {op : BinOp} {k : FloatKind} {a b : Nat} {r : AVal} (h : floatBin op k a b = .ok r) (xt : Nat) :
    ∃ v, (binOp op xt (.float k a) (.float k b)).run P w = .ok v w ∧ VRel ι ρ r v := by
  cases op <;> simp only [floatBin] at h
  case add => obtain ⟨z, hz, h⟩ := Res.bind_ok h; cases h; exact ⟨_, by simp [binOp, Op.floatArith, ofOpt_ok hz], rfl⟩
  case sub => obtain ⟨z, hz, h⟩ := Res.bind_ok h; cases h; exact ⟨_, by simp [binOp, Op.floatArith, ofOpt_ok hz], rfl⟩
  case mul => obtain ⟨z, hz, h⟩ := Res.bind_ok h; cases h; exact ⟨_, by simp [binOp, Op.floatArith, ofOpt_ok hz], rfl⟩
  case quo => obtain ⟨z, hz, h⟩ := Res.bind_ok h; cases h; exact ⟨_, by simp [binOp, Op.floatArith, ofOpt_ok hz], rfl⟩
  all_goals cases h
  all_goals exact ⟨_, by simp [binOp, Op.floatCmp], rfl⟩

theorem run_arith {op : BinOp} {k : FloatKind} {a b r : Nat} (h : (Op.floatArith op k a b).run P w = .ok (.float k r) w) : (Op.Complex.arith op k a b).run P w = .ok r w := by
  simp [Op.Complex.arith, h]

theorem cplx_ok {op : BinOp} {k : FloatKind} {a b c d : Nat} {r : AVal} (h : cplxBin op k a b c d = .ok r) (xt : Nat) :
    ∃ v, (binOp op xt (.complex k a b) (.complex k c d)).run P w = .ok v w ∧ VRel ι ρ r v := by
  unfold cplxBin at h
  split at h
  · obtain ⟨x, hx, h⟩ := Res.bind_ok h; obtain ⟨y, hy, h⟩ := Res.bind_ok h; cases h
    exact ⟨_, by simp [binOp, Op.complexOp, Op.Complex.arith, Op.floatArith, ofOpt_ok hx, ofOpt_ok hy], rfl⟩
  · obtain ⟨x, hx, h⟩ := Res.bind_ok h; obtain ⟨y, hy, h⟩ := Res.bind_ok h; cases h
    exact ⟨_, by simp [binOp, Op.complexOp, Op.Complex.arith, Op.floatArith, ofOpt_ok hx, ofOpt_ok hy], rfl⟩
  · obtain ⟨x1, h1, h⟩ := Res.bind_ok h; obtain ⟨x2, h2, h⟩ := Res.bind_ok h; obtain ⟨x3, h3, h⟩ := Res.bind_ok h
    obtain ⟨x4, h4, h⟩ := Res.bind_ok h; obtain ⟨x5, h5, h⟩ := Res.bind_ok h; obtain ⟨x6, h6, h⟩ := Res.bind_ok h; cases h
    exact ⟨_, by simp [binOp, Op.complexOp, Op.Complex.conv, Op.Complex.product, Op.Complex.mul, Op.Complex.sub, Op.Complex.add, Op.Complex.arith, Op.floatArith, ofOpt_ok h1, ofOpt_ok h2, ofOpt_ok h3, ofOpt_ok h4, ofOpt_ok h5, ofOpt_ok h6], rfl⟩
  · cases h
    exact ⟨_, by simp [binOp, Op.complexOp, Op.Complex.cmp, Op.floatCmp, asBool], rfl⟩
  · cases h
    exact ⟨_, by simp [binOp, Op.complexOp, Op.Complex.cmp, Op.floatCmp, asBool], rfl⟩
  · cases h

theorem un_ok {op : UnOp} {a r : AVal} {x : Value} (h : unR op a = .ok r) (hx : VRel ι ρ a x) : ∃ v, (Op.unary op x).run P w = .ok v w ∧ VRel ι ρ r v := by
  unfold unR at h
  split at h <;> cases h <;> simp only [VRel] at hx <;> subst hx
  all_goals exact ⟨_, by simp [Op.unary, Op.intArith, Op.intBits], rfl⟩

/-! ### equality -/
theorem sizeNonzero_ok {t : Nat} (h : sizeNonzero P t = true) : ∃ i, P.info? t = some i ∧ i.size ≠ 0 := by
  unfold sizeNonzero at h
  split at h
  · exact ⟨_, by assumption, by simpa using h⟩
  · cases h

end

section
variable {F : Fix} {ι : Inj} {h : AHeap} {w : World}

theorem ptrEq_ok (r : Rel F ι h w) {o off o' off' : Nat} {b : Bool} (hb : ptrEq h o off o' off' = .ok b) {x y : Addr}
    (hx : VRel ι F.ρ (.ptr o off) (.pointer (some x))) (hy : VRel ι F.ρ (.ptr o' off') (.pointer (some y))) : (sameAddr x y).run F.c.P w = .ok b w := by
  obtain ⟨e, he, hxe⟩ := hx
  obtain ⟨f, hf, hyf⟩ := hy
  simp at hxe hyf
  subst hxe; subst hyf
  unfold ptrEq at hb
  by_cases ho : o = o'
  · subst ho
    rw [he] at hf; cases hf
    simp at hb; subst hb
    have hb : ((⟨e.blk, e.base + off, none⟩ : Addr) == ⟨e.blk, e.base + off', none⟩) = (off == off') := by rw [Bool.eq_iff_iff, beq_iff_eq, beq_iff_eq]; simp
    simp only [sameAddr, beq_self_eq_true, if_true, hb, Sem.run_pure]
  · simp only [ho, if_false] at hb
    split at hb
    · rename_i ez vs ez' vs' h1 h2
      cases hb
      obtain ⟨e', g1, _, g3⟩ := r.obj o _ h1
      obtain ⟨f', k1, _, k3⟩ := r.obj o' _ h2
      rw [he] at g1; cases g1
      rw [hf] at k1; cases k1
      have hne : e.blk ≠ f.blk := fun hb => ho (r.inj o o' _ _ e f h1 h2 he hf hb)
      obtain ⟨c, T, fr, a1, _, _, _, a5, _⟩ := g3
      obtain ⟨c', T', fr', b1, _, _, _, b5, _⟩ := k3
      have a5 := a5 rfl; subst a5
      have b5 := b5 rfl; subst b5
      simp [sameAddr, hne, World.frozen?, a1, b1, noView, viewAt, World.shape?, mayBeOne, stringish]
    · cases hb

theorem eq1_ok (r : Rel F ι h w) {d : TypeDesc} {t n : Nat} {a b : AVal} {x y : Value} {res : Bool} (hu : F.c.P.underlying t = some d) (hf : fits1 F.c.P d a b = true)
    (hq : eq1 h a b = .ok res) (hx : VRel ι F.ρ a x) (hy : VRel ι F.ρ b y) : (Op.equalIn (n + 1) t x y).run F.c.P w = .ok res w := by
  unfold fits1 at hf
  split at hf
  case h_1 => simp only [VRel] at hx hy; subst hx; subst hy; simp only [eq1] at hq; cases hq; simp [Op.equalIn, run_und hu]
  case h_2 => simp only [VRel] at hx hy; subst hx; subst hy; simp only [eq1] at hq; split at hq <;> cases hq; rename_i hk; subst hk; simp [Op.equalIn, run_und hu]
  case h_3 => simp only [VRel] at hx hy; subst hx; subst hy; simp only [eq1] at hq; cases hq; simp only [Op.equalIn, Sem.run_bind, run_und hu, Result.andThen_ok, Sem.run_pure, ba_beq]
  case h_4 => simp only [VRel] at hx hy; subst hx; subst hy; simp only [eq1] at hq; split at hq <;> cases hq; rename_i hk; subst hk; simp [Op.equalIn, run_und hu, Op.floatEq]
  case h_5 => simp only [VRel] at hx hy; subst hx; subst hy; simp only [eq1] at hq; split at hq <;> cases hq; rename_i hk; subst hk; simp [Op.equalIn, run_und hu, Op.floatEq]
  case h_6 => simp only [VRel] at hx hy; subst hx; subst hy; simp only [eq1] at hq; cases hq; simp [Op.equalIn, run_und hu]
  case h_7 => simp only [VRel] at hx; obtain ⟨e, he, rfl⟩ := hy; subst hx; simp only [eq1] at hq; cases hq; simp [Op.equalIn, run_und hu]
  case h_8 => simp only [VRel] at hy; obtain ⟨e, he, rfl⟩ := hx; subst hy; simp only [eq1] at hq; cases hq; simp [Op.equalIn, run_und hu]
  case h_9 =>
    obtain ⟨e, he, rfl⟩ := hx
    obtain ⟨f, hf', rfl⟩ := hy
    obtain ⟨i, hi, hi0⟩ := sizeNonzero_ok hf
    simp only [eq1] at hq
    have := ptrEq_ok r hq ⟨e, he, rfl⟩ ⟨f, hf', rfl⟩
    simp only [Op.equalIn, Sem.run_bind, run_und hu, Result.andThen_ok, run_sizeOf' hi, ne_eq, hi0, not_false_eq_true, if_true, this]
  case h_10 => cases hf

end
end Go.Proofs.Ytbnlhhfobgjeaaa
