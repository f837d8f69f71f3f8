/-
  What is put into maps and taken out; slices, places, values that are built; conversions.
-/
import Derived.Test.YtbnlhhfobgjeaaaZzOp3
set_option linter.all false
namespace Go.Proofs.Ytbnlhhfobgjeaaa
open Go Go.RowKit

mutual
theorem AVal.beq_eq : ∀ a b : AVal, AVal.beq a b = true → a = b
  | .dead, b, h => by cases b <;> simp [AVal.beq] at h ⊢
  | .cell l, b, h => by cases b <;> simp [AVal.beq] at h ⊢; exact AVal.beqs_eq l _ h
  | .loc _ _, b, h => by cases b <;> simp [AVal.beq] at h ⊢; exact h
  | .bool _, b, h => by cases b <;> simp [AVal.beq] at h ⊢; exact h
  | .int _ _, b, h => by cases b <;> simp [AVal.beq] at h ⊢; exact h
  | .float _ _, b, h => by cases b <;> simp [AVal.beq] at h ⊢; exact h
  | .cplx _ _ _, b, h => by cases b <;> simp [AVal.beq] at h ⊢; exact ⟨h.1.1, h.1.2, h.2⟩
  | .str _, b, h => by cases b <;> simp [AVal.beq] at h ⊢; exact h
  | .nilp, b, h => by cases b <;> simp [AVal.beq] at h ⊢
  | .ptr _ _, b, h => by cases b <;> simp [AVal.beq] at h ⊢; exact h
  | .rptr _ _, b, h => by cases b <;> simp [AVal.beq] at h ⊢; exact h
  | .nils, b, h => by cases b <;> simp [AVal.beq] at h ⊢
  | .sl _ _ _, b, h => by cases b <;> simp [AVal.beq] at h ⊢; exact ⟨h.1.1, h.1.2, h.2⟩
  | .slc _ _ _ _, b, h => by cases b <;> simp [AVal.beq] at h ⊢; exact ⟨h.1.1.1, h.1.1.2, h.1.2, h.2⟩
  | .rsl _ _ _, b, h => by cases b <;> simp [AVal.beq] at h ⊢; exact ⟨h.1.1, h.1.2, h.2⟩
  | .nilm, b, h => by cases b <;> simp [AVal.beq] at h ⊢
  | .map _, b, h => by cases b <;> simp [AVal.beq] at h ⊢; exact h
  | .func _ l m, b, h => by cases b <;> simp [AVal.beq] at h ⊢; exact ⟨h.1.1, AVal.beqs_eq l _ h.1.2, AVal.beqs_eq m _ h.2⟩
  | .nilf, b, h => by cases b <;> simp [AVal.beq] at h ⊢
  | .iface _ x, b, h => by cases b <;> simp [AVal.beq] at h ⊢; exact ⟨h.1, AVal.beq_eq x _ h.2⟩
  | .nili, b, h => by cases b <;> simp [AVal.beq] at h ⊢
  | .agg l, b, h => by cases b <;> simp [AVal.beq] at h ⊢; exact AVal.beqs_eq l _ h
  | .tuple l, b, h => by cases b <;> simp [AVal.beq] at h ⊢; exact AVal.beqs_eq l _ h
theorem AVal.beqs_eq : ∀ l m : List AVal, AVal.beqs l m = true → l = m
  | [], m, h => by cases m <;> simp [AVal.beqs] at h ⊢
  | a :: l, m, h => by
    cases m with
    | nil => simp [AVal.beqs] at h
    | cons b m => simp [AVal.beqs] at h; rw [AVal.beq_eq a b h.1, AVal.beqs_eq l m h.2]
end

mutual
theorem AVal.beq_refl : ∀ a : AVal, AVal.beq a a = true
  | .dead => rfl
  | .cell l => by simp [AVal.beq, AVal.beqs_refl l]
  | .loc _ _ => by simp [AVal.beq]
  | .bool _ => by simp [AVal.beq]
  | .int _ _ => by simp [AVal.beq]
  | .float _ _ => by simp [AVal.beq]
  | .cplx _ _ _ => by simp [AVal.beq]
  | .str _ => by simp [AVal.beq]
  | .nilp => rfl
  | .ptr _ _ => by simp [AVal.beq]
  | .rptr _ _ => by simp [AVal.beq]
  | .nils => rfl
  | .sl _ _ _ => by simp [AVal.beq]
  | .slc _ _ _ _ => by simp [AVal.beq]
  | .rsl _ _ _ => by simp [AVal.beq]
  | .nilm => rfl
  | .map _ => by simp [AVal.beq]
  | .func _ l m => by simp [AVal.beq, AVal.beqs_refl l, AVal.beqs_refl m]
  | .nilf => rfl
  | .iface _ x => by simp [AVal.beq, AVal.beq_refl x]
  | .nili => rfl
  | .agg l => by simp [AVal.beq, AVal.beqs_refl l]
  | .tuple l => by simp [AVal.beq, AVal.beqs_refl l]
theorem AVal.beqs_refl : ∀ l : List AVal, AVal.beqs l l = true
  | [] => rfl
  | a :: l => by simp [AVal.beqs, AVal.beq_refl a, AVal.beqs_refl l]
end

section
variable {F : Fix} {ι : Inj} {h : AHeap} {w : World}

/-- a map's block is another one now -/
theorem Rel.setMap (r : Rel F ι h w) {o : Nat} {es es' : List (AVal × AVal)} {e : Ent} {ents ents' : Array MapEntry} {clock clock' : Nat} (ho : h.get o = some (.map es)) (he : ι o = some e) (hb : e.base = 0)
    (hg : w.heap[e.blk]? = some (.map ents clock)) (hl : ents'.size = es'.length)
    (hr : ∀ (j : Nat) (x : AVal × AVal), es'[j]? = some x → ∃ y : MapEntry, ents'[j]? = some y ∧ VRel ι F.ρ x.1 y.key ∧ VRel ι F.ρ x.2 y.val) :
    (setObj e.blk (.map ents' clock')).run F.c.P w = .ok () { w with heap := w.heap.setIfInBounds e.blk (.map ents' clock') } ∧
    Rel F ι (h.set o (.map es')) { w with heap := w.heap.setIfInBounds e.blk (.map ents' clock') } ∧ Step ι h w ι (h.set o (.map es')) { w with heap := w.heap.setIfInBounds e.blk (.map ents' clock') } := by
  have hlt : e.blk < w.heap.size := (Array.getElem?_eq_some_iff.1 hg).1
  refine ⟨by simp [setObj, Sem.run, hg], r.set (.map es') ho he ⟨rfl, rfl, rfl, by simp, ?_⟩ ?_⟩
  · intro k _ hk
    simp [Ne.symm hk]
  · exact ⟨ents', clock', by simp [hlt], hl, hb, hr⟩

theorem mapUpdate_ok (ok : F.Ok) (r : Rel F ι h w) {t : Nat} {x k v : AVal} {h' : AHeap} {xv kv vv : Value} (hq : mapUpdateR F.c h t x k v = .ok h') (hx : VRel ι F.ρ x xv) (hk : VRel ι F.ρ k kv) (hv : VRel ι F.ρ v vv) :
    ∃ w', (Instr.mapUpdate t xv kv vv).run F.c.P w = .ok () w' ∧ Rel F ι h' w' ∧ Step ι h w ι h' w' := by
  unfold mapUpdateR at hq
  split at hq
  rotate_left; · cases hq
  rename_i o
  split at hq
  rotate_left; · cases hq
  rename_i es ho
  obtain ⟨kt, h1, hq⟩ := Res.bind_ok hq
  obtain ⟨hu, hs⟩ := mapTypes_ok h1
  split at hq
  · cases hq
  rename_i hf
  have hf : keyFits F.c.P kt.1 k = true := by simpa using hf
  obtain ⟨fr, h3, hq⟩ := Res.bind_ok hq
  obtain ⟨kd, hkd⟩ := keySimple_und hs
  obtain ⟨e, he, rfl⟩ := hx
  obtain ⟨e', g1, _, g⟩ := r.obj o _ ho
  rw [he] at g1; cases g1
  obtain ⟨ents, clock, g3, g4, g6, g5⟩ := g
  have hg : (getObj e.blk).run F.c.P w = .ok (.map ents clock) w := by simp [getObj, Sem.run, g3]
  obtain ⟨res', f1, f2⟩ := findR_ok ok r hk es ents.toList 0 fr h3 (EntsRel.of (by simpa using g4) (by simpa using g5))
  cases fr with
  | none =>
    cases res' with
    | some p => exact f2.elim
    | none =>
      cases hq
      obtain ⟨s1, s2⟩ := Rel.setMap (es' := es ++ [(k, v)]) (ents' := ents.push { key := kv, val := vv, born := clock }) (clock' := clock + 1) r ho he g6 g3 (by simp [g4]) (fun j y hj => by
        rw [List.getElem?_append] at hj
        split at hj
        · rename_i hlt
          obtain ⟨z, z1, z2⟩ := g5 j y hj
          exact ⟨z, by rw [Array.getElem?_push, if_neg (by omega)]; exact z1, z2⟩
        · rename_i hlt
          have : j = es.length := by
            by_cases hj0 : j - es.length = 0
            · omega
            · rw [List.getElem?_cons] at hj; simp [hj0] at hj
          subst this
          simp at hj; subst hj
          exact ⟨{ key := kv, val := vv, born := clock }, by rw [Array.getElem?_push, if_pos g4.symm], hk, hv⟩)
      refine ⟨_, ?_, s2⟩
      simp only [Instr.mapUpdate, Sem.run_bind, run_und hu, Result.andThen_ok, hg, checkKey_ok hs hf hk, findKey_eq hkd, f1, s1]
  | some p =>
    obtain ⟨i, a⟩ := p
    cases res' with
    | none => exact f2.elim
    | some p' =>
      obtain ⟨j, vo⟩ := p'
      obtain ⟨rfl, hvo⟩ := f2
      simp only at hq
      split at hq
      rotate_left; · cases hq
      rename_i x hxi
      split at hq
      rotate_left; · cases hq
      rename_i hbeq
      cases hq
      obtain rfl := AVal.beq_eq _ _ hbeq
      obtain ⟨y, y1, y2, y3⟩ := g5 i x hxi
      have hold : (((ents[i]?).map (·.key)).getD kv) = y.key := by rw [y1]; rfl
      have hstay : ∃ key', ∃ n, (Instr.keyThatStays y.key kv).run F.c.P w = .ok key' { w with drawn := n } ∧ VRel ι F.ρ x.1 key' := by
        unfold Instr.keyThatStays
        split
        · exact ⟨kv, w.drawn, rfl, hk⟩
        · simp only [Sem.run_bind, run_choose, Question.forced]
          simp only [show (2 = 1) = False by simp, decide_false, Bool.false_eq_true, if_false, Result.andThen_ok, Sem.run_pure]
          split
          · exact ⟨kv, w.drawn + 1, rfl, hk⟩
          · exact ⟨y.key, w.drawn + 1, rfl, y2⟩
      obtain ⟨key', n, k1, k2⟩ := hstay
      obtain ⟨s1, s2⟩ := Rel.setMap (w := { w with drawn := n }) (es' := setVal es i v) (ents' := ents.modify i fun e => { e with key := key', val := vv }) (clock' := clock) (r.drawn n) ho he g6 g3 (by simp [setVal_length, g4]) (fun j z hj => by
        rw [setVal_get] at hj
        cases hej : es[j]? with
        | none => simp [hej] at hj
        | some u =>
          simp [hej] at hj
          obtain ⟨z', z1, z2, z3⟩ := g5 j u hej
          by_cases hji : j = i
          · subst hji
            rw [hej] at hxi; cases hxi
            simp at hj; subst hj
            exact ⟨{ z' with key := key', val := vv }, by rw [Array.getElem?_modify, if_pos rfl, z1]; rfl, k2, hv⟩
          · simp [hji] at hj; subst hj
            exact ⟨z', by rw [Array.getElem?_modify, if_neg (Ne.symm hji)]; exact z1, z2, z3⟩)
      refine ⟨_, ?_, s2.1, (Step.drawn ι h w n).trans s2.2⟩
      simp only [Instr.mapUpdate, Sem.run_bind, run_und hu, Result.andThen_ok, hg, checkKey_ok hs hf hk, findKey_eq hkd, f1, hold, k1, s1]

theorem delete_ok (ok : F.Ok) (r : Rel F ι h w) {t : Nat} {x k v : AVal} {h' : AHeap} {xv kv : Value} {ts : Array TypeId} {ty : TypeId} (hts : ts[0]? = some t) (hq : deleteR F.c h t x k = .ok (v, h')) (hx : VRel ι F.ρ x xv) (hk : VRel ι F.ρ k kv) :
    ∃ w', (Builtin.delete_ ts ty #[xv, kv]).run F.c.P w = .ok (.tuple #[]) w' ∧ v = .tuple [] ∧ Rel F ι h' w' ∧ Step ι h w ι h' w' := by
  unfold deleteR at hq
  split at hq
  · rename_i o
    split at hq
    rotate_left; · cases hq
    rename_i es ho
    obtain ⟨kt, h1, hq⟩ := Res.bind_ok hq
    obtain ⟨hu, hs⟩ := mapTypes_ok h1
    split at hq
    · cases hq
    rename_i hf
    have hf : keyFits F.c.P kt.1 k = true := by simpa using hf
    obtain ⟨fr, h3, hq⟩ := Res.bind_ok hq
    obtain ⟨kd, hkd⟩ := keySimple_und hs
    obtain ⟨e, he, rfl⟩ := hx
    obtain ⟨e', g1, _, g⟩ := r.obj o _ ho
    rw [he] at g1; cases g1
    obtain ⟨ents, clock, g3, g4, g6, g5⟩ := g
    have hg : (getObj e.blk).run F.c.P w = .ok (.map ents clock) w := by simp [getObj, Sem.run, g3]
    obtain ⟨res', f1, f2⟩ := findR_ok ok r hk es ents.toList 0 fr h3 (EntsRel.of (by simpa using g4) (by simpa using g5))
    cases fr with
    | none =>
      cases res' with
      | some p => exact f2.elim
      | none =>
        cases hq
        have hset : (setObj e.blk (.map ents clock)).run F.c.P w = .ok () w := by
          have hlt : e.blk < w.heap.size := (Array.getElem?_eq_some_iff.1 g3).1
          have hsame : w.heap.setIfInBounds e.blk (.map ents clock) = w.heap := by
            apply Array.ext_getElem?
            intro k
            rw [Array.getElem?_setIfInBounds]
            split
            · rename_i hk; subst hk; first | rw [if_pos hlt, g3] | rw [g3]
            · rfl
          simp only [setObj, Sem.run, g3, hsame]
        refine ⟨w, ?_, rfl, r, Step.refl _ _ _⟩
        simp [Builtin.delete_, hts, Sem.run_bind, run_und hu, Result.andThen_ok, hg, checkKey_ok hs hf hk, findKey_eq hkd, f1, hset]
    | some p =>
      obtain ⟨i, a⟩ := p
      cases res' with
      | none => exact f2.elim
      | some p' =>
        obtain ⟨j, vo⟩ := p'
        obtain ⟨rfl, hvo⟩ := f2
        cases hq
        obtain ⟨s1, s2⟩ := Rel.setMap (es' := es.eraseIdx i) (ents' := ents.eraseIdxIfInBounds i) (clock' := clock) r ho he g6 g3 (by
            by_cases hlt : i < ents.size
            · simp only [Array.eraseIdxIfInBounds, hlt, dif_pos, Array.size_eraseIdx, List.length_eraseIdx, g4.symm, if_true]
            · simp only [Array.eraseIdxIfInBounds, hlt, dif_neg, not_false_eq_true, List.length_eraseIdx, g4.symm, if_false]) (fun j z hj => by
          simp only [Array.eraseIdxIfInBounds]
          rw [List.getElem?_eraseIdx] at hj
          split
          · rename_i hlt
            rw [Array.getElem?_eraseIdx]
            split at hj
            · rename_i hji; simp only [hji, if_true]; exact g5 j z hj
            · rename_i hji; simp only [hji, if_false]; exact g5 (j + 1) z hj
          · rename_i hlt
            split at hj
            · exact g5 j z hj
            · exfalso
              have := (List.getElem?_eq_some_iff.1 hj).1
              omega)
        refine ⟨_, ?_, rfl, s2⟩
        simp [Builtin.delete_, hts, Sem.run_bind, run_und hu, Result.andThen_ok, hg, checkKey_ok hs hf hk, findKey_eq hkd, f1, s1]
  · obtain ⟨kt, h1, hq⟩ := Res.bind_ok hq
    obtain ⟨hu, hs⟩ := mapTypes_ok h1
    split at hq
    · cases hq
    rename_i hf
    have hf : keyFits F.c.P kt.1 k = true := by simpa using hf
    cases hq
    simp only [VRel] at hx; subst hx
    refine ⟨w, ?_, rfl, r, Step.refl _ _ _⟩
    simp [Builtin.delete_, hts, Sem.run_bind, run_und hu, Result.andThen_ok, checkKey_ok hs hf hk]
  · cases hq

end
end Go.Proofs.Ytbnlhhfobgjeaaa
