/-
  The entry: a call from outside.
-/
import Derived.Test.YtbnlhhfobgjeaaaZzDraw4
import Derived.ChangeSame
import Derived.Below
set_option linter.all false
namespace Go.Proofs.Ytbnlhhfobgjeaaa
open Go Go.RowKit

@[irreducible] def roBase : Nat := 1000000

/-- a place by one number -/
def encP (b o : Nat) : Nat := (b + o) * (b + o) + b
theorem encP_inj {b o b' o' : Nat} (h : encP b o = encP b' o') : b = b' ∧ o = o' := by
  unfold encP at h
  have h1 : ∀ {s b t b' : Nat}, b ≤ s → b' ≤ t → s * s + b = t * t + b' → ¬ s < t := by
    intro s b t b' hb hb' he hlt
    have h2 : (s + 1) * (s + 1) ≤ t * t := Nat.mul_le_mul hlt hlt
    have h3 : (s + 1) * (s + 1) = s * s + 2 * s + 1 := by rw [Nat.add_mul, Nat.mul_add]; omega
    omega
  have h2 := h1 (Nat.le_add_right b o) (Nat.le_add_right b' o') h
  have h3 := h1 (Nat.le_add_right b' o') (Nat.le_add_right b o) h.symm
  have h4 : b + o = b' + o' := by omega
  rw [h4] at h
  omega
noncomputable def decP (r : Nat) : Nat × Nat := @dite _ (∃ p : Nat × Nat, encP p.1 p.2 = r) (Classical.propDecidable _) (fun h => Classical.choose h) (fun _ => (0, 0))
theorem decP_enc (b o : Nat) : decP (encP b o) = (b, o) := by
  unfold decP
  have h : ∃ p : Nat × Nat, encP p.1 p.2 = encP b o := ⟨(b, o), rfl⟩
  rw [dif_pos h]
  have h1 := Classical.choose_spec h
  obtain ⟨h2, h3⟩ := encP_inj h1
  exact Prod.ext h2 h3

/-- a cell of memory, as it is read -/
def absC : Value → AVal
  | .bool b => .bool b
  | .int k n => .int k n
  | .float k b => .float k b
  | .complex k a b => .cplx k a b
  | .string s => .str s.data.toList
  | .pointer none => .nilp
  | .pointer (some ⟨b, o, none⟩) => .rptr (roBase + encP b o) 0
  | .slice none 0 0 => .nils
  | .slice (some ⟨b, o, none⟩) len cap => if len ≤ cap then .rsl (roBase + encP b o) 0 len else .dead
  | .map none => .nilm
  | .nilFunc => .nilf
  | .nilIface => .nili
  | _ => .dead

def absV : Value → AVal
  | .agg cs => if cs.toList.all oneC then .agg (cs.toList.map absC) else .dead
  | v => absC v

noncomputable def placeW (r : Nat) : Nat × Nat := if r < roBase then (r, 0) else decP (r - roBase)
theorem placeW_enc (b o : Nat) : placeW (roBase + encP b o) = (b, o) := by
  have h1 : ¬ roBase + encP b o < roBase := Nat.not_lt.2 (Nat.le_add_right _ _)
  have h2 : roBase + encP b o - roBase = encP b o := Nat.add_sub_cancel_left ..
  simp only [placeW, h1, if_false, h2, decP_enc]

noncomputable def rhoW : RoMap := fun r => some (placeW r)

theorem absC_rel {ι : Inj} (v : Value) : VRel ι rhoW (absC v) v := by
  have hb : ∀ b o, rhoW (roBase + encP b o) = some (b, o) := fun b o => by unfold rhoW; rw [placeW_enc]
  unfold absC
  split
  case h_7 b o => exact ⟨(b, o), hb b o, by simp⟩
  case h_9 b o len cap =>
    split
    · exact ⟨(b, o), o, cap, hb b o, rfl, by assumption, .inl (by simp)⟩
    · trivial
  all_goals first | rfl | trivial

theorem absCs_rel {ι : Inj} : ∀ l : List Value, VRels ι rhoW (l.map absC) l
  | [] => rfl
  | v :: l => ⟨v, l, rfl, absC_rel v, absCs_rel l⟩

theorem absV_rel {ι : Inj} (v : Value) : VRel ι rhoW (absV v) v := by
  unfold absV
  split
  · rename_i cs
    split
    · rename_i h
      exact ⟨cs, rfl, absCs_rel _, fun x hx => List.all_eq_true.1 h x hx⟩
    · trivial
  · exact absC_rel _

theorem absVs_rel {ι : Inj} : ∀ l : List Value, VRels ι rhoW (l.map absV) l
  | [] => rfl
  | v :: l => ⟨v, l, rfl, absV_rel v, absVs_rel l⟩

/-- what memory held at the entry -/
noncomputable def roW (W : World) : Nat → Option (List AVal) := fun r =>
  match W.heap[(placeW r).1]? with
  | some (.cells c _ _) => some (((c.toList.drop (placeW r).2).takeWhile oneC).map absC)
  | _ => none

noncomputable def fixW (c : Cfg) (W : World) : Fix := ⟨{ c with ro := roW W }, rhoW, W⟩

theorem fixW_ok {c : Cfg} {W : World} (he : ∀ t, c.eqOk t = true → c.P.stoodInHeld t = false ∧ c.P.eqGuardType c.P.depth t = false) : (fixW c W).Ok := by
  refine ⟨he, fun g hg => ?_, fun r vs hr => ?_⟩
  · show rhoW g = _
    unfold rhoW placeW roBase
    rw [if_pos hg]
  · have hr : roW W r = some vs := hr
    unfold roW at hr
    split at hr
    · rename_i cs T fr hh
      cases hr
      refine ⟨placeW r, rfl, (Array.getElem?_eq_some_iff.1 hh).1, fun j a hj => ?_⟩
      rw [List.getElem?_map] at hj
      cases hc : ((cs.toList.drop (placeW r).2).takeWhile oneC)[j]? with
      | none => rw [hc] at hj; cases hj
      | some v =>
        rw [hc] at hj; cases hj
        have h1 : oneC v = true := by
          have hm := List.mem_of_getElem? hc
          have hall := List.all_takeWhile (p := oneC) (l := cs.toList.drop (placeW r).2)
          exact List.all_eq_true.1 hall v hm
        have h2 : (cs.toList.drop (placeW r).2)[j]? = some v := by
          have hp := List.takeWhile_prefix oneC (l := cs.toList.drop (placeW r).2)
          obtain ⟨t, ht⟩ := hp
          rw [← ht, List.getElem?_append_left (List.getElem?_eq_some_iff.1 hc).1]; exact hc
        refine ⟨v, ?_, h1, absC_rel v⟩
        rw [List.getElem?_drop] at h2
        have hc' : cs[(placeW r).2 + j]? = some v := by simpa using h2
        simp [World.cell?, fixW, hh, hc']
    · cases hr

/-- what must be so of a program's reading, whatever the world -/
structure SureC (c : Cfg) : Prop where
  eqs : ∀ t, c.eqOk t = true → c.P.stoodInHeld t = false ∧ c.P.eqGuardType c.P.depth t = false
  code : ∀ f fn code, (c.ann f).ok = true → c.P.funcs[f]? = some fn → fn.body = some code → codeOk c.P (c.ann f).locals code = true ∧ (fn.name == "runtime.NumGoroutine") = false
  prim : ∀ (F : Fix), F.c.P = c.P → F.Ok → ∀ f g, c.prim f = some g → ∀ args h v h', g args h = .ok (v, h') → h.next ≤ h'.next ∧
    ∀ ι w (av : Array Value), Rel F ι h w → VRels ι F.ρ args av.toList → Fresh ι h.next h'.next → CallTo F.c.P f av w (Out F ι h w v h')
  mixed : c.P.follows .mixedOrders = true

theorem SureC.sure {c : Cfg} (s : SureC c) (W : World) : Sure (fixW c W) :=
  ⟨fixW_ok s.eqs, s.code, s.prim (fixW c W) rfl (fixW_ok s.eqs), draw_sound (fixW_ok s.eqs) s.mixed⟩

def heap0 : AHeap := ⟨.nil, 0⟩

/-- a call from outside -/
theorem entry {c : Cfg} (s : SureC c) {W : World} {k f : Nat} {fn : Func} {code : Code} {args : Array Value} {v : AVal} {h' : AHeap} (hf : c.P.funcs[f]? = some fn) (hb : fn.body = some code) (hname : (fn.name == "runtime.NumGoroutine") = false)
    (hq : callF { c with ro := roW W } k f (args.toList.map absV) heap0 = .ok (v, h')) :
    Calls c.P f args W fun e w' => ∃ u ι, e = .returned u ∧ VRel ι rhoW v u ∧ Below W.heap.size W w' := by
  obtain ⟨_, _, hC⟩ := sound (s.sure W) k
  obtain ⟨_, hc⟩ := hC f (args.toList.map absV) heap0 v h' hq
  have hrel : Rel (fixW c W) (fun _ => none) heap0 W := by
    have hno : ∀ o x, heap0.get o ≠ some x := by intro o x h; cases h
    exact ⟨Below.refl _ _, fun o x h => absurd h (hno o x), fun o o' x x' e e' h => absurd h (hno o x), fun o x h => absurd h (hno o x)⟩
  have hto := hc (fun _ => none) W args hrel (absVs_rel _) (fun _ _ _ => rfl)
  have hrun : (callFunc f args).run c.P W = .ok (.enter f args) W := by
    have hname' : ¬ fn.name = "runtime.NumGoroutine" := by simpa using hname
    simp [callFunc, hf, hname', hb]
  rcases hto with ⟨u, w', h1, _⟩ | ⟨_, h2⟩
  · have h1 : (callFunc f args).run c.P W = .ok (.value u) w' := h1
    rw [hrun] at h1; cases h1
  · refine Calls.mono h2 fun e w' he => ?_
    cases e with
    | returned u =>
      obtain ⟨ι, h3, h4, _⟩ := he
      exact ⟨u, ι, rfl, h3, h4.below⟩
    | panicked _ => exact he.elim
    | outgrown => exact he.elim

/-- the row's end, where the arguments read as they did -/
theorem post_below {H : Type} {enc : TypeId × Value → H} {P : Program} {f : Func} {s : ChangeSpec} {apart fresh handsOn : Bool} {W W' : World} {args : Array Value} {v : Value} {ds gs : List (DataW H)} {before pa pv : List MemPlace}
    (hW : DataW.Whole enc P f.params.toList s.vars apart W args.toList ds gs before)
    (hres : ∀ (b : Nat) (sp : Nat → Bool) (hd : Bool), DataW.TrodAll enc P W' b sp hd f.resultTypes.toList (v.resultList f.resultTypes.size) (s.fn H (ds ++ gs)).results [])
    (hargs : DataW.TrodAll enc P W' 0 (fun b => decide (b < W.heap.size)) true f.params.toList args.toList (s.fn H (ds ++ gs)).args pa)
    (hvars : DataW.TrodVars enc P W' (fun b => decide (b < W.heap.size)) s.vars (s.fn H (ds ++ gs)).vars pv)
    (hb : Below W.heap.size W W') : s.post enc P f apart fresh handsOn false W args v W' :=
  ⟨ds, gs, before, [], pa, pv, hW, hres _ _ _, hargs, hvars, hb.frame _, fun h => by cases h⟩

end Go.Proofs.Ytbnlhhfobgjeaaa
