/-
  What the arguments read as, to the abstract machine.
-/
import Derived.Test.YtbnlhhfobgjeaaaZzSl
import Derived.ChangeArms
import Derived.OpenShut
import Derived.WideShapes
import Derived.ChangeMaps5
set_option linter.all false
namespace Go.Proofs.Ytbnlhhfobgjeaaa
open Go Go.RowKit

def Rdg (P : Program) (ro : Nat → Option (List AVal)) : Nat → Nat → List AVal → Prop
  | 0, _, _ => False
  | n + 1, t, cs => match P.underlying t with
    | some .bool => ∃ b, cs = [.bool b]
    | some (.int k) => ∃ i, cs = [.int k i] ∧ k.min ≤ i ∧ i ≤ k.max
    | some .string => ∃ s, cs = [.str s] ∧ s.length < 2 ^ 63
    | some (.pointer e) => cs = [.nilp] ∨ cs = [.dead] ∨ ∃ r es, cs = [.rptr r 0] ∧ (P.cellsOf e ≠ 0 → ∃ vs, ro r = some vs ∧ takeR vs 0 (P.cellsOf e) = .ok es) ∧ Rdg P ro n e es
    | some (.slice e) => cs = [.nils] ∨ cs = [.dead] ∨ ∃ r ess, cs = [.rsl r 0 (List.length ess)] ∧ ess.length < 2 ^ 63 ∧
        (P.cellsOf e ≠ 0 → ess ≠ [] → ∃ vs, ro r = some vs ∧ ∀ i x, ess[i]? = some x → takeR vs (i * P.cellsOf e) (P.cellsOf e) = .ok x) ∧ ∀ x ∈ ess, x.length = P.cellsOf e ∧ Rdg P ro n e x
    | some (.struct fs) => cs.length = P.cellsOf t ∧ ∀ (i : Nat) (f : Field), fs[i]? = some f → Rdg P ro n f.type ((cs.drop f.offset).take (P.cellsOf f.type))
    | some (.array m e) => cs.length = P.cellsOf t ∧ ∀ i, i < m → Rdg P ro n e ((cs.drop (i * P.cellsOf e)).take (P.cellsOf e))
    | _ => True

/-- does each cell of a struct, of an array, belong to a part? -/
def coverB (P : Program) (t : Nat) : Bool :=
  match P.underlying t with
  | some (.struct fs) => (List.range (P.cellsOf t)).all fun i => fs.toList.any fun f => decide (f.offset ≤ i ∧ i < f.offset + P.cellsOf f.type)
  | some (.array n e) => decide (P.cellsOf t = n * P.cellsOf e)
  | _ => true
def partsB (P : Program) (t : Nat) : Bool :=
  match P.underlying t with
  | some (.struct fs) => fs.toList.all fun f => decide (f.type < P.types.size)
  | some (.array _ e) => decide (e < P.types.size)
  | some (.pointer e) => decide (e < P.types.size)
  | some (.slice e) => decide (e < P.types.size)
  | _ => true
def coverAll (P : Program) : Bool := (List.range P.types.size).all fun t => coverB P t && partsB P t

theorem take_while {α : Type} (p : α → Bool) : ∀ {l : List α} {N : Nat}, (∀ q, q < N → ∃ v, l[q]? = some v ∧ p v = true) → N ≤ (l.takeWhile p).length ∧ (l.takeWhile p).take N = l.take N
  | l, 0, _ => by simp
  | [], N + 1, h => by obtain ⟨v, hv, _⟩ := h 0 (by omega); simp at hv
  | a :: l, N + 1, h => by
    obtain ⟨v, hv, hp⟩ := h 0 (by omega)
    simp at hv; subst hv
    obtain ⟨h1, h2⟩ := take_while p (l := l) (N := N) (fun q hq => by simpa using h (q + 1) (by omega))
    rw [List.takeWhile_cons, if_pos hp]
    exact ⟨by simp; omega, by simp [h2]⟩

theorem oneC_part {P : Program} {cs : List Value} {off n i : Nat} {v : Value} (h1 : off ≤ i) (h2 : i < off + n) (hv : cs[i]? = some v) : v ∈ (cs.drop off).take n := by
  apply List.mem_of_getElem? (i := i - off)
  rw [List.getElem?_take, if_pos (by omega), List.getElem?_drop, show off + (i - off) = i by omega]
  exact hv

theorem cells_row {w : World} {a : Addr} {n : Nat} {cs : List Value} (h : w.cells? 0 a n = some cs) (hn : 0 < n) :
    a.spot = none ∧ ∃ c T fr, w.heap[a.block]? = some (.cells c T fr) ∧ ∀ i, i < n → c.toList[a.off + i]? = cs[i]? := by
  obtain ⟨_, hl, hc⟩ := World.cells?_some h
  have h0 := hc 0 hn
  have hs : cs[0]? = some (cs[0]'(by omega)) := List.getElem?_eq_getElem (by omega)
  rw [hs] at h0
  unfold World.cell? Addr.add at h0
  simp only [if_true] at h0
  split at h0
  · rename_i c T fr hh
    split at h0
    · cases h0
    · rename_i hsp
      have hsp : a.spot = none := by cases h : a.spot <;> simp_all
      refine ⟨hsp, c, T, fr, hh, fun i hi => ?_⟩
      have h1 := hc i hi
      unfold World.cell? Addr.add at h1
      by_cases h0' : i = 0
      · subst h0'
        simp only [if_true, hh, hsp] at h1
        simpa using h1
      · simp only [h0', if_false, hh] at h1
        simpa using h1
  · cases h0

theorem roW_at {w : World} {a : Addr} {c : Array Value} {T : Nat} {fr : Nat × Nat} (hh : w.heap[a.block]? = some (.cells c T fr)) : roW w (roBase + encP a.block a.off) = some (((c.toList.drop a.off).takeWhile oneC).map absC) := by
  unfold roW
  rw [placeW_enc]
  simp only [hh]

theorem rdg_of {H : Type} {enc : TypeId × Value → H} {P : Program} {w : World} {spare : Nat → Bool} {held : Bool} (hcov : coverAll P = true) : ∀ (fuel t : Nat) (cs : List Value) (x : DataW H × List MemPlace), t < P.types.size →
    DataW.trod enc P w 0 spare held fuel t cs = some x → (∀ v ∈ cs, oneC v = true) ∧ Rdg P (roW w) fuel t (cs.map absC)
  | 0, t, cs, x, _, h => by simp [DataW.trod] at h
  | fuel + 1, t, cs, x, htl, h => by
    have hcb := List.all_eq_true.1 hcov t (List.mem_range.2 htl)
    rw [Bool.and_eq_true] at hcb
    obtain ⟨hcv, hpt⟩ := hcb
    cases hu : P.underlying t with
    | none => unfold DataW.trod at h; rw [hu] at h; simp at h
    | some u =>
      cases u with
      | bool => obtain ⟨b, rfl, _⟩ := DataW.trod_bool hu h; exact ⟨by simp [oneC], by simp only [Rdg, hu]; exact ⟨b, rfl⟩⟩
      | int k =>
        obtain ⟨n, rfl, _, hw⟩ := DataW.trod_int hu h
        simp [Lit.wf] at hw
        exact ⟨by simp [oneC], by simp only [Rdg, hu]; exact ⟨n, rfl, hw⟩⟩
      | string =>
        obtain ⟨s, rfl, _, hs⟩ := DataW.trod_string hu h
        refine ⟨by simp [oneC], by simp only [Rdg, hu]; exact ⟨s.data.toList, rfl, by have h0 : s.data.toList.length = s.size := Array.length_toList; rw [h0]; unfold maxLen at hs; omega⟩⟩

      | pointer e =>
        rcases DataW.trod_pointer hu h with ⟨rfl, _⟩ | ⟨a, cs', y, n, hf, rfl, _, hcl, ht⟩
        · exact ⟨by simp [oneC], by simp only [Rdg, hu]; exact .inl rfl⟩
        · injection hf with hf; subst hf
          refine ⟨by simp [oneC], ?_⟩
          simp only [Rdg, hu]
          obtain ⟨h1, h2⟩ := rdg_of hcov fuel e cs' y (by simpa [partsB, hu] using hpt) ht
          by_cases hz : P.cellsOf e = 0
          · obtain ⟨b, o, sp⟩ := a
            cases sp with
            | none => right; right; exact ⟨_, cs'.map absC, rfl, fun h => absurd hz h, h2⟩
            | some s => right; left; rfl
          · obtain ⟨hsp, c, T, fr, hh, hcell⟩ := cells_row hcl (by omega)
            have hl := (World.cells?_some hcl).2.1
            right; right
            obtain ⟨b, o, sp⟩ := a
            simp only at hsp hh hcell; subst hsp
            have htw := take_while oneC (l := c.toList.drop o) (N := P.cellsOf e) (fun q hq => by
              rw [List.getElem?_drop, hcell q hq]
              exact ⟨cs'[q]'(by omega), List.getElem?_eq_getElem (by omega), h1 _ (List.getElem_mem _)⟩)
            refine ⟨_, cs'.map absC, rfl, fun _ => ⟨_, roW_at (a := ⟨b, o, none⟩) hh, ?_⟩, h2⟩
            unfold takeR
            rw [if_pos (by simp; exact htw.1)]
            simp only [List.drop_zero]
            rw [← List.map_take, htw.2]
            congr 2
            apply List.ext_getElem?
            intro i
            rw [List.getElem?_take]
            split
            · rw [List.getElem?_drop]; exact hcell i ‹_›
            · rw [List.getElem?_eq_none (by omega)]
      | slice e =>
        rcases DataW.trod_slice hu h with ⟨rfl, _⟩ | ⟨a, len, cap, elems, rest, n, hf, rfl, _, _, hlc, hcap, hlen, hel, _, _⟩
        · exact ⟨by simp [oneC], by simp only [Rdg, hu]; exact .inl rfl⟩
        · injection hf with hf; subst hf
          refine ⟨by simp [oneC], ?_⟩
          simp only [Rdg, hu]
          obtain ⟨b, o, sp⟩ := a
          by_cases hsp : sp = none
          · subst hsp
            right; right
            have hg : ∀ i, i < len → ∃ cs', w.cells? 0 ((⟨b, o, none⟩ : Addr).add (i * P.cellsOf e)) (P.cellsOf e) = some cs' ∧ (∀ v ∈ cs', oneC v = true) ∧ Rdg P (roW w) fuel e (cs'.map absC) ∧ cs'.length = P.cellsOf e ∧ (∀ j, j < P.cellsOf e → w.cell? ⟨b, o + i * P.cellsOf e + j, none⟩ = cs'[j]?) := by
              intro i hi
              have h1 := hel i hi
              have h2 : elems[i]? = some (elems[i]'(by omega)) := List.getElem?_eq_getElem (by omega)
              rw [h2] at h1
              obtain ⟨cs', h3, h4⟩ := Option.bind_eq_some_iff.1 h1
              obtain ⟨h5, h6⟩ := rdg_of hcov fuel e cs' _ (by simpa [partsB, hu] using hpt) h4
              obtain ⟨_, h7, h8⟩ := World.cells?_some h3
              refine ⟨cs', h3, h5, h6, h7, fun j hj => ?_⟩
              rw [← h8 j hj]
              unfold Addr.add
              by_cases hz : i * P.cellsOf e = 0
              · by_cases hj0 : j = 0 <;> simp [hz, hj0]
              · by_cases hj0 : j = 0 <;> simp [hz, hj0]
            obtain ⟨G, hG⟩ : ∃ G : Nat → List Value, ∀ i, i < len → w.cells? 0 ((⟨b, o, none⟩ : Addr).add (i * P.cellsOf e)) (P.cellsOf e) = some (G i) ∧ (∀ v ∈ G i, oneC v = true) ∧ Rdg P (roW w) fuel e ((G i).map absC) ∧ (G i).length = P.cellsOf e ∧ (∀ j, j < P.cellsOf e → w.cell? ⟨b, o + i * P.cellsOf e + j, none⟩ = (G i)[j]?) :=
              ⟨fun i => if h : i < len then Classical.choose (hg i h) else [], fun i hi => by simp only [hi, dif_pos]; exact Classical.choose_spec (hg i hi)⟩
            refine ⟨roBase + encP b o, (List.range len).map fun i => (G i).map absC, ?_, ?_, ?_, ?_⟩
            · simp [absC, hlc]
            · simp; unfold maxLen at hcap; omega
            · intro hz hne
              have hlen0 : 0 < len := by
                rcases Nat.eq_zero_or_pos len with h0 | h0
                · subst h0; exact absurd rfl hne
                · exact h0
              obtain ⟨h3, _⟩ := hG 0 hlen0
              obtain ⟨_, c, T, fr, hh, _⟩ := cells_row h3 (by omega)
              have hh : w.heap[b]? = some (.cells c T fr) := by simpa [Addr.add] using hh
              refine ⟨_, roW_at (a := ⟨b, o, none⟩) hh, ?_⟩
              have hpos : 0 < P.cellsOf e := by omega
              have hat : ∀ i j, i < len → j < P.cellsOf e → (c.toList.drop o)[i * P.cellsOf e + j]? = (G i)[j]? := by
                intro i j hi hj
                have h1 := (hG i hi).2.2.2.2 j hj
                unfold World.cell? at h1
                simp only [hh] at h1
                rw [List.getElem?_drop, ← Nat.add_assoc]
                simpa using h1
              have htw := take_while oneC (l := c.toList.drop o) (N := len * P.cellsOf e) (fun q hq => by
                have h1 := Nat.div_add_mod q (P.cellsOf e)
                have h2 := Nat.mod_lt q hpos
                have h3 : q / P.cellsOf e < len := (Nat.div_lt_iff_lt_mul hpos).2 hq
                have h4 : q / P.cellsOf e * P.cellsOf e = P.cellsOf e * (q / P.cellsOf e) := Nat.mul_comm _ _
                have h5 := hat _ _ h3 h2
                rw [show q / P.cellsOf e * P.cellsOf e + q % P.cellsOf e = q by omega] at h5
                have hl := (hG _ h3).2.2.2.1
                rw [h5]
                exact ⟨_, List.getElem?_eq_getElem (by omega), (hG _ h3).2.1 _ (List.getElem_mem (by omega))⟩)
              intro i x hx
              rw [List.getElem?_map] at hx
              have hi : i < len := by
                rcases Nat.lt_or_ge i len with h0 | h0
                · exact h0
                · rw [List.getElem?_eq_none (by simpa using h0)] at hx; cases hx
              rw [List.getElem?_range hi] at hx
              simp at hx
              subst hx
              have hle : i * P.cellsOf e + P.cellsOf e ≤ len * P.cellsOf e := by
                rw [← Nat.succ_mul]; exact Nat.mul_le_mul_right _ hi
              unfold takeR
              rw [if_pos (by simp; omega)]
              rw [← List.map_drop, ← List.map_take]
              congr 2
              apply List.ext_getElem?
              intro j
              rw [List.getElem?_take]
              have hl := (hG i hi).2.2.2.1
              split
              · rename_i hj
                rw [List.getElem?_drop]
                have h1 : ((c.toList.drop o).takeWhile oneC)[i * P.cellsOf e + j]? = (((c.toList.drop o).takeWhile oneC).take (len * P.cellsOf e))[i * P.cellsOf e + j]? := by
                  rw [List.getElem?_take, if_pos (by omega)]
                rw [h1, htw.2, List.getElem?_take, if_pos (by omega)]
                exact hat i j hi hj
              · rw [List.getElem?_eq_none (by omega)]
            · intro x hx
              obtain ⟨i, hi, rfl⟩ := List.mem_map.1 hx
              have hi := List.mem_range.1 hi
              exact ⟨by simpa using (hG i hi).2.2.2.1, (hG i hi).2.2.1⟩
          · right; left
            simp only [List.map_cons, List.map_nil, absC]
            cases sp with
            | none => exact absurd rfl hsp
            | some s => rfl
      | struct fs =>
        obtain ⟨xs, n, hf, _, hl, hxl, hp⟩ := DataW.trod_struct hu h
        injection hf with hf; subst hf
        have hp' : ∀ (i : Nat) (f : Field), fs[i]? = some f → (∀ v ∈ ((cs.drop f.offset).take (P.cellsOf f.type)), oneC v = true) ∧ Rdg P (roW w) fuel f.type (((cs.drop f.offset).take (P.cellsOf f.type)).map absC) := by
          intro i f hi
          have h1 := hp i f hi
          have hlt : i < xs.length := by rw [hxl]; exact (Array.getElem?_eq_some_iff.1 hi).1
          rw [List.getElem?_eq_getElem hlt] at h1
          simp only [partsB, hu] at hpt
          exact rdg_of hcov fuel _ _ _ (of_decide_eq_true (List.all_eq_true.1 hpt f (by rw [Array.mem_toList_iff]; exact Array.mem_of_getElem? hi))) h1
        refine ⟨fun v hv => ?_, ?_⟩
        · obtain ⟨i, hi, rfl⟩ := List.getElem_of_mem hv
          simp only [coverB, hu] at hcv
          have h1 := List.all_eq_true.1 hcv i (List.mem_range.2 (by omega))
          obtain ⟨f, hf, h2⟩ := List.any_eq_true.1 h1
          obtain ⟨j, hj, rfl⟩ := List.getElem_of_mem hf
          have h2 := of_decide_eq_true h2
          refine (hp' j _ (by simpa using hj)).1 _ (oneC_part (P := P) h2.1 h2.2 (List.getElem?_eq_getElem hi))
        · simp only [Rdg, hu]
          refine ⟨by simpa using hl, fun i f hi => ?_⟩
          have := (hp' i f hi).2
          rw [List.map_take, List.map_drop] at this
          exact this
      | array m e =>
        obtain ⟨xs, n, hf, _, hl, hxl, hp⟩ := DataW.trod_array hu h
        injection hf with hf; subst hf
        have hp' : ∀ (i : Nat), i < m → (∀ v ∈ ((cs.drop (i * P.cellsOf e)).take (P.cellsOf e)), oneC v = true) ∧ Rdg P (roW w) fuel e (((cs.drop (i * P.cellsOf e)).take (P.cellsOf e)).map absC) := by
          intro i hi
          have h1 := hp i hi
          rw [List.getElem?_eq_getElem (by omega)] at h1
          exact rdg_of hcov fuel _ _ _ (by simpa [partsB, hu] using hpt) h1
        refine ⟨fun v hv => ?_, ?_⟩
        · obtain ⟨i, hi, rfl⟩ := List.getElem_of_mem hv
          simp only [coverB, hu, decide_eq_true_eq] at hcv
          have hpos : 0 < P.cellsOf e := by
            rcases Nat.eq_zero_or_pos (P.cellsOf e) with h0 | h0
            · rw [h0] at hcv; simp at hcv; omega
            · exact h0
          have h1 := Nat.div_add_mod i (P.cellsOf e)
          have h2 := Nat.mod_lt i hpos
          have h3 : i / P.cellsOf e < m := (Nat.div_lt_iff_lt_mul hpos).2 (by omega)
          have h4 : i / P.cellsOf e * P.cellsOf e = P.cellsOf e * (i / P.cellsOf e) := Nat.mul_comm _ _
          exact (hp' _ h3).1 _ (oneC_part (P := P) (by omega) (by omega) (List.getElem?_eq_getElem hi))
        · simp only [Rdg, hu]
          refine ⟨by simpa using hl, fun i hi => ?_⟩
          have := (hp' i hi).2
          rw [List.map_take, List.map_drop] at this
          exact this
      | _ =>
        refine ⟨?_, by simp only [Rdg, hu]⟩
        unfold DataW.trod at h
        rw [hu] at h
        rcases cs with _ | ⟨v, _ | ⟨v2, l⟩⟩
        · simp
        · cases v <;> first | (simp at h; done) | simp [oneC]
        · simp at h
end Go.Proofs.Ytbnlhhfobgjeaaa
