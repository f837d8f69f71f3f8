/-
  A region whose order is drawn: the whole.
-/
import Derived.Test.YtbnlhhfobgjeaaaZzDraw3
import Derived.Test.YtbnlhhfobgjeaaaZzSound
import Derived.Orders
set_option linter.all false
namespace Go.Proofs.Ytbnlhhfobgjeaaa
open Go Go.RowKit

def cnt (f : Nat → Bool) : Nat → Nat
  | 0 => 0
  | n + 1 => cnt f n + (if f n then 0 else 1)

theorem cnt_zero {f : Nat → Bool} : ∀ n, cnt f n = 0 → ∀ k, k < n → f k = true
  | 0, _, k, hk => by omega
  | n + 1, h, k, hk => by
    unfold cnt at h
    by_cases hf : f n = true
    · rw [if_pos hf] at h
      by_cases hkn : k = n
      · rw [hkn]; exact hf
      · exact cnt_zero n h k (by omega)
    · rw [if_neg hf] at h; omega

theorem cnt_upd {f g : Nat → Bool} {i : Nat} (hf : f i = false) (hg : g i = true) (ho : ∀ k, k ≠ i → g k = f k) : ∀ n, (n ≤ i → cnt g n = cnt f n) ∧ (i < n → cnt g n + 1 = cnt f n)
  | 0 => ⟨fun _ => rfl, fun h => by omega⟩
  | n + 1 => by
    obtain ⟨h1, h2⟩ := cnt_upd hf hg ho n
    refine ⟨fun h => ?_, fun h => ?_⟩
    · unfold cnt; rw [h1 (by omega), ho n (by omega)]
    · unfold cnt
      by_cases hn : n = i
      · subst hn; rw [h1 (Nat.le_refl _), hf, hg]; simp
      · rw [ho n hn]
        have := h2 (by omega)
        omega

theorem cnt_le (f : Nat → Bool) : ∀ n, cnt f n ≤ n
  | 0 => Nat.le_refl _
  | n + 1 => by unfold cnt; have := cnt_le f n; split <;> omega

theorem nth_ext {a b : List AVal} (hl : a.length = b.length) (h : ∀ t, nth a t = nth b t) : a = b := by
  refine List.ext_getElem? fun t => ?_
  by_cases ht : t < a.length
  · have := h t
    rw [nth_eq, nth_eq, List.getElem?_eq_getElem ht, List.getElem?_eq_getElem (by omega)] at this
    rw [List.getElem?_eq_getElem ht, List.getElem?_eq_getElem (by omega)]
    simpa using this
  · rw [List.getElem?_eq_none (by omega), List.getElem?_eq_none (by omega)]

section
variable {F : Fix} {C : CallR} {loc : List Nat} {al : List (Nat × Nat)} {bad : List Nat} {ops : Array Oper} {en : Nat → List AVal} {hs ba : Nat → AHeap}
variable {ι0 : Inj} {tm0 : Array Value} {w0 : World}

theorem draw_end {ι : Inj} {tm : Array Value} {w : World} {D : Nat → Prop} {E : List AVal} {p : Nat} (tr : Trace C F.c loc al bad ops (Region.before ops) en hs ba) (d : DI F loc al ops en hs ba ι0 tm0 w0 D ι tm w E p) (hall : ∀ k, k < ops.size → D k) :
    St F ι loc al (en ops.size) (hs ops.size) tm w ∧ TStep ι0 (hs 0) (en 0) tm0 w0 ι (hs ops.size) (en ops.size) tm w := by
  have hlt : ∀ {k : Nat} {op : Oper}, ops[k]? = some op → k < ops.size := fun h => (Array.getElem?_eq_some_iff.1 h).1
  have hE : E = en ops.size := by
    refine nth_ext (by rw [d.elen, len_run tr _ (Nat.le_refl _)]) fun t => ?_
    exact d.eat.names tr (Nat.le_refl _) (fun k o' hk _ _ => hall k hk) (fun j o' _ ho' _ => hlt ho')
  subst hE
  obtain ⟨st, hown⟩ := d.at tr d.ple (Nat.le_refl _) (fun k op h1 h2 h3 h4 => by have := (d.pimp k op h3 h4).2 (hall k h2); omega) (fun k op _ h2 _ _ => hall k h2)
  refine ⟨st, d.sub, d.dom, next_le tr (Nat.zero_le _) (Nat.le_refl _), d.keep, fun b hb => ?_, d.lc⟩
  rcases hown b hb with h | ⟨k, op, e, a1, a2, a3, a4, a5, a6, a7⟩
  · exact d.own b h
  · obtain ⟨x, hx, _⟩ := tr.al_ k op a4 a5
    obtain ⟨e', e1, _, _, _, _, e6⟩ := d.pend k op x a1 a2 a4 a5 hx
    rw [a6] at e1; cases e1
    rw [← a7]; exact .inr e6

theorem mem_ready {listed : Array Bool} {i : Nat} (hs : listed.size = ops.size) : i ∈ Region.ready .any ops listed ↔ ∃ o, ops[i]? = some o ∧ listed.getD i false = false ∧ ∀ e ∈ o.after.toList, Region.binds .any e = true → listed.getD e.on false = true := by
  unfold Region.ready
  simp only [List.mem_filter, List.mem_range, Bool.and_eq_true, Bool.not_eq_true']
  constructor
  · rintro ⟨h1, h2, h3⟩
    have ho : ops[i]? = some ops[i] := by simp [h1]
    refine ⟨ops[i], ho, ?_, fun e he hb => ?_⟩
    · have : i < listed.size := by omega
      simpa [Array.getD_eq_getD_getElem?, this] using h2
    · rw [ho] at h3
      simp only [Option.map_some, Option.getD_some, Array.all_eq_true'] at h3
      have := h3 e (by simpa using he)
      simpa [hb] using this
  · rintro ⟨o, h1, h2, h3⟩
    have hi : i < ops.size := (Array.getElem?_eq_some_iff.1 h1).1
    refine ⟨hi, ?_, ?_⟩
    · have : i < listed.size := by omega
      simpa [Array.getD_eq_getD_getElem?, this] using h2
    · rw [h1]
      simp only [Option.map_some, Option.getD_some, Array.all_eq_true']
      intro e he
      by_cases hb : Region.binds .any e = true
      · simp [h3 e (by simpa using he) hb]
      · simp [hb]

theorem draw_any (ok : F.Ok) (hC : CallSound F C) (hal : ∀ t s, lookN al t = some s → loc.contains s = true) (hb1 : ∀ t, loc.contains t = true → bad.contains t = true) (hb2 : ∀ t s, lookN al t = some s → bad.contains t = true)
    (hops : ∀ o ∈ ops.toList, opOk loc al o = true) (rg : Reg F.c.P loc al ops) (tr : Trace C F.c loc al bad ops (Region.before ops) en hs ba) {Q : Exit → Act → World → Prop}
    (hQ : ∀ ι tm w, St F ι loc al (en ops.size) (hs ops.size) tm w → TStep ι0 (hs 0) (en 0) tm0 w0 ι (hs ops.size) (en ops.size) tm w → Q .normal ⟨tm, []⟩ w) :
    ∀ (fuel : Nat) (listed : Array Bool) (ι : Inj) (tm : Array Value) (w : World) (E : List AVal) (p : Nat), listed.size = ops.size → cnt (fun k => listed.getD k false) ops.size ≤ fuel →
      DI F loc al ops en hs ba ι0 tm0 w0 (fun k => listed.getD k false = true) ι tm w E p →
      (∀ i o, listed.getD i false = true → ops[i]? = some o → ∀ e ∈ o.after.toList, Region.binds .any e = true → listed.getD e.on false = true) →
      wpAny F.c.P .any ops Q fuel listed ⟨tm, []⟩ w := by
  have hend : ∀ (listed : Array Bool) (ι : Inj) (tm : Array Value) (w : World) (E : List AVal) (p : Nat), listed.size = ops.size → Region.ready .any ops listed = [] →
      DI F loc al ops en hs ba ι0 tm0 w0 (fun k => listed.getD k false = true) ι tm w E p → Q .normal ⟨tm, []⟩ w := by
    intro listed ι tm w E p hsz hr d
    have hall : ∀ k, k < ops.size → listed.getD k false = true := by
      intro k
      induction k using Nat.strongRecOn with
      | _ k ih =>
        intro hk
        cases hl : listed.getD k false with
        | true => rfl
        | false =>
          exfalso
          have ho : ops[k]? = some ops[k] := by simp [hk]
          have : k ∈ Region.ready .any ops listed := (mem_ready hsz).2 ⟨_, ho, hl, fun e he hb => by
            have := rg.on k _ ho e he hb
            exact ih e.on this (by omega)⟩
          rw [hr] at this; cases this
    obtain ⟨h1, h2⟩ := draw_end tr d hall
    exact hQ ι tm w h1 h2
  intro fuel
  induction fuel with
  | zero =>
    intro listed ι tm w E p hsz hc d hV
    have hall := cnt_zero _ (Nat.le_zero.1 hc)
    have hr : Region.ready .any ops listed = [] := by
      refine List.eq_nil_iff_forall_not_mem.2 fun i hi => ?_
      obtain ⟨o, h1, h2, _⟩ := (mem_ready hsz).1 hi
      have := hall i (Array.getElem?_eq_some_iff.1 h1).1
      rw [this] at h2; cases h2
    exact ⟨hr, hend listed ι tm w E p hsz hr d⟩
  | succ fuel ih =>
    intro listed ι tm w E p hsz hc d hV
    refine ⟨fun hr => hend listed ι tm w E p hsz hr d, fun i hi => ?_⟩
    obtain ⟨o, h1, h2, h3⟩ := (mem_ready hsz).1 hi
    have hilt : i < ops.size := (Array.getElem?_eq_some_iff.1 h1).1
    have hD : ∀ k, (listed.setIfInBounds i true).getD k false = true ↔ (listed.getD k false = true ∨ k = i) := by
      intro k
      rw [Array.getD_eq_getD_getElem?, Array.getD_eq_getD_getElem?, Array.getElem?_setIfInBounds]
      by_cases hk : i = k
      · subst hk; simp [hsz, hilt]
      · simp [hk, Ne.symm hk]
    have hcnt : cnt (fun k => (listed.setIfInBounds i true).getD k false) ops.size ≤ fuel := by
      have := (cnt_upd (f := fun k => listed.getD k false) (g := fun k => (listed.setIfInBounds i true).getD k false) (i := i) h2 ((hD i).2 (.inr rfl)) (fun k hk => by
        have := hD k
        cases hg : (listed.setIfInBounds i true).getD k false with
        | true => rcases this.1 hg with h | h
                  · exact h.symm
                  · exact absurd h hk
        | false => cases hf : listed.getD k false with
          | true => rw [this.2 (.inl hf)] at hg; cases hg
          | false => rfl) ops.size).2 hilt
      omega
    refine draw_step ok hC hal hb1 hb2 hops rg tr d hV h1 (by rw [h2]; simp) h3 Q _ [] fun tm' w' ⟨ι', E', p', d'⟩ => ?_
    have hDeq : (fun k => listed.getD k false = true ∨ k = i) = fun k => (listed.setIfInBounds i true).getD k false = true := funext fun k => propext (hD k).symm
    rw [hDeq] at d'
    refine ih _ ι' tm' w' E' p' (by simp [hsz]) hcnt d' fun j oj hj hoj e he hb => ?_
    rw [hD] at hj ⊢
    rcases hj with hj | rfl
    · exact .inl (hV j oj hj hoj e he hb)
    · rw [h1] at hoj; cases hoj
      exact .inl (h3 e he hb)

/-- a region whose order is drawn -/
theorem draw_sound (ok : F.Ok) (hm : F.c.P.follows .mixedOrders = true) : DrawSound F := by
  intro C hC an id ops env h r hr hq
  obtain ⟨r1, r2, r3⟩ := regOk_ok hr
  unfold regionK at hq
  simp only at hq
  obtain ⟨T, t1, t2, t3⟩ := runDraw_trace ops.toList 0 _ rfl (Nat.zero_le _) hq
  have tr := trace_of (al := aliasPairs an.locals ops.toList []) hC.mono T (fun j hj => t2 j (Nat.zero_le _) hj) (by rw [t1]; rfl)
  cases t3
  have h0 : (T 0).h = h := by rw [t1]; rfl
  have e0 : (T 0).env = env := by rw [t1]; rfl
  have b0 : (T 0).base = h := by rw [t1]; rfl
  refine ⟨by have := next_le tr (Nat.zero_le ops.size) (Nat.le_refl _); simp only [h0] at this; exact this, fun ι tm w st fr => ?_⟩
  refine wp_region_any hm ?_
  have hg : ∀ k, (Array.replicate ops.size false).getD k false = false := by
    intro k; rw [Array.getD_eq_getD_getElem?, Array.getElem?_replicate]; split <;> rfl
  have st0 := (st.with (aliasPairs an.locals ops.toList [])).drawn (w.drawn + 1)
  refine draw_any (al := aliasPairs an.locals ops.toList []) (bad := (aliasPairs an.locals ops.toList []).map (·.1) ++ an.locals) (ι0 := ι) (tm0 := tm) (w0 := { w with drawn := w.drawn + 1 }) ok hC r2 ?_ ?_ r1 (reg_of (r3 rfl)) tr ?_ ops.size _ ι tm _ env 0 (by simp) (cnt_le _ _) ?_ ?_
  · intro t ht; simp at ht ⊢; exact .inr ht
  · intro t s hl
    have : t ∈ (aliasPairs an.locals ops.toList []).map (·.1) := List.mem_map.2 ⟨(t, s), lookN_mem hl, rfl⟩
    simp only [List.contains_iff_mem, List.mem_append]; exact .inl this
  · intro ι' tm' w' st' ts
    refine ⟨rfl, rfl, ι', (st'.without).clear _, ?_⟩
    have ts' := TStep.clear st'.without (TStep.clear st' ts _) (clearOf an id)
    simp only [h0, e0] at ts'
    exact ⟨ts'.sub, ts'.dom, ts'.next, ⟨ts'.keep.os, ts'.keep.tape, ts'.keep.output, ts'.keep.size, ts'.keep.block⟩, ts'.own, ts'.loc⟩
  · have hno : ∀ k, ¬ (Array.replicate ops.size false).getD k false = true := fun k => by rw [hg k]; simp
    refine ⟨Nat.zero_le _, fun k op _ _ => ⟨fun h => by omega, fun h => absurd h (hno k)⟩, fun k op h => by omega, tr.ba0.symm, by rw [e0], fun t => .inr ⟨fun j o' hj => absurd hj (hno j), by rw [e0]⟩, by simp only [b0]; exact st0, Sub.refl _, fun o => .inr (.inl rfl), fun o h1 h2 => .inl ?_, Keep.refl _ _,
      fun b hb => .inl (by simp only [b0] at hb; simp only [h0]; exact hb), fun b hb => .inl (by rw [e0]; exact hb), fun k op x hD => absurd hD (hno k), fun k k' op op' e e' hD => absurd hD (hno k)⟩
    simp only [b0] at h1
    exact fr o h1 h2
  · intro i o hi
    rw [hg i] at hi; cases hi

end
end Go.Proofs.Ytbnlhhfobgjeaaa
