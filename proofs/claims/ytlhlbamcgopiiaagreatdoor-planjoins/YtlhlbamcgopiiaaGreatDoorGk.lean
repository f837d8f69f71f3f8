/-
  A part of the proof of PlanJoins, over the seat YtlhlbamcgopiiaaGreatDoor: for every input the law returns true, and the input reads as it did.
-/
import Derived.Test.YtlhlbamcgopiiaaGreatDoorGj
set_option linter.all false
set_option linter.all false
set_option maxRecDepth 100000
set_option maxHeartbeats 4000000
namespace Go.Proofs.YtlhlbamcgopiiaaGreatDoor
open Go Go.RowKit Go.Proofs
/-! trees of anchors -/
abbrev KeyT := Nat × Nat × Nat
def klt (x y : KeyT) : Prop := x.1 < y.1 ∨ (x.1 = y.1 ∧ (x.2.1 < y.2.1 ∨ (x.2.1 = y.2.1 ∧ x.2.2 < y.2.2)))
instance (x y : KeyT) : Decidable (klt x y) := by unfold klt; infer_instance
theorem klt_irrefl (x : KeyT) : ¬ klt x x := by unfold klt; omega
theorem klt_trans {x y z : KeyT} (h : klt x y) (k : klt y z) : klt x z := by unfold klt at *; omega
theorem klt_asymm {x y : KeyT} (h : klt x y) : ¬ klt y x := by unfold klt at *; omega
theorem klt_total {x y : KeyT} (h : x ≠ y) : klt x y ∨ klt y x := by
  obtain ⟨a, b, c⟩ := x
  obtain ⟨d, e, f⟩ := y
  have : ¬ (a = d ∧ b = e ∧ c = f) := fun ⟨h1, h2, h3⟩ => h (by rw [h1, h2, h3])
  unfold klt; simp only; omega
def AtV.key (a : AtV) : KeyT := (a.clock, a.r, a.n)
abbrev IdT := Nat × Nat
def AtV.id (a : AtV) : IdT := (a.r, a.n)
/-- an atom, and what it is anchored at -/
structure TV where
  a : AtV
  an : IdT
def TV.key (t : TV) : KeyT := t.a.key
def TV.id (t : TV) : IdT := t.a.id
/-- those that are anchored at one, in their order -/
structure Kids (T : List TV) (x : IdT) (ks : List TV) : Prop where
  mem : ∀ t, t ∈ ks ↔ t ∈ T ∧ t.an = x
  ord : ks.Pairwise fun t u => klt u.key t.key
inductive OrdK (T : List TV) : List TV → List AtV → Prop
  | nil : OrdK T [] []
  | cons {c : TV} {cs ks : List TV} {L1 L2 : List AtV} : Kids T c.id ks → OrdK T ks L1 → OrdK T cs L2 → OrdK T (c :: cs) (c.a :: (L1 ++ L2))
theorem Kids.uniq {T : List TV} {x : IdT} {ks ks' : List TV} (h : Kids T x ks) (h' : Kids T x ks') : ks = ks' := by
  have key : ∀ (ks ks' : List TV), ks.Pairwise (fun t u => klt u.key t.key) → ks'.Pairwise (fun t u => klt u.key t.key) → (∀ t, t ∈ ks ↔ t ∈ ks') → ks = ks' := by
    intro ks
    induction ks with
    | nil =>
      intro ks' _ _ hm
      cases ks' with
      | nil => rfl
      | cons a l => have := (hm a).2 (by simp); cases this
    | cons a l ih =>
      intro ks' h1 h2 hm
      cases ks' with
      | nil => have := (hm a).1 (by simp); cases this
      | cons b l' =>
        rw [List.pairwise_cons] at h1 h2
        have hab : a = b := by
          rcases List.mem_cons.1 ((hm a).1 (by simp)) with e | e
          · exact e
          · rcases List.mem_cons.1 ((hm b).2 (by simp)) with e2 | e2
            · exact e2.symm
            · exact (klt_asymm (h1.1 b e2) (h2.1 a e)).elim
        subst hab
        congr 1
        refine ih l' h1.2 h2.2 (fun t => ?_)
        constructor
        · intro ht
          rcases List.mem_cons.1 ((hm t).1 (by simp [ht])) with e | e
          · subst e; exact (klt_irrefl _ (h1.1 _ ht)).elim
          · exact e
        · intro ht
          rcases List.mem_cons.1 ((hm t).2 (by simp [ht])) with e | e
          · subst e; exact (klt_irrefl _ (h2.1 _ ht)).elim
          · exact e
  exact key ks ks' h.ord h'.ord (fun t => by rw [h.mem, h'.mem])
theorem Kids.same {T T' : List TV} (e : ∀ t, t ∈ T ↔ t ∈ T') {x : IdT} {ks : List TV} (h : Kids T x ks) : Kids T' x ks := ⟨fun t => by rw [h.mem, e], h.ord⟩
theorem OrdK.same {T T' : List TV} (e : ∀ t, t ∈ T ↔ t ∈ T') {ks : List TV} {L : List AtV} (h : OrdK T ks L) : OrdK T' ks L := by
  induction h with
  | nil => exact .nil
  | cons hk _ _ ih1 ih2 => exact .cons (hk.same e) ih1 ih2
theorem OrdK.uniq {T : List TV} {ks : List TV} {L L' : List AtV} (h : OrdK T ks L) (h' : OrdK T ks L') : L = L' := by
  induction h generalizing L' with
  | nil => cases h'; rfl
  | cons hk h1 h2 ih1 ih2 =>
    cases h' with
    | cons hk' h1' h2' =>
      have := hk.uniq hk'
      subst this
      rw [ih1 h1', ih2 h2']
theorem OrdK.append {T : List TV} {ks ks' : List TV} {L L' : List AtV} (h : OrdK T ks L) (h' : OrdK T ks' L') : OrdK T (ks ++ ks') (L ++ L') := by
  induction h with
  | nil => exact h'
  | cons hk h1 h2 ih1 ih2 =>
    have := OrdK.cons hk h1 ih2
    simpa using this
theorem OrdK.split {T : List TV} : ∀ {ks ks' : List TV} {L : List AtV}, OrdK T (ks ++ ks') L → ∃ L1 L2, L = L1 ++ L2 ∧ OrdK T ks L1 ∧ OrdK T ks' L2
  | [], ks', L, h => ⟨[], L, rfl, .nil, h⟩
  | c :: ks, ks', L, h => by
    cases h with
    | cons hk h1 h2 =>
      obtain ⟨M1, M2, rfl, g1, g2⟩ := OrdK.split h2
      exact ⟨_, M2, by simp, .cons hk h1 g1, g2⟩
/-- each is anchored at the root, or at one with a lesser key -/
structure Tree (T : List TV) : Prop where
  names : ∀ t ∈ T, ∀ u ∈ T, t.id = u.id → t = u
  up : ∀ t ∈ T, t.an = (0, 0) ∨ ∃ u ∈ T, u.id = t.an ∧ klt u.key t.key
  noroot : ∀ t ∈ T, t.id ≠ (0, 0)
/-- all below a place have greater keys -/
theorem OrdK.low {T : List TV} (V : Tree T) {ks : List TV} {L : List AtV} (h : OrdK T ks L) (hT : ∀ c ∈ ks, c ∈ T) : ∀ x ∈ L, ∃ c ∈ ks, c.key = x.key ∨ klt c.key x.key := by
  induction h with
  | nil => intro x hx; cases hx
  | @cons c cs ks L1 L2 hk h1 h2 ih1 ih2 =>
    intro x hx
    rcases List.mem_cons.1 hx with rfl | hx
    · exact ⟨c, by simp, .inl rfl⟩
    · rcases List.mem_append.1 hx with hx | hx
      · obtain ⟨d, hd, hdk⟩ := ih1 (fun d hd => ((hk.mem d).1 hd).1) x hx
        have hdT := (hk.mem d).1 hd
        refine ⟨c, by simp, .inr ?_⟩
        have hcd : klt c.key d.key := by
          rcases V.up d hdT.1 with e | ⟨u, hu, e1, e2⟩
          · rw [hdT.2] at e; exact (V.noroot c (hT c (by simp)) e).elim
          · have := V.names u hu c (hT c (by simp)) (by rw [e1, hdT.2])
            rw [← this]; exact e2
        rcases hdk with e | e
        · rw [← e]; exact hcd
        · exact klt_trans hcd e
      · obtain ⟨d, hd, hdk⟩ := ih2 (fun d hd => hT d (by simp [hd])) x hx
        exact ⟨d, by simp [hd], hdk⟩
/-- what has nothing to do with a new one stays -/
theorem OrdK.away {T : List TV} {n : TV} {ks : List TV} {L : List AtV} (h : OrdK T ks L) (hn : ∀ x ∈ L, x.id ≠ n.an) : OrdK (T ++ [n]) ks L := by
  induction h with
  | nil => exact .nil
  | @cons c cs ks L1 L2 hk h1 h2 ih1 ih2 =>
    refine .cons ⟨fun t => ?_, hk.ord⟩ (ih1 (fun x hx => hn x (by simp [hx]))) (ih2 (fun x hx => hn x (by simp [hx])))
    rw [hk.mem, List.mem_append, List.mem_singleton]
    constructor
    · rintro ⟨h1, h2⟩; exact ⟨.inl h1, h2⟩
    · rintro ⟨h1 | rfl, h2⟩
      · exact ⟨h1, h2⟩
      · exact (hn c.a (by simp) h2.symm).elim
/-- where one comes among others -/
def insK (n : AtV) (Y : List AtV) : List AtV := Y.takeWhile (fun x => decide (klt n.key x.key)) ++ n :: Y.dropWhile (fun x => decide (klt n.key x.key))
theorem insK_split {n : AtV} {H R : List AtV} (h1 : ∀ x ∈ H, klt n.key x.key) (h2 : ∀ x l, R = x :: l → ¬ klt n.key x.key) : insK n (H ++ R) = H ++ n :: R := by
  unfold insK
  induction H with
  | nil =>
    cases R with
    | nil => rfl
    | cons x l => simp [h2 x l rfl]
  | cons x H ih =>
    have := ih (fun y hy => h1 y (by simp [hy]))
    simp only [List.cons_append, List.takeWhile_cons, List.dropWhile_cons, h1 x (by simp), decide_true, if_true] at this ⊢
    rw [this]
/-- a sorted row, parted at a key -/
theorem kids_part {n : TV} : ∀ {ks : List TV}, ks.Pairwise (fun t u => klt u.key t.key) → (∀ t ∈ ks, t.key ≠ n.key) → ∃ hi lo, ks = hi ++ lo ∧ (∀ t ∈ hi, klt n.key t.key) ∧ (∀ t ∈ lo, klt t.key n.key)
  | [], _, _ => ⟨[], [], rfl, fun t h => (by cases h), fun t h => (by cases h)⟩
  | a :: ks, h, hn => by
    rw [List.pairwise_cons] at h
    rcases klt_total (hn a (by simp)) with e | e
    · refine ⟨[], a :: ks, rfl, fun t h => (by cases h), fun t ht => ?_⟩
      rcases List.mem_cons.1 ht with rfl | ht
      · exact e
      · exact klt_trans (h.1 t ht) e
    · obtain ⟨hi, lo, rfl, g1, g2⟩ := kids_part h.2 (fun t ht => hn t (by simp [ht]))
      refine ⟨a :: hi, lo, rfl, fun t ht => ?_, g2⟩
      rcases List.mem_cons.1 ht with rfl | ht
      · exact e
      · exact g1 t ht
theorem OrdK.head {T : List TV} {ks : List TV} {L : List AtV} (h : OrdK T ks L) : ∀ x l, L = x :: l → ∃ c cs, ks = c :: cs ∧ c.a = x := by
  intro x l e
  cases h with
  | nil => cases e
  | cons hk h1 h2 => cases e; exact ⟨_, _, rfl, rfl⟩
/-- a new one, anchored at the one whose kids these are -/
theorem OrdK.kid {T : List TV} (V : Tree T) {n : TV} {x : IdT} {ks : List TV} {L : List AtV} (hk : Kids T x ks) (h : OrdK T ks L) (hx : n.an = x) (hne : ∀ t ∈ T, t.key ≠ n.key) (hnm : ∀ t ∈ T, t.an ≠ n.id) (hnn : n.an ≠ n.id) (haway : ∀ y ∈ L, y.id ≠ n.an) :
    ∃ ks' H R, Kids (T ++ [n]) x ks' ∧ L = H ++ R ∧ OrdK (T ++ [n]) ks' (H ++ n.a :: R) ∧ (∀ y ∈ H, klt n.key y.key) ∧ ∀ y l, R = y :: l → ¬ klt n.key y.key := by
  obtain ⟨hi, lo, rfl, g1, g2⟩ := kids_part hk.ord (fun t ht => hne t ((hk.mem t).1 ht).1)
  obtain ⟨H, R, rfl, o1, o2⟩ := OrdK.split h
  refine ⟨hi ++ n :: lo, H, R, ⟨fun t => ?_, ?_⟩, rfl, ?_, fun y hy => ?_, fun y l e => ?_⟩
  · have := hk.mem t
    simp only [List.mem_append, List.mem_cons, List.mem_singleton, List.not_mem_nil, or_false] at this ⊢
    constructor
    · rintro (h1 | rfl | h1)
      · have := this.1 (.inl h1); exact ⟨.inl this.1, this.2⟩
      · exact ⟨.inr rfl, hx⟩
      · have := this.1 (.inr h1); exact ⟨.inl this.1, this.2⟩
    · rintro ⟨h1 | rfl, h2⟩
      · rcases this.2 ⟨h1, h2⟩ with h3 | h3
        · exact .inl h3
        · exact .inr (.inr h3)
      · exact .inr (.inl rfl)
  · have ho := hk.ord
    rw [List.pairwise_append] at ho ⊢
    rw [List.pairwise_cons]
    refine ⟨ho.1, ⟨fun t ht => g2 t ht, ho.2.1⟩, fun t ht u hu => ?_⟩
    rcases List.mem_cons.1 hu with rfl | hu
    · exact g1 t ht
    · exact ho.2.2 t ht u hu
  · refine OrdK.append (o1.away (fun y hy => haway y (by simp [hy]))) ?_
    have := OrdK.cons (T := T ++ [n]) (c := n) (ks := []) (L1 := []) ⟨fun t => ?_, List.Pairwise.nil⟩ .nil (o2.away (n := n) (fun y hy => haway y (by simp [hy])))
    · exact this
    · simp only [List.not_mem_nil, List.mem_append, List.mem_singleton, false_iff, not_and]
      rintro (h1 | rfl) h2
      · exact hnm t h1 h2
      · exact hnn h2
  · obtain ⟨c, hc, e⟩ := o1.low V (fun c hc => ((hk.mem c).1 (by simp [hc])).1) y hy
    have := g1 c hc
    rcases e with e | e
    · rw [← e]; exact this
    · exact klt_trans this e
  · obtain ⟨c, cs, rfl, e2⟩ := o2.head y l e
    have := g2 c (by simp)
    rw [← e2]
    exact klt_asymm this
/-- a new one among others, anchored at one of them -/
theorem OrdK.ins {T : List TV} (V : Tree T) {n : TV} (hne : ∀ t ∈ T, t.key ≠ n.key) (hnm : ∀ t ∈ T, t.an ≠ n.id) (hnn : n.an ≠ n.id) {ks : List TV} {L : List AtV} (h : OrdK T ks L) (hT : ∀ c ∈ ks, c ∈ T) (hord : ks.Pairwise fun t u => klt u.key t.key) (hd : (L.map AtV.id).Nodup) :
    ∀ X a Y, L = X ++ a :: Y → a.id = n.an → klt a.key n.key → ∃ H R, Y = H ++ R ∧ OrdK (T ++ [n]) ks (X ++ a :: (H ++ n.a :: R)) ∧ (∀ y ∈ H, klt n.key y.key) ∧ ∀ y l, R = y :: l → ¬ klt n.key y.key := by
  induction h with
  | nil => intro X a Y e; cases X <;> cases e
  | @cons c cs ks L1 L2 hk h1 h2 ih1 ih2 =>
    intro X a Y e hid hlt
    rw [List.pairwise_cons] at hord
    have hd' := hd
    rw [List.map_cons, List.map_append, List.nodup_cons, List.nodup_append] at hd
    obtain ⟨d1, d2, d3, d4⟩ := hd
    have hcT := hT c (by simp)
    have hkT : ∀ d ∈ ks, d ∈ T := fun d hd => ((hk.mem d).1 hd).1
    -- what stands behind this tree has a lesser key
    have after : ∀ y l, L2 = y :: l → klt y.key c.key := fun y l e => by
      obtain ⟨d, ds, rfl, e2⟩ := h2.head y l e
      rw [← e2]; exact hord.1 d (by simp)
    -- the keys of this tree
    have lowc : ∀ y ∈ L1, klt c.key y.key := fun y hy => by
      obtain ⟨d, hd, hdk⟩ := h1.low V hkT y hy
      have hdT := (hk.mem d).1 hd
      have hcd : klt c.key d.key := by
        rcases V.up d hdT.1 with e | ⟨u, hu, e1, e2⟩
        · rw [hdT.2] at e; exact (V.noroot c hcT e).elim
        · have := V.names u hu c hcT (by rw [e1, hdT.2])
          rw [← this]; exact e2
      rcases hdk with e | e
      · rw [← e]; exact hcd
      · exact klt_trans hcd e
    -- a tree that is changed, and what stands behind it
    have glue : ∀ (Y1 H R : List AtV), Y1 = H ++ R → (∀ y ∈ H, klt n.key y.key) → (∀ y l, R = y :: l → ¬ klt n.key y.key) → (klt c.key n.key) → ∃ H' R', Y1 ++ L2 = H' ++ R' ∧ H ++ n.a :: R ++ L2 = H' ++ n.a :: R' ∧ (∀ y ∈ H', klt n.key y.key) ∧ ∀ y l, R' = y :: l → ¬ klt n.key y.key := by
      intro Y1 H R e1 g1 g2 g3
      refine ⟨H, R ++ L2, by rw [e1]; simp, by simp, g1, fun y l e => ?_⟩
      cases R with
      | nil => exact klt_asymm (klt_trans (after y l e) g3)
      | cons z R => cases e; exact g2 _ _ rfl
    cases X with
    | nil =>
      simp only [List.nil_append, List.cons.injEq] at e
      obtain ⟨rfl, rfl⟩ := e
      have haw1 : ∀ y ∈ L1, y.id ≠ n.an := fun y hy e => d1 (by rw [List.mem_append]; left; rw [hid, ← e]; exact List.mem_map.2 ⟨y, hy, rfl⟩)
      have haw2 : ∀ y ∈ L2, y.id ≠ n.an := fun y hy e => d1 (by rw [List.mem_append]; right; rw [hid, ← e]; exact List.mem_map.2 ⟨y, hy, rfl⟩)
      obtain ⟨ks', H, R, k1, k2, k3, k4, k5⟩ := OrdK.kid V hk h1 hid.symm hne hnm hnn haw1
      obtain ⟨H', R', q1, q2, q3, q4⟩ := glue L1 H R k2 k4 k5 hlt
      refine ⟨H', R', q1, ?_, q3, q4⟩
      have := OrdK.cons (T := T ++ [n]) k1 k3 (h2.away haw2)
      rw [q2] at this
      simpa using this
    | cons b X =>
      simp only [List.cons_append, List.cons.injEq] at e
      obtain ⟨rfl, e⟩ := e
      have hca : c.id ≠ n.an := fun e2 => by
        apply d1
        rw [List.mem_append]
        have hm : a ∈ L1 ++ L2 := by rw [e]; simp
        have h3 : c.a.id = a.id := by rw [hid]; exact e2
        rw [h3]
        rcases List.mem_append.1 hm with h4 | h4
        · exact .inl (List.mem_map.2 ⟨a, h4, rfl⟩)
        · exact .inr (List.mem_map.2 ⟨a, h4, rfl⟩)
      have hk' : Kids (T ++ [n]) c.id ks := ⟨fun t => by
        rw [hk.mem, List.mem_append, List.mem_singleton]
        constructor
        · rintro ⟨h1, h2⟩; exact ⟨.inl h1, h2⟩
        · rintro ⟨h1 | rfl, h2⟩
          · exact ⟨h1, h2⟩
          · exact (hca h2.symm).elim, hk.ord⟩
      rw [List.append_eq_append_iff] at e
      rcases e with ⟨us, e1, e2⟩ | ⟨bs, e1, e2⟩
      · -- in what stands behind
        have hin : a ∈ L2 := by rw [e2]; simp
        have haw1 : ∀ y ∈ L1, y.id ≠ n.an := fun y hy e3 => d4 y.id (List.mem_map.2 ⟨y, hy, rfl⟩) a.id (List.mem_map.2 ⟨a, hin, rfl⟩) (by rw [e3, hid])
        obtain ⟨H, R, k1, k2, k3, k4⟩ := ih2 (fun d hd => hT d (by simp [hd])) hord.2 d3 us a Y e2 hid hlt
        refine ⟨H, R, k1, ?_, k3, k4⟩
        have := OrdK.cons hk' (h1.away haw1) k2
        rw [e1]
        simpa using this
      · -- in this tree, or right behind it
        cases bs with
        | nil =>
          simp only [List.append_nil, List.nil_append] at e1 e2
          have hin : a ∈ L2 := by rw [← e2]; simp
          have haw1 : ∀ y ∈ L1, y.id ≠ n.an := fun y hy e3 => d4 y.id (List.mem_map.2 ⟨y, hy, rfl⟩) a.id (List.mem_map.2 ⟨a, hin, rfl⟩) (by rw [e3, hid])
          obtain ⟨H, R, k1, k2, k3, k4⟩ := ih2 (fun d hd => hT d (by simp [hd])) hord.2 d3 [] a Y (by rw [← e2]; rfl) hid hlt
          refine ⟨H, R, k1, ?_, k3, k4⟩
          have := OrdK.cons hk' (h1.away haw1) k2
          rw [← e1]
          simpa using this
        | cons z bs =>
          simp only [List.cons_append, List.cons.injEq] at e2
          obtain ⟨rfl, e2⟩ := e2
          have hin : a ∈ L1 := by rw [e1]; simp
          have haw2 : ∀ y ∈ L2, y.id ≠ n.an := fun y hy e3 => d4 a.id (List.mem_map.2 ⟨a, hin, rfl⟩) y.id (List.mem_map.2 ⟨y, hy, rfl⟩) (by rw [e3, hid])
          obtain ⟨H, R, k1, k2, k3, k4⟩ := ih1 hkT hk.ord d2 X a bs e1 hid hlt
          obtain ⟨H', R', q1, q2, q3, q4⟩ := glue bs H R k1 k3 k4 (klt_trans (lowc a hin) hlt)
          refine ⟨H', R', by rw [e2, q1], ?_, q3, q4⟩
          have := OrdK.cons hk' k2 (h2.away haw2)
          have e5 : X ++ a :: (H ++ n.a :: R) ++ L2 = X ++ a :: (H' ++ n.a :: R') := by rw [← q2]; simp
          rw [e5] at this
          simpa using this
/-- a row that has grown out of a tree -/
structure Grown (T : List TV) (A : List AtV) : Prop where
  tree : Tree T
  ord : ∃ ks, Kids T (0, 0) ks ∧ OrdK T ks A
  mem : ∀ x, x ∈ A ↔ ∃ t ∈ T, t.a = x
  nd : (A.map AtV.id).Nodup
theorem Grown.nil : Grown [] [] := ⟨⟨fun t h => (by cases h), fun t h => (by cases h), fun t h => (by cases h)⟩, ⟨[], ⟨fun t => by simp, List.Pairwise.nil⟩, .nil⟩, fun x => by simp, List.nodup_nil⟩
/-- behind how many an anchor is -/
def posT (A : List AtV) (x : IdT) (p : Nat) : Prop := (x = (0, 0) ∧ p = 0) ∨ ∃ i a, A[i]? = some a ∧ a.id = x ∧ p = i + 1
theorem key_of_id {a b : AtV} (h : a.id ≠ b.id) : a.key ≠ b.key := by
  intro e
  unfold AtV.key at e
  unfold AtV.id at h
  simp only [Prod.mk.injEq] at e
  exact h (by rw [e.2.1, e.2.2])
theorem Grown.add {T : List TV} {A : List AtV} (G : Grown T A) {n : TV} {p : Nat} (hp : posT A n.an p) (hup : n.an = (0, 0) ∨ ∃ u ∈ T, u.id = n.an ∧ klt u.key n.key) (hfr : ∀ t ∈ T, t.id ≠ n.id) (h0 : n.id ≠ (0, 0)) :
    ∃ H R, A.drop p = H ++ R ∧ Grown (T ++ [n]) (A.take p ++ (H ++ n.a :: R)) ∧ (∀ y ∈ H, klt n.key y.key) ∧ ∀ y l, R = y :: l → ¬ klt n.key y.key := by
  have hne : ∀ t ∈ T, t.key ≠ n.key := fun t ht => key_of_id (hfr t ht)
  have hnm : ∀ t ∈ T, t.an ≠ n.id := fun t ht e => by
    rcases G.tree.up t ht with e2 | ⟨u, hu, e2, _⟩
    · exact h0 (by rw [← e, e2])
    · exact hfr u hu (by rw [e2, e])
  have hnn : n.an ≠ n.id := fun e => by
    rcases hup with e2 | ⟨u, hu, e2, _⟩
    · exact h0 (by rw [← e, e2])
    · exact hfr u hu (by rw [e2, e])
  have tree' : Tree (T ++ [n]) := by
    refine ⟨fun t ht u hu e => ?_, fun t ht => ?_, fun t ht => ?_⟩
    · rcases List.mem_append.1 ht with h1 | h1 <;> rcases List.mem_append.1 hu with h2 | h2
      · exact G.tree.names t h1 u h2 e
      · rw [List.mem_singleton] at h2; subst h2; exact (hfr t h1 e).elim
      · rw [List.mem_singleton] at h1; subst h1; exact (hfr u h2 e.symm).elim
      · rw [List.mem_singleton] at h1 h2; rw [h1, h2]
    · rcases List.mem_append.1 ht with h1 | h1
      · rcases G.tree.up t h1 with e2 | ⟨u, hu, e2, e3⟩
        · exact .inl e2
        · exact .inr ⟨u, by simp [hu], e2, e3⟩
      · rw [List.mem_singleton] at h1; subst h1
        rcases hup with e2 | ⟨u, hu, e2, e3⟩
        · exact .inl e2
        · exact .inr ⟨u, by simp [hu], e2, e3⟩
    · rcases List.mem_append.1 ht with h1 | h1
      · exact G.tree.noroot t h1
      · rw [List.mem_singleton] at h1; subst h1; exact h0
  have hfa : ∀ y ∈ A, y.id ≠ n.id := fun y hy => by
    obtain ⟨t, ht, rfl⟩ := (G.mem y).1 hy; exact hfr t ht
  -- what both cases have in common
  have fin : ∀ (B H R : List AtV), A = B ++ (H ++ R) → (∃ ks, Kids (T ++ [n]) (0, 0) ks ∧ OrdK (T ++ [n]) ks (B ++ (H ++ n.a :: R))) → Grown (T ++ [n]) (B ++ (H ++ n.a :: R)) := by
    intro B H R e ho
    have hnd := G.nd
    rw [e] at hnd
    refine ⟨tree', ho, fun x => ?_, ?_⟩
    · have := G.mem x
      rw [e] at this
      simp only [List.mem_append, List.mem_cons, List.mem_singleton] at this ⊢
      constructor
      · rintro (h | h | h | h)
        · obtain ⟨t, ht, e2⟩ := this.1 (.inl h); exact ⟨t, .inl ht, e2⟩
        · obtain ⟨t, ht, e2⟩ := this.1 (.inr (.inl h)); exact ⟨t, .inl ht, e2⟩
        · exact ⟨n, .inr (.inl rfl), h.symm⟩
        · obtain ⟨t, ht, e2⟩ := this.1 (.inr (.inr h)); exact ⟨t, .inl ht, e2⟩
      · rintro ⟨t, h | h, e2⟩
        · rcases this.2 ⟨t, h, e2⟩ with h | h | h
          · exact .inl h
          · exact .inr (.inl h)
          · exact .inr (.inr (.inr h))
        · rcases h with h | h
          · subst h; exact .inr (.inr (.inl e2.symm))
          · cases h
    · have hfb : ∀ y ∈ B ++ (H ++ R), y.id ≠ n.id := by rw [← e]; exact hfa
      rw [← List.append_assoc, List.map_append, List.map_cons, List.nodup_append, List.nodup_cons]
      rw [← List.append_assoc, List.map_append, List.nodup_append] at hnd
      refine ⟨hnd.1, ⟨fun hm => ?_, hnd.2.1⟩, fun x hx y hy => ?_⟩
      · obtain ⟨y, hy, e2⟩ := List.mem_map.1 hm
        exact hfb y (by simp [hy]) e2
      · rcases List.mem_cons.1 hy with rfl | hy
        · obtain ⟨z, hz, rfl⟩ := List.mem_map.1 hx
          exact hfb z (by rcases List.mem_append.1 hz with h | h <;> simp [h])
        · exact hnd.2.2 x hx y hy
  obtain ⟨ks, hk, ho⟩ := G.ord
  have hkT : ∀ d ∈ ks, d ∈ T := fun d hd => ((hk.mem d).1 hd).1
  rcases hp with ⟨e1, rfl⟩ | ⟨i, a, ha, hid, rfl⟩
  · have haw : ∀ y ∈ A, y.id ≠ n.an := fun y hy => by
      obtain ⟨t, ht, rfl⟩ := (G.mem y).1 hy
      rw [e1]; exact G.tree.noroot t ht
    obtain ⟨ks', H, R, k1, k2, k3, k4, k5⟩ := OrdK.kid G.tree hk ho e1 hne hnm hnn haw
    exact ⟨H, R, by rw [List.drop_zero]; exact k2, by rw [List.take_zero]; exact fin [] H R k2 ⟨ks', k1, k3⟩, k4, k5⟩
  · have hsplit : A = A.take i ++ a :: A.drop (i + 1) := by
      obtain ⟨l, e⟩ := List.getElem?_eq_some_iff.1 ha
      rw [← e, ← List.drop_eq_getElem_cons l]
      exact (List.take_append_drop i A).symm
    have hlt : klt a.key n.key := by
      have hm : a ∈ A := List.mem_of_getElem? ha
      obtain ⟨t, ht, e⟩ := (G.mem a).1 hm
      rcases hup with e2 | ⟨u, hu, e2, e3⟩
      · exact (G.tree.noroot t ht (by unfold TV.id; rw [e, hid, e2])).elim
      · have := G.tree.names t ht u hu (by unfold TV.id at e2 ⊢; rw [e, hid, e2])
        rw [← e]; rw [← this] at e3; exact e3
    obtain ⟨H, R, k1, k2, k3, k4⟩ := OrdK.ins G.tree hne hnm hnn ho hkT hk.ord G.nd _ a _ hsplit hid hlt
    have ht1 : A.take (i + 1) = A.take i ++ [a] := by
      obtain ⟨l, e⟩ := List.getElem?_eq_some_iff.1 ha
      rw [List.take_succ_eq_append_getElem l, e]
    refine ⟨H, R, k1, ?_, k3, k4⟩
    rw [ht1]
    have hk' : Kids (T ++ [n]) (0, 0) ks := ⟨fun t => by
      rw [hk.mem, List.mem_append, List.mem_singleton]
      constructor
      · rintro ⟨h1, h2⟩; exact ⟨.inl h1, h2⟩
      · rintro ⟨h1 | rfl, h2⟩
        · exact ⟨h1, h2⟩
        · exfalso
          have hm : a ∈ A := List.mem_of_getElem? ha
          obtain ⟨u, hu, e⟩ := (G.mem a).1 hm
          exact G.tree.noroot u hu (by unfold TV.id; rw [e, hid, h2]), hk.ord⟩
    refine fin (A.take i ++ [a]) H R (by rw [← k1, List.append_assoc]; exact hsplit) ⟨ks, hk', ?_⟩
    simpa using k2
/-- atoms, each anchored at the one ahead -/
def tvs : IdT → List AtV → List TV
  | _, [] => []
  | x, b :: bs => ⟨b, x⟩ :: tvs b.id bs
theorem tvs_atoms : ∀ (bs : List AtV) (x : IdT), (tvs x bs).map (·.a) = bs
  | [], _ => rfl
  | b :: bs, x => by simp [tvs, tvs_atoms bs]
/-- atoms in a row: each has a greater key than the one ahead -/
def Row : AtV → List AtV → Prop
  | _, [] => True
  | a, b :: bs => klt a.key b.key ∧ Row b bs
theorem Grown.chain : ∀ (bs : List AtV) {T : List TV} {P R : List AtV} {a : AtV}, Grown T (P ++ a :: R) → Row a bs → (∀ y l, R = y :: l → ¬ klt a.key y.key) → (∀ b ∈ bs, ∀ t ∈ T, t.id ≠ b.id) → (bs.map AtV.id).Nodup → (∀ b ∈ bs, b.id ≠ (0, 0)) → Grown (T ++ tvs a.id bs) (P ++ a :: (bs ++ R))
  | [], T, P, R, a, G, _, _, _, _, _ => by simpa [tvs] using G
  | b :: bs, T, P, R, a, G, hr, hR, hfr, hnd, h0 => by
    have hget : (P ++ a :: R)[P.length]? = some a := by simp
    obtain ⟨u, hu, e⟩ := (G.mem a).1 (by simp)
    obtain ⟨H, R', k1, k2, k3, k4⟩ := G.add (n := ⟨b, a.id⟩) (p := P.length + 1) (.inr ⟨P.length, a, hget, rfl, rfl⟩) (.inr ⟨u, hu, by unfold TV.id; rw [e], by unfold TV.key; rw [e]; exact hr.1⟩) (hfr b (by simp)) (h0 b (by simp))
    have hd : (P ++ a :: R).drop (P.length + 1) = R := by simp
    have htk : (P ++ a :: R).take (P.length + 1) = P ++ [a] := by rw [List.take_length_add_append]; rfl
    rw [hd] at k1
    rw [htk] at k2
    have hH : H = [] := by
      cases H with
      | nil => rfl
      | cons y H =>
        exfalso
        have h1 := k3 y (by simp)
        rw [k1] at hR
        exact hR y _ rfl (klt_trans hr.1 h1)
    subst hH
    simp only [List.nil_append] at k1 k2
    subst k1
    rw [List.map_cons, List.nodup_cons] at hnd
    have ih := Grown.chain bs (T := T ++ [⟨b, a.id⟩]) (P := P ++ [a]) (R := R) (a := b) (by simpa using k2) hr.2 (fun y l e => k4 y l e) (fun c hc t ht => by
      rcases List.mem_append.1 ht with h | h
      · exact hfr c (by simp [hc]) t h
      · rw [List.mem_singleton] at h; subst h
        intro e; exact hnd.1 (List.mem_map.2 ⟨c, hc, e.symm⟩)) hnd.2 (fun c hc => h0 c (by simp [hc]))
    simpa [tvs] using ih
theorem Grown.run {T : List TV} {A : List AtV} (G : Grown T A) {x : IdT} {b : AtV} {bs : List AtV} {p : Nat} (hp : posT A x p) (hup : x = (0, 0) ∨ ∃ u ∈ T, u.id = x ∧ klt u.key b.key) (hr : Row b bs) (hfr : ∀ c ∈ b :: bs, ∀ t ∈ T, t.id ≠ c.id) (hnd : ((b :: bs).map AtV.id).Nodup) (h0 : ∀ c ∈ b :: bs, c.id ≠ (0, 0)) :
    ∃ H R, A.drop p = H ++ R ∧ Grown (T ++ tvs x (b :: bs)) (A.take p ++ (H ++ (b :: bs ++ R))) ∧ (∀ y ∈ H, klt b.key y.key) ∧ ∀ y l, R = y :: l → ¬ klt b.key y.key := by
  obtain ⟨H, R, k1, k2, k3, k4⟩ := G.add (n := ⟨b, x⟩) hp hup (hfr b (by simp)) (h0 b (by simp))
  rw [List.map_cons, List.nodup_cons] at hnd
  have := Grown.chain bs (T := T ++ [⟨b, x⟩]) (P := A.take p ++ H) (R := R) (a := b) (by simpa using k2) hr k4 (fun c hc t ht => by
      rcases List.mem_append.1 ht with h | h
      · exact hfr c (by simp [hc]) t h
      · rw [List.mem_singleton] at h; subst h
        intro e; exact hnd.1 (List.mem_map.2 ⟨c, hc, e.symm⟩)) hnd.2 (fun c hc => h0 c (by simp [hc]))
  exact ⟨H, R, k1, by simpa [tvs] using this, k3, k4⟩
/-- parts of a row at a key are these alone -/
theorem part_uniq {k : KeyT} : ∀ {H R H' R' : List AtV}, H ++ R = H' ++ R' → (∀ y ∈ H, klt k y.key) → (∀ y l, R = y :: l → ¬ klt k y.key) → (∀ y ∈ H', klt k y.key) → (∀ y l, R' = y :: l → ¬ klt k y.key) → H = H' ∧ R = R'
  | [], R, [], R', e, _, _, _, _ => ⟨rfl, e⟩
  | [], R, y :: H', R', e, _, h2, h3, _ => (h2 y _ e (h3 y (by simp))).elim
  | y :: H, R, [], R', e, h1, _, _, h4 => (h4 y _ e.symm (h1 y (by simp))).elim
  | y :: H, R, z :: H', R', e, h1, h2, h3, h4 => by
    simp only [List.cons_append, List.cons.injEq] at e
    obtain ⟨rfl, e⟩ := e
    obtain ⟨rfl, rfl⟩ := part_uniq e (fun y hy => h1 y (by simp [hy])) h2 (fun y hy => h3 y (by simp [hy])) h4
    exact ⟨rfl, rfl⟩
theorem atF_row (c r : Nat) (sh : Bool) : ∀ (s : Str) (n er en : Nat) (b : UInt8), Row ⟨c, r, n, er, en, b, sh⟩ (atF c r sh (n + 1) (er) (en + 1) s)
  | [], _, _, _, _ => trivial
  | d :: s, n, er, en, b => ⟨by unfold klt AtV.key; simp, atF_row c r sh s (n + 1) er (en + 1) d⟩
theorem atF_ids (c r : Nat) (sh : Bool) : ∀ (s : Str) (n er en : Nat), ((atF c r sh n er en s).map AtV.id).Nodup ∧ ∀ x ∈ atF c r sh n er en s, n ≤ x.n
  | [], _, _, _ => ⟨List.nodup_nil, fun x h => (by cases h)⟩
  | d :: s, n, er, en => by
    obtain ⟨h1, h2⟩ := atF_ids c r sh s (n + 1) er (en + 1)
    simp only [atF, List.map_cons, List.nodup_cons]
    refine ⟨⟨fun hm => ?_, h1⟩, fun x hx => ?_⟩
    · obtain ⟨y, hy, e⟩ := List.mem_map.1 hm
      have := h2 y hy
      unfold AtV.id at e
      simp only [Prod.mk.injEq] at e
      omega
    · rcases List.mem_cons.1 hx with rfl | hx
      · exact Nat.le_refl _
      · have := h2 x hx; omega
end Go.Proofs.YtlhlbamcgopiiaaGreatDoor
set_option linter.all false
set_option maxRecDepth 100000
set_option maxHeartbeats 4000000
namespace Go.Proofs.YtlhlbamcgopiiaaGreatDoor
open Go Go.RowKit Go.Proofs
section
variable {ro : Nat → Option (List AVal)}
theorem nan_u64_ev {h : AHeap} {a : Nat} {Q : AVal → AHeap → Prop} (hq : Q (.bool false) h) : Ev (cfgR ro) 207 [.int .u64 a] h Q := by
  refine Ev.wp rfl rfl Tryz.func207 rfl ?_
  simp -implicitDefEqProofs [Tryz.f207]
  exact hq
theorem cmp_u64_ev {h : AHeap} {a b : Nat} {Q : AVal → AHeap → Prop} (hq : Q (.int .i64 (cmpN a b)) h) : Ev (cfgR ro) 182 [.int .u64 a, .int .u64 b] h Q := by
  refine Ev.wp rfl rfl Tryz.func182 rfl ?_
  simp -implicitDefEqProofs [Tryz.f182]
  refine nan_u64_ev ?_
  simp -implicitDefEqProofs
  refine nan_u64_ev ?_
  unfold cmpN at hq
  by_cases c1 : a < b
  · rw [if_pos c1] at hq
    simp -implicitDefEqProofs [c1]
    exact hq
  · rw [if_neg c1] at hq
    by_cases c2 : b < a
    · rw [if_pos c2] at hq
      simp -implicitDefEqProofs [c1, c2]
      exact hq
    · rw [if_neg c2] at hq
      simp -implicitDefEqProofs [c1, c2]
      exact hq
theorem nan_u16_ev {h : AHeap} {a : Nat} {Q : AVal → AHeap → Prop} (hq : Q (.bool false) h) : Ev (cfgR ro) 208 [.int .u16 a] h Q := by
  refine Ev.wp rfl rfl Tryz.func208 rfl ?_
  simp -implicitDefEqProofs [Tryz.f208]
  exact hq
theorem cmp_u16_ev {h : AHeap} {a b : Nat} {Q : AVal → AHeap → Prop} (hq : Q (.int .i64 (cmpN a b)) h) : Ev (cfgR ro) 183 [.int .u16 a, .int .u16 b] h Q := by
  refine Ev.wp rfl rfl Tryz.func183 rfl ?_
  simp -implicitDefEqProofs [Tryz.f183]
  refine nan_u16_ev ?_
  simp -implicitDefEqProofs
  refine nan_u16_ev ?_
  unfold cmpN at hq
  by_cases c1 : a < b
  · rw [if_pos c1] at hq
    simp -implicitDefEqProofs [c1]
    exact hq
  · rw [if_neg c1] at hq
    by_cases c2 : b < a
    · rw [if_pos c2] at hq
      simp -implicitDefEqProofs [c1, c2]
      exact hq
    · rw [if_neg c2] at hq
      simp -implicitDefEqProofs [c1, c2]
      exact hq
/-- the first that is not 0 -/
def orI : List Int → Int
  | [] => 0
  | x :: l => if x ≠ 0 then x else orI l
theorem or_ev {h : AHeap} {v : AVal} {l : List Int} (hs : Sl (cfgR ro) h 1 v (l.map fun x => [.int .i64 x])) (hl : l.length < 2 ^ 60) {Q : AVal → AHeap → Prop} (hq : Q (.int .i64 (orI l)) h) : Ev (cfgR ro) 181 [v] h Q := by
  refine Ev.wp rfl rfl Tryz.func181 rfl ?_
  have hL : lenR (cfgR ro) h 111 v = .ok (.int .i64 (l.length : Nat)) := by have := hs.lenR (t := 111) un111; simpa using this
  simp -implicitDefEqProofs [Tryz.f181, hL]
  obtain ⟨I, hI⟩ : ∃ I : Nat → List AVal → AHeap → Prop, I = fun m env h' => h' = h ∧ ∃ i : Nat, i + m = l.length ∧ orI l = orI (l.drop i) ∧
    env = (.dead :: .dead :: .dead :: .int .i64 0 :: .dead :: .dead :: v :: .int .i64 (l.length : Nat) :: .int .i64 (i : Nat) :: .dead :: .dead :: .dead :: .dead :: .dead :: .dead :: .dead :: .dead :: .dead :: []) := ⟨_, rfl⟩
  refine loop_of I ?_ l.length (by rw [hI]; exact ⟨rfl, 0, by omega, rfl, rfl⟩)
  intro m env h' hi
  rw [hI] at hi
  obtain ⟨rfl, i, him, hno, rfl⟩ := hi
  by_cases hlt : i < l.length
  · obtain ⟨x, hx⟩ : ∃ x, l[i]'hlt = x := ⟨_, rfl⟩
    have he : (l.map fun x => [AVal.int .i64 x])[i]? = some [.int .i64 x] := by rw [List.getElem?_map, List.getElem?_eq_getElem hlt, hx]; rfl
    have hix : indexAddrR Tryz.prog 111 v (.int .i64 (i : Nat)) = .ok (elp v 1 i) := hs.idx un111 sz3 (by simpa using hlt)
    have hld : loadR (cfgR ro) h' 3 (elp v 1 i) = .ok (.int .i64 x) := hs.load1 he rfl ag3
    have w1 : IntKind.i64.wrap ((i : Int) + 1) = ((i + 1 : Nat) : Int) := by rw [w64 (by omega) (by omega)]; omega
    have hst : orI (l.drop i) = if x ≠ 0 then x else orI (l.drop (i + 1)) := by rw [List.drop_eq_getElem_cons hlt, hx]; rfl
    by_cases c : x = 0
    · rw [if_neg (fun h => h c)] at hst
      simp -implicitDefEqProofs [hlt, hix, hld, c, w1]
      exact .mk (m := m - 1) (by omega) (by rw [hI]; exact ⟨rfl, i + 1, by omega, hno.trans hst, by simp⟩)
    · rw [if_pos c] at hst
      rw [hno, hst] at hq
      simp -implicitDefEqProofs [hlt, hix, hld, c, w1]
      exact hq
  · have : l.drop i = [] := List.drop_eq_nil_of_le (by omega)
    rw [hno, this] at hq
    simp only [orI] at hq
    simp -implicitDefEqProofs [hlt]
    exact hq
/-- which of two keys is the lesser one -/
def cmpK (x y : KeyT) : Int := orI [cmpN x.1 y.1, cmpN x.2.1 y.2.1, cmpN x.2.2 y.2.2]
theorem cmpN_lt {a b : Nat} (h : a < b) : cmpN a b = -1 := by unfold cmpN; rw [if_pos h]
theorem cmpN_gt {a b : Nat} (h : b < a) : cmpN a b = 1 := by unfold cmpN; rw [if_neg (by omega), if_pos h]
theorem cmpN_eq {a b : Nat} (h : a = b) : cmpN a b = 0 := by unfold cmpN; rw [if_neg (by omega), if_neg (by omega)]
theorem cmpK_cases (x y : KeyT) : (cmpK x y = -1 ∧ klt x y ∧ ¬ klt y x) ∨ (cmpK x y = 1 ∧ klt y x ∧ ¬ klt x y) ∨ (cmpK x y = 0 ∧ ¬ klt x y ∧ ¬ klt y x) := by
  unfold cmpK klt
  rcases Nat.lt_trichotomy x.1 y.1 with h | h | h
  · left; rw [cmpN_lt h]; exact ⟨rfl, by omega, by omega⟩
  · rw [cmpN_eq h]
    rcases Nat.lt_trichotomy x.2.1 y.2.1 with h2 | h2 | h2
    · left; rw [cmpN_lt h2]; exact ⟨rfl, by omega, by omega⟩
    · rw [cmpN_eq h2]
      rcases Nat.lt_trichotomy x.2.2 y.2.2 with h3 | h3 | h3
      · left; rw [cmpN_lt h3]; exact ⟨rfl, by omega, by omega⟩
      · right; right; rw [cmpN_eq h3]; exact ⟨rfl, by omega, by omega⟩
      · right; left; rw [cmpN_gt h3]; exact ⟨rfl, by omega, by omega⟩
    · right; left; rw [cmpN_gt h2]; exact ⟨rfl, by omega, by omega⟩
  · right; left; rw [cmpN_gt h]; exact ⟨rfl, by omega, by omega⟩
theorem cmpK_lt (x y : KeyT) : cmpK x y < 0 ↔ klt x y := by
  rcases cmpK_cases x y with ⟨a, b, c⟩ | ⟨a, b, c⟩ | ⟨a, b, c⟩ <;> rw [a]
  · exact ⟨fun _ => b, fun _ => by decide⟩
  · exact ⟨fun h => absurd h (by decide), fun h => (c h).elim⟩
  · exact ⟨fun h => absurd h (by decide), fun h => (b h).elim⟩
theorem cmpK_gt (x y : KeyT) : 0 < cmpK x y ↔ klt y x := by
  rcases cmpK_cases x y with ⟨a, b, c⟩ | ⟨a, b, c⟩ | ⟨a, b, c⟩ <;> rw [a]
  · exact ⟨fun h => absurd h (by decide), fun h => (c h).elim⟩
  · exact ⟨fun _ => b, fun _ => by decide⟩
  · exact ⟨fun h => absurd h (by decide), fun h => (c h).elim⟩
theorem keyCmp_ev {h : AHeap} {c r n c' r' n' : Nat} {Q : AVal → AHeap → Prop} (hq : ∀ h', Old h h' → Q (.int .i64 (cmpK (c, r, n) (c', r', n'))) h') : Ev (cfgR ro) 154 [keyA c r n, keyA c' r' n'] h Q := by
  refine Ev.wp rfl rfl Tryz.func154 rfl ?_
  simp -implicitDefEqProofs [Tryz.f154, keyA]
  refine cmp_u64_ev ?_
  simp -implicitDefEqProofs [same_self]
  refine cmp_u16_ev ?_
  simp -implicitDefEqProofs [same_self]
  refine cmp32_ev ?_
  have o1 : Old h (h.push (.row 1 false [.int .i64 (cmpN c c'), .int .i64 (cmpN r r'), .int .i64 (cmpN n n')])) := (Old.refl h).push _
  have hsl : Sl (cfgR ro) (h.push (.row 1 false [.int .i64 (cmpN c c'), .int .i64 (cmpN r r'), .int .i64 (cmpN n n')])) 1 (.sl h.next 0 3) ([cmpN c c', cmpN r r', cmpN n n'].map fun x => [.int .i64 x]) :=
    Mine.sl (h0 := h) ⟨by simp, .inr ⟨h.next, false, rfl, Nat.le_refl _, by simp, by rw [get_push_next]; rfl⟩⟩
  simp -implicitDefEqProofs [same_self, buildSliceR, reps]
  refine or_ev hsl (by simp) ?_
  have hq := hq _ o1
  unfold cmpK at hq
  simp -implicitDefEqProofs [same_self]
  exact hq
theorem keyLess_ev {h : AHeap} {c r n c' r' n' : Nat} {Q : AVal → AHeap → Prop} (hq : Q (.bool (decide (klt (c, r, n) (c', r', n')))) h) : Ev (cfgR ro) 107 [keyA c r n, keyA c' r' n'] h Q := by
  refine Ev.wp rfl rfl Tryz.func107 rfl ?_
  have fin : ∀ x : Bool, (x = true ↔ klt (c, r, n) (c', r', n')) → Q (.bool x) h := fun x hx => by
    have : decide (klt (c, r, n) (c', r', n')) = x := by
      cases x with
      | true => exact decide_eq_true (hx.1 rfl)
      | false => exact decide_eq_false (fun hh => by have := hx.2 hh; cases this)
    rw [this] at hq; exact hq
  unfold klt at fin
  simp only at fin
  by_cases c1 : c = c'
  · by_cases c2 : r < r'
    · have d2 : decide ((r : Int) < (r' : Int)) = true := decide_eq_true (by omega)
      simp -implicitDefEqProofs [Tryz.f107, keyA, c1, c2, d2]
      exact fin true ⟨fun _ => by omega, fun _ => rfl⟩
    · have d2 : decide ((r : Int) < (r' : Int)) = false := decide_eq_false (by omega)
      by_cases c3 : r = r'
      · by_cases c4 : n < n'
        · have d4 : decide ((n : Int) < (n' : Int)) = true := decide_eq_true (by omega)
          simp -implicitDefEqProofs [Tryz.f107, keyA, c1, c2, d2, c3, c4, d4]
          exact fin true ⟨fun _ => by omega, fun _ => rfl⟩
        · have d4 : decide ((n : Int) < (n' : Int)) = false := decide_eq_false (by omega)
          simp -implicitDefEqProofs [Tryz.f107, keyA, c1, c2, d2, c3, c4, d4]
          exact fin false ⟨fun e => (nomatch e), fun hh => by omega⟩
      · have d3 : ¬ ((r : Int) = (r' : Int)) := by omega
        simp -implicitDefEqProofs [Tryz.f107, keyA, c1, c2, d2, c3, d3]
        exact fin false ⟨fun e => (nomatch e), fun hh => by omega⟩
  · have d1 : ¬ ((c : Int) = (c' : Int)) := by omega
    by_cases c2 : c < c'
    · have d2 : decide ((c : Int) < (c' : Int)) = true := decide_eq_true (by omega)
      simp -implicitDefEqProofs [Tryz.f107, keyA, c1, d1, c2, d2]
      exact fin true ⟨fun _ => by omega, fun _ => rfl⟩
    · have d2 : decide ((c : Int) < (c' : Int)) = false := decide_eq_false (by omega)
      simp -implicitDefEqProofs [Tryz.f107, keyA, c1, d1, c2, d2]
      exact fin false ⟨fun e => (nomatch e), fun hh => by omega⟩
end
end Go.Proofs.YtlhlbamcgopiiaaGreatDoor
set_option linter.all false
set_option maxRecDepth 100000
set_option maxHeartbeats 4000000
namespace Go.Proofs.YtlhlbamcgopiiaaGreatDoor
open Go Go.RowKit Go.Proofs
variable {zT : List AVal}
theorem flat_nd : ∀ {L : List (Nat × RunV)}, Rok L → ((flat (L.map (·.2))).map AtV.id).Nodup
  | [], _ => List.nodup_nil
  | p :: L, R => by
    have ha := R.apart
    rw [List.pairwise_cons] at ha
    have ih := flat_nd (L := L) ⟨fun q hq => R.ok q (by simp [hq]), ha.2⟩
    rw [List.map_cons, flat_cons, List.map_append, List.nodup_append]
    refine ⟨(atF_ids _ _ _ _ _ _ _).1, ih, fun x hx y hy e => ?_⟩
    obtain ⟨a, h1, rfl⟩ := List.mem_map.1 hx
    obtain ⟨b, h2, rfl⟩ := List.mem_map.1 hy
    obtain ⟨l, hl, h3⟩ := List.mem_flatten.1 h2
    obtain ⟨z, hz, rfl⟩ := List.mem_map.1 hl
    obtain ⟨q, hq, rfl⟩ := List.mem_map.1 hz
    have m1 := mem_atomsOf h1
    have m2 := mem_atomsOf h3
    unfold AtV.id at e
    simp only [Prod.mk.injEq] at e
    rw [e.1, e.2] at m1
    exact apart_has (ha.1 q hq) m1 m2
theorem StA.nd {h : AHeap} {s : Nat} {O : Nat → Prop} {A : List AtV} (S : StA zT h s O A) : (A.map AtV.id).Nodup := by
  obtain ⟨m, t, ix, a1, a2, a3, a4, a5, a6, a7⟩ := S
  rw [← a5]; exact flat_nd a2
theorem StA.pos {h : AHeap} {s : Nat} {O : Nat → Prop} {A : List AtV} (S : StA zT h s O A) : ∀ a ∈ A, 1 ≤ a.n := by
  obtain ⟨m, t, ix, a1, a2, a3, a4, a5, a6, a7⟩ := S
  intro a ha
  rw [← a5] at ha
  obtain ⟨l, hl, h3⟩ := List.mem_flatten.1 ha
  obtain ⟨z, hz, rfl⟩ := List.mem_map.1 hl
  obtain ⟨q, hq, rfl⟩ := List.mem_map.1 hz
  have := (mem_atomsOf h3).2.1
  have := (a2.ok q hq).n1
  omega
theorem atIx_at' {A : List AtV} (hn : (A.map AtV.id).Nodup) {i : Nat} {a : AtV} (h : A[i]? = some a) : atIx A a.r a.n = some i := by
  refine atIx_some h ⟨rfl, rfl⟩ (fun j b hj hb hh => ?_)
  obtain ⟨l1, e1⟩ := List.getElem?_eq_some_iff.1 h
  obtain ⟨l2, e2⟩ := List.getElem?_eq_some_iff.1 hb
  have := (List.nodup_iff_pairwise_ne.1 hn)
  rw [List.pairwise_iff_getElem] at this
  have := this j i (by simpa using l2) (by simpa using l1) hj
  simp only [List.getElem_map, e1, e2] at this
  exact this (by unfold AtV.id; rw [hh.1, hh.2])
theorem posA_iff {A : List AtV} {x : IdT} {p : Nat} (h : posA A x.1 x.2 = some p) : posT A x p := by
  unfold posA at h
  by_cases c : x.1 = 0 ∧ x.2 = 0
  · rw [if_pos c] at h
    exact .inl ⟨Prod.ext c.1 c.2, (Option.some.inj h).symm⟩
  · rw [if_neg c] at h
    cases hx : atIx A x.1 x.2 with
    | none => rw [hx] at h; cases h
    | some i =>
      rw [hx] at h
      have hp : i + 1 = p := Option.some.inj h
      have hl := atIx_lt hx
      refine .inr ⟨i, A[i], List.getElem?_eq_getElem hl, ?_, hp.symm⟩
      unfold atIx at hx
      rw [List.findIdx?_eq_some_iff_getElem] at hx
      obtain ⟨_, h2, _⟩ := hx
      have h2 := of_decide_eq_true h2
      exact Prod.ext h2.1 h2.2
theorem atoms_key {z : RunV} {a : AtV} (h : a ∈ atomsOf z) {k : KeyT} (hk : klt k (z.clock, z.r, z.n)) : klt k a.key := by
  obtain ⟨i, hi⟩ := List.mem_iff_getElem?.1 h
  rw [atomsOf_get] at hi
  cases hb : z.text[i]? with
  | none => rw [hb] at hi; cases hi
  | some b =>
    rw [hb] at hi
    cases hi
    unfold klt AtV.key at *
    simp only at *
    omega
section
variable {ro : Nat → Option (List AVal)}
theorem shasG_ev {h : AHeap} {s : Nat} {O : Nat → Prop} {A : List AtV} {ar an : Nat} (S : StA zT h s O A) (ha : an < 2 ^ 32) {Q : AVal → AHeap → Prop} (hq : Q (.bool (atIx A ar an).isSome) h) : Ev (cfgR ro) 149 [.ptr s 0, idA ar an] h Q := by
  obtain ⟨m, t, ix, a1, a2, a3, a4, a5, a6, a7⟩ := S
  refine has_ev a1 a2 ha (fun b hb => ?_)
  have : (atIx A ar an).isSome = b := by
    cases b with
    | true =>
      obtain ⟨p, hp, hh⟩ := hb.1 rfl
      cases e : atIx A ar an with
      | some i => rfl
      | none =>
        rw [← a5] at e
        exact (atIx_none.1 e p.2 (List.mem_map.2 ⟨p, hp, rfl⟩) hh).elim
    | false =>
      have : atIx A ar an = none := by
        rw [← a5]
        refine atIx_none.2 (fun y hy hh => ?_)
        obtain ⟨p, hp, rfl⟩ := List.mem_map.1 hy
        have := hb.2 ⟨p, hp, hh⟩; cases this
      rw [this]; rfl
  rw [← this]; exact hq
theorem where_ev (hro : ro 0 = some [.int .u16 0, .int .u32 0]) {h : AHeap} {s : Nat} {O : Nat → Prop} {A : List AtV} {x : IdT} {k : KeyT} (S : StA zT h s O A) (hx : x.2 < 2 ^ 32) {Q : AVal → AHeap → Prop}
    (hq1 : x ≠ (0, 0) → atIx A x.1 x.2 = none → Q (.tuple [idA 0 0, .int .i64 40]) h)
    (hq2 : ∀ p0 H R (y : IdT) h', Old h h' → posA A x.1 x.2 = some p0 → A.drop p0 = H ++ R → (∀ z ∈ H, klt k z.key) → (∀ z l, R = z :: l → ¬ klt k z.key) → posA A y.1 y.2 = some (p0 + H.length) → y.2 < 2 ^ 32 → Q (.tuple [idA y.1 y.2, .int .i64 0]) h') :
    Ev (cfgR ro) 160 [.ptr s 0, idA x.1 x.2, keyA k.1 k.2.1 k.2.2] h Q := by
  refine Ev.wp rfl rfl Tryz.func160 rfl ?_
  simp only [idA] at hq1 hq2
  simp -implicitDefEqProofs [Tryz.f160, idA, keyA, same_self]
  refine idRoot_ev hro ?_
  by_cases c : x.1 = 0 ∧ x.2 = 0
  · have hpos : posA A x.1 x.2 = some 0 := by unfold posA; rw [if_pos c]
    rw [decide_eq_true c]
    simp -implicitDefEqProofs [idA, keyA, same_self]
    have hnd := S.nd
    have hps := S.pos
    have hlen := S.len
    have hnum := S.num
    refine scope_loop2 (by simp [findLabel]) (fun m env h' => Old h h' ∧ ∃ (H R : List AtV) (y : IdT), m = R.length ∧ A.drop 0 = H ++ R ∧ (∀ z ∈ H, klt k z.key) ∧ posA A y.1 y.2 = some (0 + H.length) ∧ y.2 < 2 ^ 32 ∧
      env = (.ptr s 0 :: .dead :: .dead :: .dead :: .dead :: .cell [.int .u64 k.1, .int .u16 k.2.1, .int .u32 k.2.2] :: .cell [.int .u16 0, .int .u32 0] :: .dead :: .cell [.int .u16 y.1, .int .u32 y.2] :: .dead :: .dead :: .dead :: .dead :: .dead :: .dead :: .dead :: .dead :: .dead :: .dead :: .dead :: .dead :: .dead :: .dead :: .dead :: .dead :: .dead :: .dead :: .dead :: .dead :: .dead :: .dead :: .dead :: .dead :: .dead :: .dead :: .dead :: .dead :: .dead :: .dead :: [])) ?_ (A.drop 0).length ⟨Old.refl h, [], A.drop 0, x, rfl, rfl, fun z hz => (by cases hz), hpos, hx, rfl⟩
    rintro m env h' ih ⟨oo, H, R, y, rfl, e1, e2, e3, e4, rfl⟩
    have S' := S.keep oo
    have hdr : A.drop (0 + H.length) = R := by rw [← List.drop_drop, e1]; simp
    simp -implicitDefEqProofs [idA, keyA, same_self]
    refine sbehind_ev hro S' (ar := y.1) (an := y.2) e4 (fun kk z rest q1 q2 q3 q4 => ?_) (fun q1 => ?_)
    · have hkk : kk = 0 + H.length := by rw [e3] at q1; exact (Option.some.inj q1).symm
      rw [hkk, hdr] at q2
      have zp := q3.pos
      have zn := q3.n2
      simp -implicitDefEqProofs [idA, keyA, same_self, RunV.cells]
      refine keyCmp_ev (c := z.clock) (r := z.r) (n := z.n) (c' := k.1) (r' := k.2.1) (n' := k.2.2) (fun h2 o2 => ?_)
      have hgt := cmpK_gt (z.clock, z.r, z.n) k
      obtain ⟨cv, hcv⟩ : ∃ cv, cv = cmpK (z.clock, z.r, z.n) (k.1, k.2.1, k.2.2) := ⟨_, rfl⟩
      rw [← hcv] at hgt ⊢
      by_cases ck : 0 < cv
      · have hlt := hgt.1 ck
        have dk : decide (0 < cv) = true := decide_eq_true ck
        simp -implicitDefEqProofs [idA, keyA, same_self, RunV.cells, dk, ck]
        refine rLast_ev (x := z) zp (by omega) ?_
        obtain ⟨ln, hln⟩ : ∃ ln, ln = z.n + (z.text.length - 1) := ⟨_, rfl⟩
        rw [← hln]
        simp -implicitDefEqProofs [idA, keyA, same_self, RunV.cells]
        refine ih rest.length ?_ _ _ ⟨oo.trans o2, H ++ atomsOf z, rest, (z.r, ln), rfl, by rw [e1, q2]; simp, fun w hw => ?_, ?_, by simp only []; omega, rfl⟩
        · rw [q2, List.length_append, atomsOf_len]; omega
        · rcases List.mem_append.1 hw with hw | hw
          · exact e2 w hw
          · exact atoms_key hw hlt
        · have hlast : ∃ b, A[0 + H.length + (z.text.length - 1)]? = some (z.atom (z.text.length - 1) b) := by
            have hb : z.text[z.text.length - 1]? = some (z.text[z.text.length - 1]'(by omega)) := List.getElem?_eq_getElem _
            refine ⟨z.text[z.text.length - 1]'(by omega), ?_⟩
            rw [← List.getElem?_drop, hdr, q2, List.getElem?_append_left (by rw [atomsOf_len]; omega), atomsOf_get, hb]; rfl
          obtain ⟨b, hb⟩ := hlast
          have := atIx_at' hnd hb
          have hne : ¬ (z.r = 0 ∧ ln = 0) := by have := q3.n1; omega
          unfold posA
          rw [if_neg hne]
          have e9 : (z.atom (z.text.length - 1) b).n = ln := by rw [hln]; rfl
          rw [e9] at this
          have e8 : (z.atom (z.text.length - 1) b).r = z.r := rfl
          rw [e8] at this
          rw [this, List.length_append, atomsOf_len]
          simp only [Option.map_some]; congr 1; omega
      · have dk : decide (0 < cv) = false := decide_eq_false ck
        simp -implicitDefEqProofs [idA, keyA, same_self, RunV.cells, dk, ck]
        refine hq2 0 H R y h2 (oo.trans o2) hpos e1 e2 (fun w l e => ?_) e3 e4
        rw [q2] at e
        have hb : z.text[0]? = some (z.text[0]'(by omega)) := List.getElem?_eq_getElem _
        have h0 : (atomsOf z ++ rest)[0]? = some (z.atom 0 (z.text[0]'(by omega))) := by
          rw [List.getElem?_append_left (by rw [atomsOf_len]; omega), atomsOf_get, hb]; rfl
        rw [e] at h0
        have h0 : w = z.atom 0 (z.text[0]'(by omega)) := by simpa using h0
        rw [h0]
        exact fun hh => ck (hgt.2 hh)
    · have hR : R = [] := by
        have := q1 _ e3
        have h2 := congrArg List.length hdr
        rw [List.length_drop] at h2
        exact List.length_eq_zero_iff.1 (by omega)
      simp -implicitDefEqProofs [idA, keyA, same_self, zeroRun]
      exact hq2 0 H R y h' oo hpos e1 e2 (fun w l e => by rw [hR] at e; cases e) e3 e4
  · rw [decide_eq_false c]
    simp -implicitDefEqProofs [idA, keyA, same_self]
    refine shasG_ev S hx ?_
    cases hix : atIx A x.1 x.2 with
    | none =>
      simp -implicitDefEqProofs [idA, keyA, same_self]
      exact hq1 (fun e => c ⟨by rw [e], by rw [e]⟩) hix
    | some i =>
      have hpos : posA A x.1 x.2 = some (i + 1) := by unfold posA; rw [if_neg c, hix]; rfl
      simp -implicitDefEqProofs [idA, keyA, same_self]
      have hnd := S.nd
      have hps := S.pos
      have hlen := S.len
      have hnum := S.num
      refine scope_loop2 (by simp [findLabel]) (fun m env h' => Old h h' ∧ ∃ (H R : List AtV) (y : IdT), m = R.length ∧ A.drop (i + 1) = H ++ R ∧ (∀ z ∈ H, klt k z.key) ∧ posA A y.1 y.2 = some ((i + 1) + H.length) ∧ y.2 < 2 ^ 32 ∧
        env = (.ptr s 0 :: .dead :: .dead :: .dead :: .dead :: .cell [.int .u64 k.1, .int .u16 k.2.1, .int .u32 k.2.2] :: .cell [.int .u16 0, .int .u32 0] :: .dead :: .cell [.int .u16 y.1, .int .u32 y.2] :: .dead :: .dead :: .dead :: .dead :: .dead :: .dead :: .dead :: .dead :: .dead :: .dead :: .dead :: .dead :: .dead :: .dead :: .dead :: .dead :: .dead :: .dead :: .dead :: .dead :: .dead :: .dead :: .dead :: .dead :: .dead :: .dead :: .dead :: .dead :: .dead :: .dead :: [])) ?_ (A.drop (i + 1)).length ⟨Old.refl h, [], A.drop (i + 1), x, rfl, rfl, fun z hz => (by cases hz), hpos, hx, rfl⟩
      rintro m env h' ih ⟨oo, H, R, y, rfl, e1, e2, e3, e4, rfl⟩
      have S' := S.keep oo
      have hdr : A.drop ((i + 1) + H.length) = R := by rw [← List.drop_drop, e1]; simp
      simp -implicitDefEqProofs [idA, keyA, same_self]
      refine sbehind_ev hro S' (ar := y.1) (an := y.2) e4 (fun kk z rest q1 q2 q3 q4 => ?_) (fun q1 => ?_)
      · have hkk : kk = (i + 1) + H.length := by rw [e3] at q1; exact (Option.some.inj q1).symm
        rw [hkk, hdr] at q2
        have zp := q3.pos
        have zn := q3.n2
        simp -implicitDefEqProofs [idA, keyA, same_self, RunV.cells]
        refine keyCmp_ev (c := z.clock) (r := z.r) (n := z.n) (c' := k.1) (r' := k.2.1) (n' := k.2.2) (fun h2 o2 => ?_)
        have hgt := cmpK_gt (z.clock, z.r, z.n) k
        obtain ⟨cv, hcv⟩ : ∃ cv, cv = cmpK (z.clock, z.r, z.n) (k.1, k.2.1, k.2.2) := ⟨_, rfl⟩
        rw [← hcv] at hgt ⊢
        by_cases ck : 0 < cv
        · have hlt := hgt.1 ck
          have dk : decide (0 < cv) = true := decide_eq_true ck
          simp -implicitDefEqProofs [idA, keyA, same_self, RunV.cells, dk, ck]
          refine rLast_ev (x := z) zp (by omega) ?_
          obtain ⟨ln, hln⟩ : ∃ ln, ln = z.n + (z.text.length - 1) := ⟨_, rfl⟩
          rw [← hln]
          simp -implicitDefEqProofs [idA, keyA, same_self, RunV.cells]
          refine ih rest.length ?_ _ _ ⟨oo.trans o2, H ++ atomsOf z, rest, (z.r, ln), rfl, by rw [e1, q2]; simp, fun w hw => ?_, ?_, by simp only []; omega, rfl⟩
          · rw [q2, List.length_append, atomsOf_len]; omega
          · rcases List.mem_append.1 hw with hw | hw
            · exact e2 w hw
            · exact atoms_key hw hlt
          · have hlast : ∃ b, A[(i + 1) + H.length + (z.text.length - 1)]? = some (z.atom (z.text.length - 1) b) := by
              have hb : z.text[z.text.length - 1]? = some (z.text[z.text.length - 1]'(by omega)) := List.getElem?_eq_getElem _
              refine ⟨z.text[z.text.length - 1]'(by omega), ?_⟩
              rw [← List.getElem?_drop, hdr, q2, List.getElem?_append_left (by rw [atomsOf_len]; omega), atomsOf_get, hb]; rfl
            obtain ⟨b, hb⟩ := hlast
            have := atIx_at' hnd hb
            have hne : ¬ (z.r = 0 ∧ ln = 0) := by have := q3.n1; omega
            unfold posA
            rw [if_neg hne]
            have e9 : (z.atom (z.text.length - 1) b).n = ln := by rw [hln]; rfl
            rw [e9] at this
            have e8 : (z.atom (z.text.length - 1) b).r = z.r := rfl
            rw [e8] at this
            rw [this, List.length_append, atomsOf_len]
            simp only [Option.map_some]; congr 1; omega
        · have dk : decide (0 < cv) = false := decide_eq_false ck
          simp -implicitDefEqProofs [idA, keyA, same_self, RunV.cells, dk, ck]
          refine hq2 (i + 1) H R y h2 (oo.trans o2) hpos e1 e2 (fun w l e => ?_) e3 e4
          rw [q2] at e
          have hb : z.text[0]? = some (z.text[0]'(by omega)) := List.getElem?_eq_getElem _
          have h0 : (atomsOf z ++ rest)[0]? = some (z.atom 0 (z.text[0]'(by omega))) := by
            rw [List.getElem?_append_left (by rw [atomsOf_len]; omega), atomsOf_get, hb]; rfl
          rw [e] at h0
          have h0 : w = z.atom 0 (z.text[0]'(by omega)) := by simpa using h0
          rw [h0]
          exact fun hh => ck (hgt.2 hh)
      · have hR : R = [] := by
          have := q1 _ e3
          have h2 := congrArg List.length hdr
          rw [List.length_drop] at h2
          exact List.length_eq_zero_iff.1 (by omega)
        simp -implicitDefEqProofs [idA, keyA, same_self, zeroRun]
        exact hq2 (i + 1) H R y h' oo hpos e1 e2 (fun w l e => by rw [hR] at e; cases e) e3 e4
end
end Go.Proofs.YtlhlbamcgopiiaaGreatDoor
set_option linter.all false
set_option maxRecDepth 100000
set_option maxHeartbeats 4000000
namespace Go.Proofs.YtlhlbamcgopiiaaGreatDoor
open Go Go.RowKit Go.Proofs
variable {zT : List AVal}
def RunV.key (x : RunV) : KeyT := (x.clock, x.r, x.n)
section
variable {ro : Nat → Option (List AVal)}
theorem gput_ok_ev (hro : ro 0 = some [.int .u16 0, .int .u32 0]) {h : AHeap} {s p0 : Nat} {O : Nat → Prop} {A : List AtV} {x : IdT} {r : RunV} (S : StA zT h s O A) (hx : x.2 < 2 ^ 32) (hr : RunOk r) (hp : plain r.text = true) (hpos : posA A x.1 x.2 = some p0) (hhit : hitA A r = false) (hlen : A.length + r.text.length ≤ 65536) {Q : AVal → AHeap → Prop}
    (hq : ∀ H R h' O', A.drop p0 = H ++ R → (∀ z ∈ H, klt r.key z.key) → (∀ z l, R = z :: l → ¬ klt r.key z.key) → StA zT h' s O' (A.take p0 ++ (H ++ (atomsOf r ++ R))) → Stp h O h' O' → Q (.int .i64 0) h') :
    Ev (cfgR ro) 115 [.ptr s 0, idA x.1 x.2, .agg r.cells] h Q := by
  refine Ev.wp rfl rfl Tryz.func115 rfl ?_
  have hrl := hr.len
  have hrn := hr.n2
  have hre := hr.e2
  have hrp := hr.pos
  simp -implicitDefEqProofs [Tryz.f115, idA, RunV.cells, same_self]
  refine rRight_ev (x := r) (by omega) (by omega) (by omega) (fun h0 b o0 hb => ?_)
  have hbt : b = true := hb.2 ⟨hr, hp⟩
  subst hbt
  have S0 := S.keep o0
  simp -implicitDefEqProofs [same_self]
  refine where_ev hro (x := x) (k := (r.clock, r.r, r.n)) S0 hx (fun h1 h2 => ?_) (fun p H R y h1 o1 e1 e2 e3 e4 e5 e6 => ?_)
  · unfold posA at hpos
    rw [if_neg (fun c => h1 (Prod.ext c.1 c.2)), h2] at hpos; cases hpos
  · have hpp : p = p0 := by rw [e1] at hpos; exact Option.some.inj hpos
    subst hpp
    have S1 := S0.keep o1
    simp -implicitDefEqProofs [same_self, idA]
    refine sput_ev hro (x := r) (ar := y.1) (an := y.2) S1 e6 (by omega) (by omega) (by omega) (fun h2 O2 S2 P2 => ?_)
    have hpl : p ≤ A.length := by
      rcases posA_iff (x := x) hpos with ⟨_, e⟩ | ⟨i, a, e, _, e'⟩
      · omega
      · have := (List.getElem?_eq_some_iff.1 e).1; omega
    have hput : putA A y.1 y.2 r = (A.take p ++ (H ++ (atomsOf r ++ R)), 0) := by
      unfold putA
      rw [if_neg (fun c => c ⟨hr, hp⟩), e5]
      simp only [hhit, Bool.false_eq_true, if_false]
      rw [if_neg (by omega)]
      have t1 : A.take (p + H.length) = A.take p ++ H := by
        have : A = A.take p ++ (H ++ R) := by rw [← e2, List.take_append_drop]
        have hl : (A.take p).length = p := by rw [List.length_take]; omega
        conv => lhs; rw [this]
        rw [show p + H.length = (A.take p).length + H.length by rw [hl], List.take_length_add_append, List.take_left]
      have t2 : A.drop (p + H.length) = R := by rw [← List.drop_drop, e2]; simp
      rw [t1, t2]; simp
    rw [hput] at S2 ⊢
    simp -implicitDefEqProofs
    exact hq H R h2 O2 e2 e3 e4 S2 ((Stp.ofOld O (o0.trans o1)).trans P2)
theorem gput_bad_ev (hro : ro 0 = some [.int .u16 0, .int .u32 0]) {h : AHeap} {s : Nat} {O : Nat → Prop} {A : List AtV} {x : IdT} {r : RunV} (S : StA zT h s O A) (hx : x.2 < 2 ^ 32) (hrt : r.text.length < 2 ^ 60) (hrn : r.n < 2 ^ 32) (hre : r.en < 2 ^ 32) (hno : x ≠ (0, 0)) (hnone : atIx A x.1 x.2 = none) {Q : AVal → AHeap → Prop}
    (hq : ∀ h', Old h h' → Q (.int .i64 (if RunOk r ∧ plain r.text = true then 40 else 11)) h') :
    Ev (cfgR ro) 115 [.ptr s 0, idA x.1 x.2, .agg r.cells] h Q := by
  refine Ev.wp rfl rfl Tryz.func115 rfl ?_
  simp -implicitDefEqProofs [Tryz.f115, idA, RunV.cells, same_self]
  refine rRight_ev (x := r) hrt hrn hre (fun h0 b o0 hb => ?_)
  have S0 := S.keep o0
  cases b with
  | false =>
    have hq := hq h0 o0
    rw [if_neg (fun c => by have := hb.2 c; cases this)] at hq
    simp -implicitDefEqProofs [same_self]
    exact hq
  | true =>
    have hq := hq h0 o0
    rw [if_pos (hb.1 rfl)] at hq
    simp -implicitDefEqProofs [same_self]
    refine where_ev hro (x := x) (k := (r.clock, r.r, r.n)) S0 hx (fun h1 h2 => ?_) (fun p H R y h1 o1 e1 e2 e3 e4 e5 e6 => ?_)
    · simp -implicitDefEqProofs [same_self, idA]
      exact hq
    · exfalso
      unfold posA at e1
      rw [if_neg (fun c => hno (Prod.ext c.1 c.2)), hnone] at e1; cases e1
theorem ganch_ev (hro : ro 0 = some [.int .u16 0, .int .u32 0]) {h : AHeap} {s : Nat} {O : Nat → Prop} {A : List AtV} {x : IdT} {k : KeyT} (S : StA zT h s O A) (hx : x.2 < 2 ^ 32) {Q : AVal → AHeap → Prop}
    (hq : ∀ b h', Old h h' → (b = true ↔ (x = (0, 0) ∨ ∃ a ∈ A, a.id = x ∧ klt a.key k)) → Q (.bool b) h') :
    Ev (cfgR ro) 147 [.ptr s 0, idA x.1 x.2, keyA k.1 k.2.1 k.2.2] h Q := by
  refine Ev.wp rfl rfl Tryz.func147 rfl ?_
  have hnd := S.nd
  simp -implicitDefEqProofs [Tryz.f147, idA, keyA, same_self]
  refine sget_ev S hx (fun i a e1 e2 => ?_) (fun hnone => ?_)
  · have hne : x ≠ (0, 0) := fun e => by
      have hp := S.pos a (List.mem_of_getElem? e2)
      unfold atIx at e1
      rw [List.findIdx?_eq_some_iff_getElem] at e1
      obtain ⟨l, h2, _⟩ := e1
      obtain ⟨l2, e3⟩ := List.getElem?_eq_some_iff.1 e2
      rw [e3] at h2
      have h2 := of_decide_eq_true h2
      rw [e] at h2
      simp only at h2
      omega
    have hid : a.id = x := by
      unfold atIx at e1
      rw [List.findIdx?_eq_some_iff_getElem] at e1
      obtain ⟨l, h2, _⟩ := e1
      obtain ⟨l2, e3⟩ := List.getElem?_eq_some_iff.1 e2
      rw [e3] at h2
      have h2 := of_decide_eq_true h2
      exact Prod.ext h2.1 h2.2
    simp -implicitDefEqProofs [idA, keyA, same_self, AtV.cells]
    refine idRoot_ev hro ?_
    rw [decide_eq_false (fun c : x.1 = 0 ∧ x.2 = 0 => hne (Prod.ext c.1 c.2))]
    simp -implicitDefEqProofs [idA, keyA, same_self, AtV.cells]
    refine keyCmp_ev (c := a.clock) (r := a.r) (n := a.n) (c' := k.1) (r' := k.2.1) (n' := k.2.2) (fun h2 o2 => ?_)
    have hlt := cmpK_lt (a.clock, a.r, a.n) k
    obtain ⟨cv, hcv⟩ : ∃ cv, cv = cmpK (a.clock, a.r, a.n) (k.1, k.2.1, k.2.2) := ⟨_, rfl⟩
    rw [← hcv] at hlt ⊢
    simp -implicitDefEqProofs [idA, keyA, same_self, AtV.cells]
    refine hq _ h2 o2 ?_
    rw [decide_eq_true_iff, hlt]
    constructor
    · intro hk; exact .inr ⟨a, List.mem_of_getElem? e2, hid, hk⟩
    · rintro (e | ⟨b, hb, e, hk⟩)
      · exact (hne e).elim
      · have : b = a := by
          obtain ⟨j, hj⟩ := List.mem_iff_getElem?.1 hb
          have h3 := atIx_at' hnd hj
          have h4 := atIx_at' hnd e2
          have e5 : b.r = a.r ∧ b.n = a.n := by
            have := e.trans hid.symm
            unfold AtV.id at this
            simp only [Prod.mk.injEq] at this; exact this
          rw [e5.1, e5.2, h4] at h3
          cases h3
          rw [e2] at hj; exact (Option.some.inj hj).symm
        rw [this] at hk; exact hk
  · simp -implicitDefEqProofs [idA, keyA, same_self, zeroAtom]
    refine idRoot_ev hro ?_
    by_cases c : x.1 = 0 ∧ x.2 = 0
    · rw [decide_eq_true c]
      simp -implicitDefEqProofs [idA, keyA, same_self, zeroAtom]
      exact hq true h (Old.refl h) ⟨fun _ => .inl (Prod.ext c.1 c.2), fun _ => rfl⟩
    · rw [decide_eq_false c]
      simp -implicitDefEqProofs [idA, keyA, same_self, zeroAtom]
      refine hq false h (Old.refl h) ⟨fun e => (nomatch e), fun hh => ?_⟩
      rcases hh with e | ⟨a, ha, e, _⟩
      · exact (c ⟨by rw [e], by rw [e]⟩).elim
      · obtain ⟨j, hj⟩ := List.mem_iff_getElem?.1 ha
        have := atIx_at' hnd hj
        have e5 : a.r = x.1 ∧ a.n = x.2 := by rw [← e]; exact ⟨rfl, rfl⟩
        rw [e5.1, e5.2, hnone] at this; cases this
end
end Go.Proofs.YtlhlbamcgopiiaaGreatDoor
set_option linter.all false
set_option maxRecDepth 100000
set_option maxHeartbeats 4000000
namespace Go.Proofs.YtlhlbamcgopiiaaGreatDoor
open Go Go.RowKit Go.Proofs
variable {zT : List AVal}
/-! stores: what goes on beside them -/
theorem StA.keepO {h h' : AHeap} {s : Nat} {O : Nat → Prop} {A : List AtV} (S : StA zT h s O A) (k : ∀ o, O o → h'.get o = h.get o) (hn : h.next ≤ h'.next) : StA zT h' s O A := by
  obtain ⟨m, t, ix, a1, a2, a3, a4, a5, a6, rfl⟩ := S
  have kk : ∀ q, IObj m h q → h'.get q = h.get q := fun q hq => k q (.inr (.inr hq))
  have kt : ∀ q, q ∈ t.ids → h'.get q = h.get q := fun q hq => k q (.inr (.inl hq))
  obtain ⟨⟨s0, hr⟩, b2, b3, b4, b5, b6⟩ := a1.rp
  refine ⟨m, t, ix, ⟨⟨⟨s0, by rw [k s (.inl rfl)]; exact hr⟩, At.congr kt b2, b3, b4, Nat.lt_of_lt_of_le b5 hn, fun o ho => Nat.lt_of_lt_of_le (b6 o ho) hn⟩, a1.ix.keep kk hn, a1.sub, fun o ho => a1.sep o ((IObj.keep a1 kk o).1 ho)⟩, a2, a3, a4, a5, a6, funext fun q => propext ?_⟩
  unfold SOwn
  rw [IObj.keep a1 kk]
/-- the row in which a store lies -/
theorem StA.row {h : AHeap} {s : Nat} {O : Nat → Prop} {A : List AtV} (S : StA zT h s O A) : O s ∧ ∃ p sd m, h.get s = some (.row 0 false (p :: .int .u64 sd :: m :: zT)) ∧
    ∀ {zU : List AVal} {h' : AHeap}, h'.get s = some (.row 0 false (p :: .int .u64 sd :: m :: zU)) → (∀ o, O o → o ≠ s → h'.get o = h.get o) → h.next ≤ h'.next → StA zU h' s O A := by
  obtain ⟨m, t, ix, a1, a2, a3, a4, a5, a6, rfl⟩ := S
  obtain ⟨⟨s0, hr⟩, b2, b3, b4, b5, b6⟩ := a1.rp
  refine ⟨.inl rfl, t.ptr, s0, m, by rw [rrow] at hr; exact hr, ?_⟩
  intro zU h' hr' k hn
  have kk : ∀ q, IObj m h q → h'.get q = h.get q := fun q hq => k q (.inr (.inr hq)) (a1.sep q hq).1
  have kt : ∀ q, q ∈ t.ids → h'.get q = h.get q := fun q hq => k q (.inr (.inl hq)) (fun e => b4 (by rw [← e]; exact hq))
  have R : Rp ([], m :: zU) h' s t := ⟨⟨s0, by rw [rrow]; exact hr'⟩, At.congr kt b2, b3, b4, Nat.lt_of_lt_of_le b5 hn, fun o ho => Nat.lt_of_lt_of_le (b6 o ho) hn⟩
  have I : ∀ o, IObj m h' o ↔ IObj m h o := IObj.keep a1 kk
  refine ⟨m, t, ix, ⟨R, a1.ix.keep kk hn, a1.sub, fun o ho => a1.sep o ((I o).1 ho)⟩, a2, a3, a4, a5, a6, funext fun q => propext ?_⟩
  unfold SOwn
  rw [I]
theorem StA.new (h : AHeap) : StA zT (h.push (.row 0 false (.nilp :: .int .u64 0 :: .nilm :: zT))) h.next (fun o => o = h.next) [] := by
  refine ⟨.nilm, .nil, fun _ => [], ⟨⟨⟨0, get_push_next _ _⟩, trivial, List.nodup_nil, by simp [Rt.ids, Rt.items], by simp, by simp [Rt.ids, Rt.items]⟩, ⟨fun r p => by simp [Rt.items], fun r => List.Pairwise.nil, .inl ⟨rfl, fun _ => rfl⟩⟩, fun p hp => hp, fun o ho => (by obtain ⟨q, e, _⟩ := ho; cases e)⟩, ⟨fun p hp => (by cases hp), List.Pairwise.nil⟩, fun p hp => (by cases hp), by simp [Rt.at_, Rt.rs, Rt.items, atomsN], rfl, fun _ => trivial, funext fun o => propext ?_⟩
  unfold SOwn
  constructor
  · exact fun e => .inl e
  · rintro (e | e | ⟨q, e, _⟩)
    · exact e
    · simp [Rt.ids, Rt.items] at e
    · cases e
/-! lists by names -/
def lookI {α : Type} : List (IdT × α) → IdT → Option α
  | [], _ => none
  | p :: l, k => if k = p.1 then some p.2 else lookI l k
def putI {α : Type} : List (IdT × α) → IdT → α → List (IdT × α)
  | [], k, v => [(k, v)]
  | p :: l, k, v => if k = p.1 then (p.1, v) :: l else p :: putI l k v
theorem look_put {α : Type} (k : IdT) (v : α) (k' : IdT) : ∀ l : List (IdT × α), lookI (putI l k v) k' = if k' = k then some v else lookI l k'
  | [] => by
    show (if k' = k then some v else none) = _
    rfl
  | p :: l => by
    unfold putI
    by_cases e : k = p.1
    · rw [if_pos e]
      show (if k' = p.1 then some v else lookI l k') = if k' = k then some v else (if k' = p.1 then some p.2 else lookI l k')
      by_cases e2 : k' = k
      · rw [if_pos (e2.trans e), if_pos e2]
      · rw [if_neg (fun e3 => e2 (e3.trans e.symm)), if_neg e2, if_neg (fun e3 => e2 (e3.trans e.symm))]
    · rw [if_neg e]
      show (if k' = p.1 then some p.2 else lookI (putI l k v) k') = if k' = k then some v else (if k' = p.1 then some p.2 else lookI l k')
      by_cases e2 : k' = p.1
      · rw [if_pos e2, if_neg (fun e3 => e (e3.symm.trans e2)), if_pos e2]
      · rw [if_neg e2, look_put k v k' l, if_neg e2]
theorem look_map_ {α β : Type} (f : IdT → α → β) (k : IdT) : ∀ l : List (IdT × α), lookI (l.map fun p => (p.1, f p.1 p.2)) k = (lookI l k).map (f k)
  | [] => rfl
  | p :: l => by
    show (if k = p.1 then some (f p.1 p.2) else lookI (l.map fun p => (p.1, f p.1 p.2)) k) = Option.map (f k) (if k = p.1 then some p.2 else lookI l k)
    by_cases e : k = p.1
    · rw [if_pos e, if_pos e, e]; rfl
    · rw [if_neg e, if_neg e, look_map_ f k l]
/-- an entry whose value is there already -/
theorem put_same {α β : Type} (g : IdT → β) (k : IdT) (v : α) : ∀ {l : List (IdT × α)}, lookI l k ≠ none → (putI l k v).map (fun p => (p.1, g p.1)) = l.map fun p => (p.1, g p.1)
  | [], h => (h rfl).elim
  | p :: l, h => by
    unfold putI
    by_cases e : k = p.1
    · rw [if_pos e]; rfl
    · rw [if_neg e, List.map_cons, List.map_cons, put_same g k v (l := l) (by unfold lookI at h; rw [if_neg e] at h; exact h)]
theorem put_put {α β : Type} (g : IdT → β) (k : IdT) (v : α) (w : β) : ∀ (l : List (IdT × α)), (l.map (·.1)).Nodup → (putI l k v).map (fun p => (p.1, if p.1 = k then w else g p.1)) = putI (l.map fun p => (p.1, g p.1)) k w
  | [], _ => by simp [putI]
  | p :: l, hn => by
    rw [List.map_cons, List.nodup_cons] at hn
    unfold putI
    by_cases e : k = p.1
    · rw [if_pos e]
      simp only [List.map_cons]
      rw [if_pos e, if_pos e.symm]
      congr 1
      refine List.map_congr_left fun q hq => ?_
      rw [if_neg (fun e2 => hn.1 (List.mem_map.2 ⟨q, hq, e2.trans e⟩))]
    · rw [if_neg e]
      simp only [List.map_cons]
      rw [if_neg (fun e2 => e e2.symm), if_neg e, put_put g k v w l hn.2]
theorem put_nodup {α : Type} (k : IdT) (v : α) : ∀ {l : List (IdT × α)}, (l.map (·.1)).Nodup → ((putI l k v).map (·.1)).Nodup
  | [], _ => by simp [putI]
  | p :: l, hn => by
    have h := hn
    rw [List.map_cons, List.nodup_cons] at hn
    unfold putI
    by_cases e : k = p.1
    · rw [if_pos e]; exact h
    · rw [if_neg e, List.map_cons, List.nodup_cons]
      refine ⟨fun hm => ?_, put_nodup k v hn.2⟩
      have key : ∀ l : List (IdT × α), p.1 ∈ (putI l k v).map (·.1) → p.1 = k ∨ p.1 ∈ l.map (·.1) := by
        intro l
        induction l with
        | nil => intro h; simp [putI] at h; exact .inl h
        | cons q l ih =>
          intro h
          unfold putI at h
          by_cases e2 : k = q.1
          · rw [if_pos e2] at h; exact .inr h
          · rw [if_neg e2, List.map_cons] at h
            rcases List.mem_cons.1 h with h | h
            · exact .inr (by rw [List.map_cons]; exact List.mem_cons.2 (.inl h))
            · exact (ih h).imp_right fun h => by rw [List.map_cons]; exact List.mem_cons.2 (.inr h)
      rcases key l hm with h1 | h1
      · exact e h1.symm
      · exact hn.1 h1
/-- the entries of a map by names -/
def entI (ks : List (IdT × AVal)) : List (AVal × AVal) := ks.map fun k => (.agg [.int .u16 k.1.1, .int .u32 k.1.2], k.2)
def lookJ : List (IdT × AVal) → IdT → Nat → Option (Nat × AVal)
  | [], _, _ => none
  | k :: ks, r, i => if r = k.1 then some (i, k.2) else lookJ ks r (i + 1)
theorem lookJ_look : ∀ (ks : List (IdT × AVal)) (r : IdT) (i : Nat), (lookJ ks r i).map (·.2) = lookI ks r
  | [], _, _ => rfl
  | k :: ks, r, i => by
    unfold lookJ lookI
    by_cases e : r = k.1
    · rw [if_pos e, if_pos e]; rfl
    · rw [if_neg e, if_neg e]; exact lookJ_look ks r (i + 1)
theorem lookJ_some : ∀ {ks : List (IdT × AVal)} {r : IdT} {j i : Nat} {w v : AVal}, lookJ ks r j = some (i, w) → ∃ n, i = j + n ∧ (entI ks)[n]? = some (.agg [.int .u16 r.1, .int .u32 r.2], w) ∧ setVal (entI ks) n v = entI (putI ks r v)
  | [], r, j, i, w, v, h => by cases h
  | k :: ks, r, j, i, w, v, h => by
    unfold lookJ at h
    unfold putI
    by_cases e : r = k.1
    · rw [if_pos e] at h
      cases h
      rw [if_pos e]
      exact ⟨0, rfl, by rw [e]; rfl, rfl⟩
    · rw [if_neg e] at h
      rw [if_neg e]
      obtain ⟨n, h1, h2, h3⟩ := lookJ_some (v := v) h
      exact ⟨n + 1, by omega, h2, congrArg ((AVal.agg [.int .u16 k.1.1, .int .u32 k.1.2], k.2) :: ·) h3⟩
theorem lookJ_none : ∀ {ks : List (IdT × AVal)} {r : IdT} {j : Nat} {v : AVal}, lookJ ks r j = none → entI ks ++ [(.agg [.int .u16 r.1, .int .u32 r.2], v)] = entI (putI ks r v)
  | [], r, j, v, h => rfl
  | k :: ks, r, j, v, h => by
    unfold lookJ at h
    unfold putI
    by_cases e : r = k.1
    · rw [if_pos e] at h; cases h
    · rw [if_neg e] at h
      rw [if_neg e]
      exact congrArg ((AVal.agg [.int .u16 k.1.1, .int .u32 k.1.2], k.2) :: ·) (lookJ_none (v := v) h)
section
variable {ro : Nat → Option (List AVal)}
def eqNN (ro : Nat → Option (List AVal)) (T : Nat) : Prop := ∀ (h : AHeap) (a b c d : Nat), eqIn (cfgR ro) h 10000 T (.agg [.int .u16 a, .int .u32 b]) (.agg [.int .u16 c, .int .u32 d]) = .ok (decide (a = c ∧ b = d))
theorem findR_I {T : Nat} (hT : eqNN ro T) (h : AHeap) (r : IdT) : ∀ (ks : List (IdT × AVal)) (i : Nat), findR (cfgR ro) h T (.agg [.int .u16 r.1, .int .u32 r.2]) (entI ks) i = .ok (lookJ ks r i)
  | [], i => rfl
  | k :: ks, i => by
    show (eqIn (cfgR ro) h 10000 T _ (.agg [.int .u16 k.1.1, .int .u32 k.1.2])).bind _ = _
    rw [hT]
    unfold lookJ
    by_cases e : r = k.1
    · have : (r.1 = k.1.1 ∧ r.2 = k.1.2) := by rw [e]; exact ⟨rfl, rfl⟩
      rw [decide_eq_true this, if_pos e]; rfl
    · have : ¬ (r.1 = k.1.1 ∧ r.2 = k.1.2) := fun h => e (Prod.ext h.1 h.2)
      rw [decide_eq_false this, if_neg e]
      exact findR_I hT h r ks (i + 1)
/-- what is asked of a map's type -/
structure MTy (ro : Nat → Option (List AVal)) (MT KT : Nat) (z : AVal) : Prop where
  m : ∃ VT, mapTypes Tryz.prog MT = .ok (KT, VT) ∧ zeroV Tryz.prog VT = .ok z
  k : ∀ a b, keyFits Tryz.prog KT (.agg [a, b]) = true
  e : eqNN ro KT
theorem look_I {MT KT : Nat} {z : AVal} (Y : MTy ro MT KT z) {h : AHeap} {m : AVal} {ks : List (IdT × AVal)} (hg : (m = .nilm ∧ ks = []) ∨ ∃ q, m = .map q ∧ h.get q = some (.map (entI ks))) (r : IdT) :
    lookupR (cfgR ro) h MT m (.agg [.int .u16 r.1, .int .u32 r.2]) false = .ok ((lookI ks r).getD z) := by
  obtain ⟨VT, hm, hz⟩ := Y.m
  unfold lookupR
  rcases hg with ⟨rfl, rfl⟩ | ⟨q, rfl, hg⟩
  · simp [hm, hz, entriesR, Y.k, findR, lookI]
  · simp [hm, hz, hg, entriesR, Y.k, findR_I Y.e]
    rw [← lookJ_look ks r 0]
    cases lookJ ks r 0 with
    | none => simp [hz]
    | some x => rfl
theorem put_I {MT KT : Nat} {z : AVal} (Y : MTy ro MT KT z) {h : AHeap} {q : Nat} {ks : List (IdT × AVal)} (hg : h.get q = some (.map (entI ks))) (r : IdT) (v : AVal) :
    mapUpdateR (cfgR ro) h MT (.map q) (.agg [.int .u16 r.1, .int .u32 r.2]) v = .ok (h.set q (.map (entI (putI ks r v)))) := by
  obtain ⟨VT, hm, hz⟩ := Y.m
  unfold mapUpdateR
  simp [hm, hg, Y.k, findR_I Y.e]
  cases hl : lookJ ks r 0 with
  | none =>
    simp
    rw [lookJ_none hl]
  | some x =>
    obtain ⟨i, w⟩ := x
    obtain ⟨n, h1, h2, h3⟩ := lookJ_some (v := v) hl
    rw [Nat.zero_add] at h1
    subst h1
    have hb : AVal.beq (.agg [.int .u16 r.1, .int .u32 r.2]) (.agg [.int .u16 r.1, .int .u32 r.2]) = true := AVal.beq_refl _
    simp [h2, h3, hb]
theorem eqTx0 (h : AHeap) (a b c d : Nat) : eqIn (cfgR ro) h 10000 70 (.agg [.int .u16 a, .int .u32 b]) (.agg [.int .u16 c, .int .u32 d]) = (match (a : Int) == (c : Int) with | true => (match (b : Int) == (d : Int) with | true => .ok true | false => .ok false) | false => .ok false) := by kernel_rfl
theorem eqTx : eqNN ro 70 := by
  intro h a b c d
  rw [eqTx0]
  by_cases e1 : a = c
  · by_cases e2 : b = d
    · subst e1; subst e2; simp
    · have : ((b : Int) == (d : Int)) = false := by simp; omega
      simp [e1, e2, this]
  · have : ((a : Int) == (c : Int)) = false := by simp; omega
    simp [e1, this]
theorem mtD : MTy ro 35 70 .nilp := ⟨⟨194, by kernel_rfl, by kernel_rfl⟩, fun a b => by kernel_rfl, eqTx⟩
theorem mtL : MTy ro 36 55 .nilp := ⟨⟨206, by kernel_rfl, by kernel_rfl⟩, fun a b => by kernel_rfl, eqID⟩
theorem mtS : MTy ro 32 55 .nils := ⟨⟨210, by kernel_rfl, by kernel_rfl⟩, fun a b => by kernel_rfl, eqID⟩
end
end Go.Proofs.YtlhlbamcgopiiaaGreatDoor
set_option linter.all false
set_option maxRecDepth 100000
set_option maxHeartbeats 4000000
namespace Go.Proofs.YtlhlbamcgopiiaaGreatDoor
open Go Go.RowKit Go.Proofs
/-! a Core, in memory -/
inductive Tg where
  | other
  | store
  | smap
  | dmap
  | lmap
  | deed (k : IdT)
  | touch (k : IdT)
  | life (k : IdT)
  | gone (k : IdT)
  | spots (k : IdT)
structure Dl where
  undone : Int
  touched : List IdT
  undoes : Bool
structure Lf where
  made : IdT
  gone : List IdT
abbrev Sp := KeyT × IdT
structure CV where
  A : List AtV
  sp : List (IdT × List Sp)
  nsp : Nat
  deeds : List (IdT × Dl)
  lives : List (IdT × Lf)
  clock : Nat
  elems : Nat
def CV.nil : CV := ⟨[], [], 0, [], [], 0, 0⟩
def idc (x : IdT) : List AVal := [.int .u16 x.1, .int .u32 x.2]
def spc (x : Sp) : List AVal := [.int .u64 x.1.1, .int .u16 x.1.2.1, .int .u32 x.1.2.2, .int .u16 x.2.1, .int .u32 x.2.2]
def hZ : AHeap := ⟨.nil, 0⟩
def MapOk (h : AHeap) (col : Nat → Tg) (tg : Tg) (m : AVal) (ks : List (IdT × AVal)) : Prop := (m = .nilm ∧ ks = []) ∨ ∃ q, m = .map q ∧ q < h.next ∧ col q = tg ∧ h.get q = some (.map (entI ks))
structure OwnS (h : AHeap) (col : Nat → Tg) (tg : Tg) (sz : Nat) (es : List (List AVal)) (v : AVal) : Prop where
  m : Mine hZ h sz es v
  c : ∀ o, vobj v o → col o = tg
def DeedOk (h : AHeap) (col : Nat → Tg) (k : IdT) (d : Dl) (v : AVal) : Prop := ∃ p t, v = .ptr p 0 ∧ p < h.next ∧ col p = .deed k ∧ h.get p = some (.row 0 false [.int .i64 d.undone, t, .bool d.undoes]) ∧ OwnS h col (.touch k) 2 (d.touched.map idc) t
def LifeOk (h : AHeap) (col : Nat → Tg) (k : IdT) (l : Lf) (v : AVal) : Prop := ∃ p t, v = .ptr p 0 ∧ p < h.next ∧ col p = .life k ∧ h.get p = some (.row 0 false [.int .u16 l.made.1, .int .u32 l.made.2, t]) ∧ OwnS h col (.gone k) 2 (l.gone.map idc) t
def tailC (D : CV) (spm dm lm : AVal) : List AVal := [spm, .int .i64 (D.nsp : Nat), dm, lm, .int .u64 (D.clock : Nat), .int .i64 (D.elems : Nat)]
structure CStX (h : AHeap) (s : Nat) (col : Nat → Tg) (D : CV) (spm dm lm : AVal) (fs fd fl : IdT → AVal) : Prop where
  st : StA (tailC D spm dm lm) h s (fun o => col o = .store) D.A
  mS : MapOk h col .smap spm (D.sp.map fun p => (p.1, fs p.1))
  mD : MapOk h col .dmap dm (D.deeds.map fun p => (p.1, fd p.1))
  mL : MapOk h col .lmap lm (D.lives.map fun p => (p.1, fl p.1))
  nn : dm = .nilm ↔ lm = .nilm
  ns : (D.sp.map (·.1)).Nodup
  nd : (D.deeds.map (·.1)).Nodup
  nl : (D.lives.map (·.1)).Nodup
  sp : ∀ k l, lookI D.sp k = some l → OwnS h col (.spots k) 5 (l.map spc) (fs k)
  de : ∀ k d, lookI D.deeds k = some d → DeedOk h col k d (fd k)
  li : ∀ k l, lookI D.lives k = some l → LifeOk h col k l (fl k)
  lt : ∀ o, col o ≠ .other → o < h.next
def CSt (h : AHeap) (s : Nat) (O : Nat → Prop) (D : CV) : Prop := ∃ col spm dm lm fs fd fl, O = (fun o => col o ≠ .other) ∧ CStX h s col D spm dm lm fs fd fl
section
variable {h h' : AHeap} {s : Nat} {col col' : Nat → Tg} {D : CV} {spm dm lm : AVal} {fs fd fl : IdT → AVal}
theorem MapOk.keep {tg : Tg} {m : AVal} {ks : List (IdT × AVal)} (M : MapOk h col tg m ks) (k : ∀ o, o < h.next → col o = tg → h'.get o = h.get o ∧ col' o = tg) (hn : h.next ≤ h'.next) : MapOk h' col' tg m ks := by
  rcases M with h1 | ⟨q, e, h1, h2, h3⟩
  · exact .inl h1
  · exact .inr ⟨q, e, Nat.lt_of_lt_of_le h1 hn, (k q h1 h2).2, by rw [(k q h1 h2).1]; exact h3⟩
theorem OwnS.keep {tg : Tg} {sz : Nat} {es : List (List AVal)} {v : AVal} (M : OwnS h col tg sz es v) (k : ∀ o, o < h.next → col o = tg → h'.get o = h.get o ∧ col' o = tg) (hn : h.next ≤ h'.next) : OwnS h' col' tg sz es v :=
  ⟨M.m.keepO (fun o ho => (k o (M.m.obj o ho).2 (M.c o ho)).1) hn, fun o ho => (k o (M.m.obj o ho).2 (M.c o ho)).2⟩
theorem DeedOk.keep {k : IdT} {d : Dl} {v : AVal} (M : DeedOk h col k d v) (kk : ∀ o, o < h.next → (col o = .deed k ∨ col o = .touch k) → h'.get o = h.get o ∧ col' o = col o) (hn : h.next ≤ h'.next) : DeedOk h' col' k d v := by
  obtain ⟨p, t, e, h1, h2, h3, h4⟩ := M
  exact ⟨p, t, e, Nat.lt_of_lt_of_le h1 hn, by rw [(kk p h1 (.inl h2)).2, h2], by rw [(kk p h1 (.inl h2)).1]; exact h3, h4.keep (fun o ho hc => by rw [(kk o ho (.inr hc)).2]; exact ⟨(kk o ho (.inr hc)).1, hc⟩) hn⟩
theorem LifeOk.keep {k : IdT} {d : Lf} {v : AVal} (M : LifeOk h col k d v) (kk : ∀ o, o < h.next → (col o = .life k ∨ col o = .gone k) → h'.get o = h.get o ∧ col' o = col o) (hn : h.next ≤ h'.next) : LifeOk h' col' k d v := by
  obtain ⟨p, t, e, h1, h2, h3, h4⟩ := M
  exact ⟨p, t, e, Nat.lt_of_lt_of_le h1 hn, by rw [(kk p h1 (.inl h2)).2, h2], by rw [(kk p h1 (.inl h2)).1]; exact h3, h4.keep (fun o ho hc => by rw [(kk o ho (.inr hc)).2]; exact ⟨(kk o ho (.inr hc)).1, hc⟩) hn⟩
/-- what goes on in the store alone -/
theorem CStX.store (C : CStX h s col D spm dm lm fs fd fl) {A' : List AtV} (k : ∀ o, o < h.next → col o ≠ .other → col o ≠ .store → h'.get o = h.get o ∧ col' o = col o)
    (S : StA (tailC D spm dm lm) h' s (fun o => col' o = .store) A') (hn : h.next ≤ h'.next) (hl : ∀ o, col' o ≠ .other → o < h'.next) : CStX h' s col' { D with A := A' } spm dm lm fs fd fl := by
  have kt : ∀ tg : Tg, tg ≠ .other → tg ≠ .store → ∀ o, o < h.next → col o = tg → h'.get o = h.get o ∧ col' o = tg := fun tg h1 h2 o ho hc => by
    have := k o ho (by rw [hc]; exact h1) (by rw [hc]; exact h2)
    exact ⟨this.1, this.2.trans hc⟩
  refine ⟨S, C.mS.keep (kt _ (by simp) (by simp)) hn, C.mD.keep (kt _ (by simp) (by simp)) hn, C.mL.keep (kt _ (by simp) (by simp)) hn, C.nn, C.ns, C.nd, C.nl, fun q l hq => (C.sp q l hq).keep (kt _ (by simp) (by simp)) hn, fun q l hq => (C.de q l hq).keep (fun o ho hc => ?_) hn, fun q l hq => (C.li q l hq).keep (fun o ho hc => ?_) hn, hl⟩
  · rcases hc with hc | hc <;> exact k o ho (by rw [hc]; simp) (by rw [hc]; simp)
  · rcases hc with hc | hc <;> exact k o ho (by rw [hc]; simp) (by rw [hc]; simp)
theorem recol {O' : Nat → Prop} (P : Stp h (fun o => col o = .store) h' O') (hO : ∀ o, O' o → o < h'.next) (hl : ∀ o, col o ≠ .other → o < h.next) : ∃ col' : Nat → Tg, (O' = fun o => col' o = .store) ∧ (∀ o, o < h.next → col o ≠ .store → col' o = col o) ∧ (∀ o, col' o ≠ .other → col o ≠ .other ∨ h.next ≤ o) ∧ ∀ o, col' o ≠ .other → o < h'.next := by
  classical
  refine ⟨fun o => if O' o then .store else if col o = .store then .other else col o, funext fun o => propext ?_, fun o ho hc => ?_, fun o ho => ?_, fun o ho => ?_⟩
  · by_cases c : O' o
    · simp [c]
    · by_cases c2 : col o = .store <;> simp [c, c2]
  · have : ¬ O' o := fun c => (P.own o c).elim hc (by omega)
    simp [this, hc]
  · by_cases c : O' o
    · rcases P.own o c with h1 | h1
      · exact .inl (by rw [h1]; simp)
      · exact .inr h1
    · by_cases c2 : col o = .store
      · exact .inl (by rw [c2]; simp)
      · simp [c, c2] at ho; exact .inl ho
  · by_cases c : O' o
    · exact hO o c
    · by_cases c2 : col o = .store
      · simp [c, c2] at ho
      · simp [c, c2] at ho
        have := hl o ho
        exact Nat.lt_of_lt_of_le this P.nx
/-- a step of the store is one of the Core -/
theorem CStX.ofStore (C : CStX h s col D spm dm lm fs fd fl) {A' : List AtV} {O' : Nat → Prop} (S : StA (tailC D spm dm lm) h' s O' A') (P : Stp h (fun o => col o = .store) h' O') :
    ∃ col', CStX h' s col' { D with A := A' } spm dm lm fs fd fl ∧ Stp h (fun o => col o ≠ .other) h' (fun o => col' o ≠ .other) := by
  obtain ⟨col', e, h1, h2, h3⟩ := recol P S.lt C.lt
  subst e
  refine ⟨col', C.store (fun o ho hc hs => ⟨P.keep o ho hs, h1 o ho hs⟩) S P.nx h3, P.nx, fun o ho hc => P.keep o ho (fun e => ?_), h2⟩
  simp only [ne_eq, Classical.not_not] at hc
  rw [hc] at e; cases e
theorem CStX.row (C : CStX h s col D spm dm lm fs fd fl) : col s = .store ∧ ∃ p sd m, h.get s = some (.row 0 false [p, .int .u64 sd, m, spm, .int .i64 (D.nsp : Nat), dm, lm, .int .u64 (D.clock : Nat), .int .i64 (D.elems : Nat)]) := by
  obtain ⟨h1, p, sd, m, h2, _⟩ := C.st.row
  exact ⟨h1, p, sd, m, h2⟩
/-- what goes on at nothing of the Core -/
theorem CStX.keep (C : CStX h s col D spm dm lm fs fd fl) (k : ∀ o, col o ≠ .other → h'.get o = h.get o) (hn : h.next ≤ h'.next) : CStX h' s col D spm dm lm fs fd fl :=
  C.store (A' := D.A) (fun o _ hc _ => ⟨k o hc, rfl⟩) (C.st.keepO (fun o ho => k o (by rw [ho]; simp)) hn) hn (fun o ho => Nat.lt_of_lt_of_le (C.lt o ho) hn)
theorem CSt.keep {O : Nat → Prop} (C : CSt h s O D) (k : ∀ o, O o → h'.get o = h.get o) (hn : h.next ≤ h'.next) : CSt h' s O D := by
  obtain ⟨col, spm, dm, lm, fs, fd, fl, rfl, C⟩ := C
  exact ⟨col, spm, dm, lm, fs, fd, fl, rfl, C.keep k hn⟩
theorem CSt.lt {O : Nat → Prop} (C : CSt h s O D) : ∀ o, O o → o < h.next := by
  obtain ⟨col, spm, dm, lm, fs, fd, fl, rfl, C⟩ := C
  exact C.lt
theorem CSt.old {O : Nat → Prop} (C : CSt h s O D) (o : Old h h') : CSt h' s O D := C.keep (fun q hq => o.2 q (C.lt q hq)) o.1
/-- a Core at its beginning -/
theorem CSt.new (h : AHeap) : CSt (h.push (.row 0 false [.nilp, .int .u64 0, .nilm, .nilm, .int .i64 0, .nilm, .nilm, .int .u64 0, .int .i64 0])) h.next (fun o => o = h.next) CV.nil := by
  classical
  have S := StA.new (zT := tailC CV.nil .nilm .nilm .nilm) h
  refine ⟨fun o => if o = h.next then .store else .other, .nilm, .nilm, .nilm, fun _ => .nils, fun _ => .nilp, fun _ => .nilp, funext fun o => propext (by by_cases c : o = h.next <;> simp [c]), ⟨?_, .inl ⟨rfl, rfl⟩, .inl ⟨rfl, rfl⟩, .inl ⟨rfl, rfl⟩, Iff.rfl, List.nodup_nil, List.nodup_nil, List.nodup_nil, fun k l e => (by cases e), fun k l e => (by cases e), fun k l e => (by cases e), fun o ho => ?_⟩⟩
  · have e : (fun o => (if o = h.next then Tg.store else Tg.other) = Tg.store) = fun o => o = h.next := funext fun o => propext (by by_cases c : o = h.next <;> simp [c])
    rw [e]
    exact S
  · by_cases c : o = h.next
    · rw [c]; simp
    · simp [c] at ho
end
end Go.Proofs.YtlhlbamcgopiiaaGreatDoor
set_option linter.all false
set_option maxRecDepth 100000
set_option maxHeartbeats 4000000
namespace Go.Proofs.YtlhlbamcgopiiaaGreatDoor
open Go Go.RowKit Go.Proofs
/-- a step that changes what has some colours, and colours what is new -/
structure Upd (h H : AHeap) (col col' : Nat → Tg) (X : Tg → Prop) : Prop where
  n : h.next ≤ H.next
  g : ∀ o, o < h.next → ¬ X (col o) → H.get o = h.get o
  c : ∀ o, o < h.next → col' o = col o
  x : ∀ o, h.next ≤ o → col' o ≠ .store ∧ (col' o ≠ .other → o < H.next)
  o : ¬ X .other
section
variable {h H : AHeap} {s : Nat} {col col' : Nat → Tg} {D : CV} {spm dm lm : AVal} {fs fd fl : IdT → AVal} {X : Tg → Prop}
theorem Upd.kt (U : Upd h H col col' X) {tg : Tg} (hx : ¬ X tg) : ∀ o, o < h.next → col o = tg → H.get o = h.get o ∧ col' o = tg := fun o ho hc => ⟨U.g o ho (by rw [hc]; exact hx), by rw [U.c o ho, hc]⟩
theorem Upd.map (U : Upd h H col col' X) {tg : Tg} (hx : ¬ X tg) {m : AVal} {ks : List (IdT × AVal)} (M : MapOk h col tg m ks) : MapOk H col' tg m ks := M.keep (U.kt hx) U.n
theorem Upd.own (U : Upd h H col col' X) {tg : Tg} (hx : ¬ X tg) {sz : Nat} {es : List (List AVal)} {v : AVal} (M : OwnS h col tg sz es v) : OwnS H col' tg sz es v := M.keep (U.kt hx) U.n
theorem Upd.deed (U : Upd h H col col' X) {k : IdT} (h1 : ¬ X (.deed k)) (h2 : ¬ X (.touch k)) {d : Dl} {v : AVal} (M : DeedOk h col k d v) : DeedOk H col' k d v :=
  M.keep (fun o ho hc => by rcases hc with hc | hc <;> exact ⟨U.g o ho (by rw [hc]; assumption), U.c o ho⟩) U.n
theorem Upd.life (U : Upd h H col col' X) {k : IdT} (h1 : ¬ X (.life k)) (h2 : ¬ X (.gone k)) {d : Lf} {v : AVal} (M : LifeOk h col k d v) : LifeOk H col' k d v :=
  M.keep (fun o ho hc => by rcases hc with hc | hc <;> exact ⟨U.g o ho (by rw [hc]; assumption), U.c o ho⟩) U.n
theorem Upd.fst (U : Upd h H col col' X) (hl : ∀ o, col o ≠ .other → o < h.next) : (fun o => col o = .store) = fun o => col' o = .store := by
  funext o
  refine propext ⟨fun e => ?_, fun e => ?_⟩
  · rw [U.c o (hl o (by rw [e]; simp))]; exact e
  · by_cases c : o < h.next
    · rw [← U.c o c]; exact e
    · exact ((U.x o (by omega)).1 e).elim
theorem Upd.st (U : Upd h H col col' X) (C : CStX h s col D spm dm lm fs fd fl) (hx : ¬ X .store) : StA (tailC D spm dm lm) H s (fun o => col' o = .store) D.A := by
  rw [← U.fst C.lt]
  exact C.st.keepO (fun o ho => U.g o (C.lt o (by rw [ho]; simp)) (by rw [ho]; exact hx)) U.n
theorem Upd.lt (U : Upd h H col col' X) (hl : ∀ o, col o ≠ .other → o < h.next) : ∀ o, col' o ≠ .other → o < H.next := fun o ho => by
  by_cases c : o < h.next
  · exact Nat.lt_of_lt_of_le c U.n
  · exact (U.x o (by omega)).2 ho
theorem Upd.stp (U : Upd h H col col' X) : Stp h (fun o => col o ≠ .other) H (fun o => col' o ≠ .other) :=
  ⟨U.n, fun o ho hc => U.g o ho (by simp only [ne_eq, Classical.not_not] at hc; rw [hc]; exact U.o), fun o ho => by
    by_cases c : o < h.next
    · exact .inl (by rw [← U.c o c]; exact ho)
    · exact .inr (by omega)⟩
/-- the row of a Core, changed behind its store -/
theorem CStX.setrow (C : CStX h s col D spm dm lm fs fd fl) : ∃ p sd m, h.get s = some (.row 0 false [p, .int .u64 sd, m, spm, .int .i64 (D.nsp : Nat), dm, lm, .int .u64 (D.clock : Nat), .int .i64 (D.elems : Nat)]) ∧
    ∀ {H : AHeap} {zU : List AVal}, H.get s = some (.row 0 false (p :: .int .u64 sd :: m :: zU)) → (∀ o, o < h.next → o ≠ s → H.get o = h.get o) → h.next ≤ H.next →
      StA zU H s (fun o => col o = .store) D.A ∧ Upd h H col col (· = .store) := by
  obtain ⟨h1, p, sd, m, h2, h3⟩ := C.st.row
  refine ⟨p, sd, m, h2, fun {H zU} e k hn => ⟨h3 e (fun o ho hs => k o (C.lt o (by rw [ho]; simp)) hs) hn, hn, fun o ho hx => k o ho (fun e => hx (by rw [e]; exact h1)), fun _ _ => rfl, fun o ho => ?_, by simp⟩⟩
  have : col o = .other := Classical.byContradiction fun e => by have := C.lt o e; omega
  rw [this]; exact ⟨by simp, fun e => (e rfl).elim⟩
theorem CStX.new {o : Nat} (C : CStX h s col D spm dm lm fs fd fl) (ho : h.next ≤ o) : col o = .other := Classical.byContradiction fun e => by have := C.lt o e; omega
/-- one new thing of a colour -/
theorem CStX.color (C : CStX h s col D spm dm lm fs fd fl) {Y : Nat → Prop} {tg : Tg} (ht : tg ≠ .store) (hX : ¬ X .other) (hY : ∀ o, Y o → o < H.next) (hn : h.next ≤ H.next) (hg : ∀ o, o < h.next → ¬ X (col o) → H.get o = h.get o) :
    ∃ col', Upd h H col col' X ∧ ∀ o, Y o → h.next ≤ o → col' o = tg := by
  classical
  refine ⟨fun o => if Y o ∧ h.next ≤ o then tg else col o, ⟨hn, hg, fun o ho => by rw [if_neg (by omega)], fun o ho => ?_, hX⟩, fun o h1 h2 => by show (if Y o ∧ h.next ≤ o then tg else col o) = tg; rw [if_pos ⟨h1, h2⟩]⟩
  by_cases c : Y o
  · rw [if_pos ⟨c, ho⟩]; exact ⟨ht, fun _ => hY o c⟩
  · rw [if_neg (fun e => c e.1), C.new ho]; exact ⟨by simp, fun e => (e rfl).elim⟩
theorem CStX.dmq {q : Nat} (C : CStX h s col D spm (.map q) lm fs fd fl) : q < h.next ∧ col q = .dmap ∧ h.get q = some (.map (entI (D.deeds.map fun p => (p.1, fd p.1)))) := by
  rcases C.mD with ⟨e, _⟩ | ⟨q', e, h1, h2, h3⟩
  · cases e
  · cases e; exact ⟨h1, h2, h3⟩
theorem CStX.lmq {q : Nat} (C : CStX h s col D spm dm (.map q) fs fd fl) : q < h.next ∧ col q = .lmap ∧ h.get q = some (.map (entI (D.lives.map fun p => (p.1, fl p.1)))) := by
  rcases C.mL with ⟨e, _⟩ | ⟨q', e, h1, h2, h3⟩
  · cases e
  · cases e; exact ⟨h1, h2, h3⟩
theorem CStX.smq {q : Nat} (C : CStX h s col D (.map q) dm lm fs fd fl) : q < h.next ∧ col q = .smap ∧ h.get q = some (.map (entI (D.sp.map fun p => (p.1, fs p.1)))) := by
  rcases C.mS with ⟨e, _⟩ | ⟨q', e, h1, h2, h3⟩
  · cases e
  · cases e; exact ⟨h1, h2, h3⟩
theorem CStX.addDeed {q p : Nat} (C : CStX h s col D spm (.map q) lm fs fd fl) {k : IdT} {u : Bool} (hk : lookI D.deeds k = none) (hp : h.next ≤ p) (hpn : p < H.next)
    (h1 : H.get p = some (.row 0 false [.int .i64 0, .nils, .bool u])) (h2 : H.get q = some (.map (entI (putI (D.deeds.map fun x => (x.1, fd x.1)) k (.ptr p 0))))) (h3 : ∀ o, o < h.next → o ≠ q → H.get o = h.get o) (hn : h.next ≤ H.next) :
    ∃ col', CStX H s col' { D with deeds := putI D.deeds k ⟨0, [], u⟩ } spm (.map q) lm fs (fun j => if j = k then .ptr p 0 else fd j) fl ∧ Stp h (fun o => col o ≠ .other) H (fun o => col' o ≠ .other) := by
  obtain ⟨q1, q2, q3⟩ := C.dmq
  obtain ⟨col', U, hc⟩ := C.color (H := H) (X := (· = .dmap)) (Y := (· = p)) (tg := .deed k) (by simp) (by simp) (fun o e => by rw [e]; exact hpn) hn (fun o ho hx => h3 o ho (fun e => hx (by rw [e]; exact q2)))
  refine ⟨col', ⟨U.st (D := D) C (by simp), U.map (by simp) C.mS, .inr ⟨q, rfl, Nat.lt_of_lt_of_le q1 hn, by rw [U.c q q1]; exact q2, ?_⟩, U.map (by simp) C.mL, C.nn, C.ns, put_nodup _ _ C.nd, C.nl, fun j l hj => U.own (by simp) (C.sp j l hj), fun j d hj => ?_, fun j l hj => U.life (by simp) (by simp) (C.li j l hj), U.lt C.lt⟩, U.stp⟩
  · rw [h2]
    have := put_put (β := AVal) (fun j => fd j) k (⟨0, [], u⟩ : Dl) (.ptr p 0) D.deeds C.nd
    rw [← this]
  · show DeedOk H col' j d (if j = k then .ptr p 0 else fd j)
    rw [show lookI (putI D.deeds k ⟨0, [], u⟩) j = _ from look_put _ _ _ _] at hj
    by_cases e : j = k
    · rw [if_pos e] at hj ⊢
      cases hj
      exact ⟨p, .nils, rfl, hpn, by rw [e]; exact hc p rfl hp, h1, ⟨Mine.nil _ _ _, fun o ho => ho.elim⟩⟩
    · rw [if_neg e] at hj ⊢
      exact U.deed (by simp) (by simp) (C.de j d hj)
theorem CStX.addLife {q p : Nat} (C : CStX h s col D spm dm (.map q) fs fd fl) {k m : IdT} (hk : lookI D.lives k = none) (hp : h.next ≤ p) (hpn : p < H.next)
    (h1 : H.get p = some (.row 0 false [.int .u16 m.1, .int .u32 m.2, .nils])) (h2 : H.get q = some (.map (entI (putI (D.lives.map fun x => (x.1, fl x.1)) k (.ptr p 0))))) (h3 : ∀ o, o < h.next → o ≠ q → H.get o = h.get o) (hn : h.next ≤ H.next) :
    ∃ col', CStX H s col' { D with lives := putI D.lives k ⟨m, []⟩ } spm dm (.map q) fs fd (fun j => if j = k then .ptr p 0 else fl j) ∧ Stp h (fun o => col o ≠ .other) H (fun o => col' o ≠ .other) := by
  obtain ⟨q1, q2, q3⟩ := C.lmq
  obtain ⟨col', U, hc⟩ := C.color (H := H) (X := (· = .lmap)) (Y := (· = p)) (tg := .life k) (by simp) (by simp) (fun o e => by rw [e]; exact hpn) hn (fun o ho hx => h3 o ho (fun e => hx (by rw [e]; exact q2)))
  refine ⟨col', ⟨U.st (D := D) C (by simp), U.map (by simp) C.mS, U.map (by simp) C.mD, .inr ⟨q, rfl, Nat.lt_of_lt_of_le q1 hn, by rw [U.c q q1]; exact q2, ?_⟩, C.nn, C.ns, C.nd, put_nodup _ _ C.nl, fun j l hj => U.own (by simp) (C.sp j l hj), fun j d hj => U.deed (by simp) (by simp) (C.de j d hj), fun j d hj => ?_, U.lt C.lt⟩, U.stp⟩
  · rw [h2]
    have := put_put (β := AVal) (fun j => fl j) k (⟨m, []⟩ : Lf) (.ptr p 0) D.lives C.nl
    rw [← this]
  · show LifeOk H col' j d (if j = k then .ptr p 0 else fl j)
    rw [show lookI (putI D.lives k ⟨m, []⟩) j = _ from look_put _ _ _ _] at hj
    by_cases e : j = k
    · rw [if_pos e] at hj ⊢
      cases hj
      exact ⟨p, .nils, rfl, hpn, by rw [e]; exact hc p rfl hp, h1, ⟨Mine.nil _ _ _, fun o ho => ho.elim⟩⟩
    · rw [if_neg e] at hj ⊢
      exact U.life (by simp) (by simp) (C.li j d hj)
/-- an element more of a slice of one's own; what is put is laid down first -/
theorem OwnS.app {tg : Tg} {sz b : Nat} {es : List (List AVal)} {v : AVal} {e : List AVal} (M : OwnS h col tg sz es v) (hsz : 0 < sz) (he : e.length = sz) (hb : (es.length + 1) * b ≤ 2 ^ 47) :
    ∃ v' h2, appCore sz b (h.push (.row sz false e)) v 1 e = .ok (v', h2) ∧ Mine hZ h2 sz (es ++ [e]) v' ∧ h.next ≤ h2.next ∧ (∀ o, o < h.next → col o ≠ tg → h2.get o = h.get o) ∧ (∀ o, vobj v' o → (vobj v o ∨ h.next ≤ o) ∧ o < h2.next) ∧ ∃ q, v' = .sl q 0 (es.length + 1) := by
  have op : Old h (h.push (.row sz false e)) := (Old.refl h).push _
  obtain ⟨v', h2, k1, k2, k3, _⟩ := (M.m.keep op).append1G (bytes := b) (e := e) hsz he hb (Nat.zero_le _)
  obtain ⟨f1, f2, f3⟩ := app_frame k1 (M.m.keep op).notSlc
  have hn : (h.push (.row sz false e)).next = h.next + 1 := rfl
  refine ⟨v', h2, k1, k2, by omega, fun o ho hc => ?_, fun o ho => ⟨?_, (k2.obj o ho).2⟩, ?_⟩
  · rw [f2 o (by omega) (fun hv => hc (M.c o hv)), op.2 o ho]
  · rcases f3 o ho with h1 | h1
    · exact .inl h1
    · exact .inr (by omega)
  · rcases k2.2 with ⟨e, _⟩ | ⟨q, _, e, _⟩
    · simp at e
    · exact ⟨q, by rw [e, List.length_append]; rfl⟩
/-- an element that a transaction touched -/
theorem CStX.touch (C : CStX h s col D spm dm lm fs fd fl) {k e : IdT} {d : Dl} (hd : lookI D.deeds k = some d) (b : Nat) (hb : (d.touched.length + 1) * b ≤ 2 ^ 47) :
    ∃ p t q h2 t', t' = .sl q 0 (d.touched.length + 1) ∧ fd k = .ptr p 0 ∧ h.get p = some (.row 0 false [.int .i64 d.undone, t, .bool d.undoes]) ∧ appCore 2 b (h.push (.row 2 false (idc e))) t 1 (idc e) = .ok (t', h2) ∧ h2.get p = h.get p ∧
    ∃ col', CStX (h2.set p (.row 0 false [.int .i64 d.undone, t', .bool d.undoes])) s col' { D with deeds := putI D.deeds k { d with touched := d.touched ++ [e] } } spm dm lm fs fd fl ∧ Stp h (fun o => col o ≠ .other) (h2.set p (.row 0 false [.int .i64 d.undone, t', .bool d.undoes])) (fun o => col' o ≠ .other) := by
  obtain ⟨p, t, e1, e2, e3, e4, e5⟩ := C.de k d hd
  obtain ⟨t', h2, a1, a2, a3, a4, a5, qq, a6⟩ := e5.app (b := b) (e := idc e) (by decide) rfl (by rw [List.length_map]; exact hb)
  have hp2 : h2.get p = h.get p := a4 p e2 (by rw [e3]; simp)
  obtain ⟨H, hH⟩ : ∃ H, H = h2.set p (.row 0 false [.int .i64 d.undone, t', .bool d.undoes]) := ⟨_, rfl⟩
  have hHn : H.next = h2.next := by rw [hH]; rfl
  refine ⟨p, t, qq, h2, t', by rw [a6, List.length_map], e1, e4, a1, hp2, ?_⟩
  rw [← hH]
  have hne : ∀ o, o ≠ p → H.get o = h2.get o := fun o ho => by rw [hH, get_set_ne (Ne.symm ho)]
  obtain ⟨col', U, hc⟩ := C.color (H := H) (X := fun x => x = .deed k ∨ x = .touch k) (Y := vobj t') (tg := .touch k) (by simp) (by simp) (fun o ho => by rw [hHn]; exact (a5 o ho).2) (by omega) (fun o ho hx => by
    rw [hne o (fun e => hx (.inl (by rw [e]; exact e3))), a4 o ho (fun e => hx (.inr e))])
  have hpt : ¬ vobj t' p := fun hv => by
    rcases (a5 p hv).1 with h1 | h1
    · have := e5.c p h1; rw [e3] at this; cases this
    · omega
  have hsame := put_same (β := AVal) (fun j => fd j) k ({ d with touched := d.touched ++ [e] } : Dl) (l := D.deeds) (by rw [hd]; simp)
  refine ⟨col', ⟨U.st (D := D) C (by simp), U.map (by simp) C.mS, ?_, U.map (by simp) C.mL, C.nn, C.ns, put_nodup _ _ C.nd, C.nl, fun j l hj => U.own (by simp) (C.sp j l hj), fun j d' hj => ?_, fun j l hj => U.life (by simp) (by simp) (C.li j l hj), U.lt C.lt⟩, U.stp⟩
  · rw [show (putI D.deeds k { d with touched := d.touched ++ [e] }).map (fun p => (p.1, fd p.1)) = _ from hsame]
    exact U.map (by simp) C.mD
  · rw [show lookI (putI D.deeds k _) j = _ from look_put _ _ _ _] at hj
    by_cases ej : j = k
    · rw [if_pos ej] at hj
      cases hj
      rw [ej]
      refine ⟨p, t', e1, by omega, by rw [U.c p e2]; exact e3, by rw [hH, get_set_self], ⟨?_, fun o ho => ?_⟩⟩
      · rw [List.map_append]
        exact a2.keepO (fun o ho => hne o (fun e => hpt (by rw [← e]; exact ho))) (by omega)
      · rcases (a5 o ho).1 with h1 | h1
        · rw [U.c o (e5.m.obj o h1).2]; exact e5.c o h1
        · exact hc o ho h1
    · rw [if_neg ej] at hj
      exact U.deed (by simp [ej]) (by simp [ej]) (C.de j d' hj)
/-- a transaction that let an element go -/
theorem CStX.let_ (C : CStX h s col D spm dm lm fs fd fl) {k e : IdT} {d : Lf} (hd : lookI D.lives k = some d) (b : Nat) (hb : (d.gone.length + 1) * b ≤ 2 ^ 47) :
    ∃ p t q h2 t', t' = .sl q 0 (d.gone.length + 1) ∧ fl k = .ptr p 0 ∧ h.get p = some (.row 0 false [.int .u16 d.made.1, .int .u32 d.made.2, t]) ∧ appCore 2 b (h.push (.row 2 false (idc e))) t 1 (idc e) = .ok (t', h2) ∧ h2.get p = h.get p ∧
    ∃ col', CStX (h2.set p (.row 0 false [.int .u16 d.made.1, .int .u32 d.made.2, t'])) s col' { D with lives := putI D.lives k { d with gone := d.gone ++ [e] } } spm dm lm fs fd fl ∧ Stp h (fun o => col o ≠ .other) (h2.set p (.row 0 false [.int .u16 d.made.1, .int .u32 d.made.2, t'])) (fun o => col' o ≠ .other) := by
  obtain ⟨p, t, e1, e2, e3, e4, e5⟩ := C.li k d hd
  obtain ⟨t', h2, a1, a2, a3, a4, a5, qq, a6⟩ := e5.app (b := b) (e := idc e) (by decide) rfl (by rw [List.length_map]; exact hb)
  have hp2 : h2.get p = h.get p := a4 p e2 (by rw [e3]; simp)
  obtain ⟨H, hH⟩ : ∃ H, H = h2.set p (.row 0 false [.int .u16 d.made.1, .int .u32 d.made.2, t']) := ⟨_, rfl⟩
  have hHn : H.next = h2.next := by rw [hH]; rfl
  refine ⟨p, t, qq, h2, t', by rw [a6, List.length_map], e1, e4, a1, hp2, ?_⟩
  rw [← hH]
  have hne : ∀ o, o ≠ p → H.get o = h2.get o := fun o ho => by rw [hH, get_set_ne (Ne.symm ho)]
  obtain ⟨col', U, hc⟩ := C.color (H := H) (X := fun x => x = .life k ∨ x = .gone k) (Y := vobj t') (tg := .gone k) (by simp) (by simp) (fun o ho => by rw [hHn]; exact (a5 o ho).2) (by omega) (fun o ho hx => by
    rw [hne o (fun e => hx (.inl (by rw [e]; exact e3))), a4 o ho (fun e => hx (.inr e))])
  have hpt : ¬ vobj t' p := fun hv => by
    rcases (a5 p hv).1 with h1 | h1
    · have := e5.c p h1; rw [e3] at this; cases this
    · omega
  have hsame := put_same (β := AVal) (fun j => fl j) k ({ d with gone := d.gone ++ [e] } : Lf) (l := D.lives) (by rw [hd]; simp)
  refine ⟨col', ⟨U.st (D := D) C (by simp), U.map (by simp) C.mS, U.map (by simp) C.mD, ?_, C.nn, C.ns, C.nd, put_nodup _ _ C.nl, fun j l hj => U.own (by simp) (C.sp j l hj), fun j l hj => U.deed (by simp) (by simp) (C.de j l hj), fun j d' hj => ?_, U.lt C.lt⟩, U.stp⟩
  · rw [show (putI D.lives k { d with gone := d.gone ++ [e] }).map (fun p => (p.1, fl p.1)) = _ from hsame]
    exact U.map (by simp) C.mL
  · rw [show lookI (putI D.lives k _) j = _ from look_put _ _ _ _] at hj
    by_cases ej : j = k
    · rw [if_pos ej] at hj
      cases hj
      rw [ej]
      refine ⟨p, t', e1, by omega, by rw [U.c p e2]; exact e3, by rw [hH, get_set_self], ⟨?_, fun o ho => ?_⟩⟩
      · rw [List.map_append]
        exact a2.keepO (fun o ho => hne o (fun e => hpt (by rw [← e]; exact ho))) (by omega)
      · rcases (a5 o ho).1 with h1 | h1
        · rw [U.c o (e5.m.obj o h1).2]; exact e5.c o h1
        · exact hc o ho h1
    · rw [if_neg ej] at hj
      exact U.life (by simp [ej]) (by simp [ej]) (C.li j d' hj)
/-- a transaction that is undone, or done again -/
theorem CStX.turn (C : CStX h s col D spm dm lm fs fd fl) {k : IdT} {d : Dl} (hd : lookI D.deeds k = some d) (n : Int) :
    ∃ p t, fd k = .ptr p 0 ∧ h.get p = some (.row 0 false [.int .i64 d.undone, t, .bool d.undoes]) ∧ OwnS h col (.touch k) 2 (d.touched.map idc) t ∧ (∀ o, vobj t o → o ≠ p) ∧
    CStX (h.set p (.row 0 false [.int .i64 n, t, .bool d.undoes])) s col { D with deeds := putI D.deeds k { d with undone := n } } spm dm lm fs fd fl ∧ Stp h (fun o => col o ≠ .other) (h.set p (.row 0 false [.int .i64 n, t, .bool d.undoes])) (fun o => col o ≠ .other) := by
  obtain ⟨p, t, e1, e2, e3, e4, e5⟩ := C.de k d hd
  obtain ⟨H, hH⟩ : ∃ H, H = h.set p (.row 0 false [.int .i64 n, t, .bool d.undoes]) := ⟨_, rfl⟩
  have hHn : H.next = h.next := by rw [hH]; rfl
  have hpt : ∀ o, vobj t o → o ≠ p := fun o ho e => by have := e5.c o ho; rw [e, e3] at this; cases this
  refine ⟨p, t, e1, e4, e5, hpt, ?_⟩
  rw [← hH]
  have hne : ∀ o, o ≠ p → H.get o = h.get o := fun o ho => by rw [hH, get_set_ne (Ne.symm ho)]
  have U : Upd h H col col (fun x => x = .deed k) := ⟨by omega, fun o ho hx => hne o (fun e => hx (by rw [e]; exact e3)), fun _ _ => rfl, fun o ho => by rw [C.new ho]; exact ⟨by simp, fun e => (e rfl).elim⟩, by simp⟩
  have hsame := put_same (β := AVal) (fun j => fd j) k ({ d with undone := n } : Dl) (l := D.deeds) (by rw [hd]; simp)
  refine ⟨⟨U.st (D := D) C (by simp), U.map (by simp) C.mS, ?_, U.map (by simp) C.mL, C.nn, C.ns, put_nodup _ _ C.nd, C.nl, fun j l hj => U.own (by simp) (C.sp j l hj), fun j d' hj => ?_, fun j l hj => U.life (by simp) (by simp) (C.li j l hj), U.lt C.lt⟩, U.stp⟩
  · rw [show (putI D.deeds k { d with undone := n }).map (fun p => (p.1, fd p.1)) = _ from hsame]
    exact U.map (by simp) C.mD
  · rw [show lookI (putI D.deeds k _) j = _ from look_put _ _ _ _] at hj
    by_cases ej : j = k
    · rw [if_pos ej] at hj
      cases hj
      rw [ej]
      exact ⟨p, t, e1, by omega, e3, by rw [hH, get_set_self], U.own (by simp) e5⟩
    · rw [if_neg ej] at hj
      exact U.deed (by simp [ej]) (by simp) (C.de j d' hj)
end
end Go.Proofs.YtlhlbamcgopiiaaGreatDoor
set_option linter.all false
set_option maxRecDepth 100000
set_option maxHeartbeats 4000000
namespace Go.Proofs.YtlhlbamcgopiiaaGreatDoor
open Go Go.RowKit Go.Proofs
section
variable {h H : AHeap} {s : Nat} {col col' : Nat → Tg} {D : CV} {spm dm lm : AVal} {fs fd fl : IdT → AVal} {X : Tg → Prop}
theorem Upd.or (U : Upd h H col col' X) (Y : Tg → Prop) (hY : ¬ Y .other) : Upd h H col col' (fun t => X t ∨ Y t) := ⟨U.n, fun o ho hx => U.g o ho (fun e => hx (.inl e)), U.c, U.x, fun e => e.elim U.o hY⟩
/-- the numbers in a Core's row -/
theorem CStX.num (C : CStX h s col D spm dm lm fs fd fl) (n c e : Nat) : ∃ p sd m, h.get s = some (.row 0 false [p, .int .u64 sd, m, spm, .int .i64 (D.nsp : Nat), dm, lm, .int .u64 (D.clock : Nat), .int .i64 (D.elems : Nat)]) ∧
    CStX (h.set s (.row 0 false [p, .int .u64 sd, m, spm, .int .i64 (n : Nat), dm, lm, .int .u64 (c : Nat), .int .i64 (e : Nat)])) s col { D with nsp := n, clock := c, elems := e } spm dm lm fs fd fl ∧
    Stp h (fun o => col o ≠ .other) (h.set s (.row 0 false [p, .int .u64 sd, m, spm, .int .i64 (n : Nat), dm, lm, .int .u64 (c : Nat), .int .i64 (e : Nat)])) (fun o => col o ≠ .other) := by
  obtain ⟨p, sd, m, h1, h2⟩ := C.setrow
  obtain ⟨S, U⟩ := h2 (H := h.set s (.row 0 false [p, .int .u64 sd, m, spm, .int .i64 (n : Nat), dm, lm, .int .u64 (c : Nat), .int .i64 (e : Nat)])) (zU := [spm, .int .i64 (n : Nat), dm, lm, .int .u64 (c : Nat), .int .i64 (e : Nat)]) (get_set_self _ _ _) (fun o _ ho => get_set_ne (Ne.symm ho)) (Nat.le_refl _)
  exact ⟨p, sd, m, h1, ⟨S, U.map (by simp) C.mS, U.map (by simp) C.mD, U.map (by simp) C.mL, C.nn, C.ns, C.nd, C.nl, fun j l hj => U.own (by simp) (C.sp j l hj), fun j l hj => U.deed (by simp) (by simp) (C.de j l hj), fun j l hj => U.life (by simp) (by simp) (C.li j l hj), U.lt C.lt⟩, U.stp⟩
theorem nil_lives (C : CStX h s col D spm dm .nilm fs fd fl) : D.lives = [] := by
  rcases C.mL with ⟨_, e⟩ | ⟨q, e, _⟩
  · simpa using e
  · cases e
theorem nil_deeds (C : CStX h s col D spm .nilm lm fs fd fl) : D.deeds = [] := by
  rcases C.mD with ⟨_, e⟩ | ⟨q, e, _⟩
  · simpa using e
  · cases e
theorem nil_sp (C : CStX h s col D .nilm dm lm fs fd fl) : D.sp = [] := by
  rcases C.mS with ⟨_, e⟩ | ⟨q, e, _⟩
  · simpa using e
  · cases e
/-- the tally's maps, made -/
theorem CStX.maps (C : CStX h s col D spm .nilm .nilm fs fd fl) : ∃ p sd m, h.get s = some (.row 0 false [p, .int .u64 sd, m, spm, .int .i64 (D.nsp : Nat), .nilm, .nilm, .int .u64 (D.clock : Nat), .int .i64 (D.elems : Nat)]) ∧
    ∀ {H : AHeap}, H.get s = some (.row 0 false [p, .int .u64 sd, m, spm, .int .i64 (D.nsp : Nat), .map h.next, .map (h.next + 1), .int .u64 (D.clock : Nat), .int .i64 (D.elems : Nat)]) → H.get h.next = some (.map []) → H.get (h.next + 1) = some (.map []) →
      (∀ o, o < h.next → o ≠ s → H.get o = h.get o) → H.next = h.next + 2 → ∃ col', CStX H s col' D spm (.map h.next) (.map (h.next + 1)) fs fd fl ∧ Stp h (fun o => col o ≠ .other) H (fun o => col' o ≠ .other) := by
  classical
  obtain ⟨p, sd, m, h1, h2⟩ := C.setrow
  refine ⟨p, sd, m, h1, fun {H} e1 e2 e3 e4 e5 => ?_⟩
  obtain ⟨S, U0⟩ := h2 (zU := [spm, .int .i64 (D.nsp : Nat), .map h.next, .map (h.next + 1), .int .u64 (D.clock : Nat), .int .i64 (D.elems : Nat)]) e1 e4 (by omega)
  obtain ⟨col', hc⟩ : ∃ col' : Nat → Tg, ∀ o, col' o = if o = h.next then .dmap else if o = h.next + 1 then .lmap else col o := ⟨_, fun _ => rfl⟩
  have c1 : col' h.next = .dmap := by rw [hc, if_pos rfl]
  have c2 : col' (h.next + 1) = .lmap := by rw [hc, if_neg (by omega), if_pos rfl]
  have U : Upd h H col col' (· = .store) := ⟨U0.n, U0.g, fun o ho => by rw [hc, if_neg (by omega), if_neg (by omega)], fun o ho => by
    rw [hc]
    by_cases a : o = h.next
    · rw [if_pos a]; exact ⟨by simp, fun _ => by omega⟩
    · rw [if_neg a]
      by_cases b : o = h.next + 1
      · rw [if_pos b]; exact ⟨by simp, fun _ => by omega⟩
      · rw [if_neg b]; exact U0.x o ho, U0.o⟩
  rw [U.fst C.lt] at S
  have hd := nil_deeds C
  have hl := nil_lives C
  refine ⟨col', ⟨S, U.map (by simp) C.mS, .inr ⟨_, rfl, by omega, c1, by rw [e2, hd]; rfl⟩, .inr ⟨_, rfl, by omega, c2, by rw [e3, hl]; rfl⟩, ⟨fun e => (by cases e), fun e => (by cases e)⟩, C.ns, C.nd, C.nl, fun j l hj => U.own (by simp) (C.sp j l hj), fun j l hj => U.deed (by simp) (by simp) (C.de j l hj), fun j l hj => U.life (by simp) (by simp) (C.li j l hj), U.lt C.lt⟩, U.stp⟩
/-- the spots' map, made -/
theorem CStX.smap (C : CStX h s col D .nilm dm lm fs fd fl) : ∃ p sd m, h.get s = some (.row 0 false [p, .int .u64 sd, m, .nilm, .int .i64 (D.nsp : Nat), dm, lm, .int .u64 (D.clock : Nat), .int .i64 (D.elems : Nat)]) ∧
    ∀ {H : AHeap}, H.get s = some (.row 0 false [p, .int .u64 sd, m, .map h.next, .int .i64 (D.nsp : Nat), dm, lm, .int .u64 (D.clock : Nat), .int .i64 (D.elems : Nat)]) → H.get h.next = some (.map []) →
      (∀ o, o < h.next → o ≠ s → H.get o = h.get o) → H.next = h.next + 1 → ∃ col', CStX H s col' D (.map h.next) dm lm fs fd fl ∧ Stp h (fun o => col o ≠ .other) H (fun o => col' o ≠ .other) := by
  classical
  obtain ⟨p, sd, m, h1, h2⟩ := C.setrow
  refine ⟨p, sd, m, h1, fun {H} e1 e2 e4 e5 => ?_⟩
  obtain ⟨S, U0⟩ := h2 (zU := [.map h.next, .int .i64 (D.nsp : Nat), dm, lm, .int .u64 (D.clock : Nat), .int .i64 (D.elems : Nat)]) e1 e4 (by omega)
  obtain ⟨col', U, c1⟩ := C.color (H := H) (X := (· = .store)) (Y := (· = h.next)) (tg := .smap) (by simp) (by simp) (fun o ho => by omega) (by omega) U0.g
  rw [U.fst C.lt] at S
  have hd := nil_sp C
  refine ⟨col', ⟨S, .inr ⟨_, rfl, by omega, c1 _ rfl (Nat.le_refl _), by rw [e2, hd]; rfl⟩, U.map (by simp) C.mD, U.map (by simp) C.mL, C.nn, C.ns, C.nd, C.nl, fun j l hj => U.own (by simp) (C.sp j l hj), fun j l hj => U.deed (by simp) (by simp) (C.de j l hj), fun j l hj => U.life (by simp) (by simp) (C.li j l hj), U.lt C.lt⟩, U.stp⟩
/-- the places of an element -/
def spOf (D : CV) (k : IdT) : List Sp := (lookI D.sp k).getD []
def spV (D : CV) (fs : IdT → AVal) (k : IdT) : AVal := (lookI (D.sp.map fun p => (p.1, fs p.1)) k).getD .nils
theorem CStX.spv (C : CStX h s col D spm dm lm fs fd fl) (k : IdT) : OwnS h col (.spots k) 5 ((spOf D k).map spc) (spV D fs k) := by
  unfold spV
  have e : lookI (D.sp.map fun p => (p.1, fs p.1)) k = (lookI D.sp k).map fun _ => fs k := look_map_ (fun j _ => fs j) k D.sp
  rw [e]
  unfold spOf
  cases hl : lookI D.sp k with
  | none => exact ⟨Mine.nil _ _ _, fun o ho => ho.elim⟩
  | some l => exact C.sp k l hl
/-- a place more of an element -/
theorem CStX.addSpot {q : Nat} (C : CStX h s col D (.map q) dm lm fs fd fl) {k : IdT} {x : Sp} (b : Nat) (hb : ((spOf D k).length + 1) * b ≤ 2 ^ 47) {v : AVal} (hv : OwnS h col (.spots k) 5 ((spOf D k).map spc) v) :
    ∃ q2 h2 v', v' = .sl q2 0 ((spOf D k).length + 1) ∧ appCore 5 b (h.push (.row 5 false (spc x))) v 1 (spc x) = .ok (v', h2) ∧ (∀ o, o < h.next → col o ≠ .spots k → h2.get o = h.get o) ∧
    ∃ col', CStX (h2.set q (.map (entI (putI (D.sp.map fun p => (p.1, fs p.1)) k v')))) s col' { D with sp := putI D.sp k (spOf D k ++ [x]) } (.map q) dm lm (fun j => if j = k then v' else fs j) fd fl ∧
      Stp h (fun o => col o ≠ .other) (h2.set q (.map (entI (putI (D.sp.map fun p => (p.1, fs p.1)) k v')))) (fun o => col' o ≠ .other) := by
  obtain ⟨q1, q2, q3⟩ := C.smq
  obtain ⟨v', h2, a1, a2, a3, a4, a5, qq, a6⟩ := hv.app (b := b) (e := spc x) (by decide) rfl (by rw [List.length_map]; exact hb)
  have hq2 : h2.get q = h.get q := a4 q q1 (by rw [q2]; simp)
  obtain ⟨H, hH⟩ : ∃ H, H = h2.set q (.map (entI (putI (D.sp.map fun p => (p.1, fs p.1)) k v'))) := ⟨_, rfl⟩
  have hHn : H.next = h2.next := by rw [hH]; rfl
  refine ⟨qq, h2, v', by rw [a6, List.length_map], a1, a4, ?_⟩
  rw [← hH]
  have hne : ∀ o, o ≠ q → H.get o = h2.get o := fun o ho => by rw [hH, get_set_ne (Ne.symm ho)]
  obtain ⟨col', U, hc⟩ := C.color (H := H) (X := fun x => x = .smap ∨ x = .spots k) (Y := vobj v') (tg := .spots k) (by simp) (by simp) (fun o ho => by rw [hHn]; exact (a5 o ho).2) (by omega) (fun o ho hx => by
    rw [hne o (fun e => hx (.inl (by rw [e]; exact q2))), a4 o ho (fun e => hx (.inr e))])
  have hpt : ¬ vobj v' q := fun hv' => by
    rcases (a5 q hv').1 with h1 | h1
    · have := hv.c q h1; rw [q2] at this; cases this
    · omega
  refine ⟨col', ⟨U.st (D := D) C (by simp), .inr ⟨q, rfl, by omega, by rw [U.c q q1]; exact q2, ?_⟩, U.map (by simp) C.mD, U.map (by simp) C.mL, C.nn, put_nodup _ _ C.ns, C.nd, C.nl, fun j l hj => ?_, fun j l hj => U.deed (by simp) (by simp) (C.de j l hj), fun j l hj => U.life (by simp) (by simp) (C.li j l hj), U.lt C.lt⟩, U.stp⟩
  · rw [hH, get_set_self]
    have := put_put (β := AVal) (fun j => fs j) k (spOf D k ++ [x]) v' D.sp C.ns
    rw [← this]
  · show OwnS H col' (.spots j) 5 _ (if j = k then v' else fs j)
    rw [show lookI (putI D.sp k _) j = _ from look_put _ _ _ _] at hj
    by_cases ej : j = k
    · rw [if_pos ej] at hj ⊢
      cases hj
      rw [ej]
      refine ⟨?_, fun o ho => ?_⟩
      · rw [List.map_append]
        exact a2.keepO (fun o ho => hne o (fun e => hpt (by rw [← e]; exact ho))) (by omega)
      · rcases (a5 o ho).1 with h1 | h1
        · rw [U.c o (hv.m.obj o h1).2]; exact hv.c o h1
        · exact hc o ho h1
    · rw [if_neg ej] at hj ⊢
      exact U.own (by simp [ej]) (C.sp j l hj)
end
end Go.Proofs.YtlhlbamcgopiiaaGreatDoor
set_option linter.all false
set_option maxRecDepth 100000
set_option maxHeartbeats 4000000
namespace Go.Proofs.YtlhlbamcgopiiaaGreatDoor
open Go Go.RowKit Go.Proofs
theorem eqMq {P : Program} {h : AHeap} {a b q : Nat} : eqFlat P h (.map a b) (.map q) .nilm = .ok false := rfl
theorem eqMn {P : Program} {h : AHeap} {a b : Nat} : eqFlat P h (.map a b) .nilm .nilm = .ok true := rfl
def offD (D : CV) (k : IdT) : Bool := match lookI D.deeds k with
  | some d => decide (0 < d.undone)
  | none => false
def openD (D : CV) (k : IdT) : Bool := match lookI D.deeds k with
  | some d => !d.undoes
  | none => false
section
variable {ro : Nat → Option (List AVal)} {h : AHeap} {s : Nat} {col : Nat → Tg} {D : CV} {spm dm lm : AVal} {fs fd fl : IdT → AVal} {O : Nat → Prop}
theorem CStX.lookD (C : CStX h s col D spm dm lm fs fd fl) (k : IdT) : ∃ v, lookupR (cfgR ro) h 35 dm (.agg [.int .u16 k.1, .int .u32 k.2]) false = .ok v ∧
    ((lookI D.deeds k = none ∧ v = .nilp) ∨ ∃ d, lookI D.deeds k = some d ∧ v = fd k ∧ DeedOk h col k d v) := by
  have e : lookI (D.deeds.map fun p => (p.1, fd p.1)) k = (lookI D.deeds k).map fun _ => fd k := look_map_ (fun j _ => fd j) k D.deeds
  refine ⟨_, look_I mtD (C.mD.imp_right fun ⟨q, e, _, _, g⟩ => ⟨q, e, g⟩) k, ?_⟩
  rw [e]
  cases hd : lookI D.deeds k with
  | none => exact .inl ⟨rfl, rfl⟩
  | some d => exact .inr ⟨d, rfl, rfl, C.de k d hd⟩
theorem CStX.lookL (C : CStX h s col D spm dm lm fs fd fl) (k : IdT) : ∃ v, lookupR (cfgR ro) h 36 lm (.agg [.int .u16 k.1, .int .u32 k.2]) false = .ok v ∧
    ((lookI D.lives k = none ∧ v = .nilp) ∨ ∃ d, lookI D.lives k = some d ∧ v = fl k ∧ LifeOk h col k d v) := by
  have e : lookI (D.lives.map fun p => (p.1, fl p.1)) k = (lookI D.lives k).map fun _ => fl k := look_map_ (fun j _ => fl j) k D.lives
  refine ⟨_, look_I mtL (C.mL.imp_right fun ⟨q, e, _, _, g⟩ => ⟨q, e, g⟩) k, ?_⟩
  rw [e]
  cases hd : lookI D.lives k with
  | none => exact .inl ⟨rfl, rfl⟩
  | some d => exact .inr ⟨d, rfl, rfl, C.li k d hd⟩
theorem CStX.lookS (C : CStX h s col D spm dm lm fs fd fl) (k : IdT) : lookupR (cfgR ro) h 32 spm (.agg [.int .u16 k.1, .int .u32 k.2]) false = .ok (spV D fs k) :=
  look_I mtS (C.mS.imp_right fun ⟨q, e, _, _, g⟩ => ⟨q, e, g⟩) k
theorem knows_ev (C : CSt h s O D) {k : IdT} {Q : AVal → AHeap → Prop} (hq : Q (.bool (lookI D.deeds k).isSome) h) : Ev (cfgR ro) 78 [.ptr s 5, idA k.1 k.2] h Q := by
  obtain ⟨col, spm, dm, lm, fs, fd, fl, rfl, C⟩ := C
  obtain ⟨hcs, p, sd, m, hr⟩ := C.row
  obtain ⟨v, L, hv⟩ := C.lookD (ro := ro) k
  refine Ev.wp rfl rfl Tryz.func78 rfl ?_
  rcases hv with ⟨e, rfl⟩ | ⟨d, e, _, pd, t, rfl, _⟩ <;> rw [e] at hq <;> simp -implicitDefEqProofs [Tryz.f78, idA, hr, L] <;> exact hq
theorem open_ev (C : CSt h s O D) {k : IdT} {Q : AVal → AHeap → Prop} (hq : Q (.bool (openD D k)) h) : Ev (cfgR ro) 80 [.ptr s 5, idA k.1 k.2] h Q := by
  obtain ⟨col, spm, dm, lm, fs, fd, fl, rfl, C⟩ := C
  obtain ⟨hcs, p, sd, m, hr⟩ := C.row
  obtain ⟨v, L, hv⟩ := C.lookD (ro := ro) k
  refine Ev.wp rfl rfl Tryz.func80 rfl ?_
  unfold openD at hq
  rcases hv with ⟨e, rfl⟩ | ⟨d, e, _, pd, t, rfl, _, _, hp, _⟩ <;> rw [e] at hq
  · simp -implicitDefEqProofs [Tryz.f80, idA, hr, L]; exact hq
  · simp -implicitDefEqProofs [Tryz.f80, idA, hr, L, hp]; exact hq
theorem off_ev (C : CSt h s O D) {k : IdT} {Q : AVal → AHeap → Prop} (hq : Q (.bool (offD D k)) h) : Ev (cfgR ro) 79 [.ptr s 5, idA k.1 k.2] h Q := by
  obtain ⟨col, spm, dm, lm, fs, fd, fl, rfl, C⟩ := C
  obtain ⟨hcs, p, sd, m, hr⟩ := C.row
  obtain ⟨v, L, hv⟩ := C.lookD (ro := ro) k
  refine Ev.wp rfl rfl Tryz.func79 rfl ?_
  unfold offD at hq
  rcases hv with ⟨e, rfl⟩ | ⟨d, e, _, pd, t, rfl, _, _, hp, _⟩ <;> rw [e] at hq
  · simp -implicitDefEqProofs [Tryz.f79, idA, hr, L]; exact hq
  · simp -implicitDefEqProofs [Tryz.f79, idA, hr, L, hp]; exact hq
theorem thas_ev (C : CSt h s O D) {k : IdT} {Q : AVal → AHeap → Prop} (hq : Q (.bool (lookI D.lives k).isSome) h) : Ev (cfgR ro) 100 [.ptr s 5, idA k.1 k.2] h Q := by
  obtain ⟨col, spm, dm, lm, fs, fd, fl, rfl, C⟩ := C
  obtain ⟨hcs, p, sd, m, hr⟩ := C.row
  obtain ⟨v, L, hv⟩ := C.lookL (ro := ro) k
  refine Ev.wp rfl rfl Tryz.func100 rfl ?_
  rcases hv with ⟨e, rfl⟩ | ⟨d, e, _, pd, t, rfl, _⟩ <;> rw [e] at hq <;> simp -implicitDefEqProofs [Tryz.f100, idA, hr, L] <;> exact hq
/-- a list of names, read -/
structure Ei (h : AHeap) (v : AVal) (i : Nat) (a : IdT) : Prop where
  x : indexAddrR Tryz.prog 113 v (.int .i64 (i : Nat)) = .ok (elp v 2 i)
  o : ∀ d, addOff (elp v 2 i) d = .ok (elpo v 2 i d)
  l : loadR (cfgR ro) h 55 (elp v 2 i) = .ok (.agg [.int .u16 a.1, .int .u32 a.2])
theorem Ei.of {v : AVal} {l : List IdT} (hs : Sl (cfgR ro) h 2 v (l.map idc)) {i : Nat} {a : IdT} (ha : l[i]? = some a) : Ei (ro := ro) h v i a := by
  have hi : i < (l.map idc).length := by have := (List.getElem?_eq_some_iff.1 ha).1; simpa using this
  have he : (l.map idc)[i]? = some (idc a) := by rw [List.getElem?_map, ha]; rfl
  exact ⟨hs.idx un113 sz55 hi, fun d => elp_off hs hi, hs.load he ag55 sz55⟩
theorem lenI {v : AVal} {l : List IdT} (hs : Sl (cfgR ro) h 2 v (l.map idc)) : lenR (cfgR ro) h 113 v = .ok (.int .i64 (l.length : Nat)) := by have := hs.lenR (t := 113) un113; simpa using this
theorem indexI_ev {v : AVal} {l : List IdT} {a : IdT} (hs : Sl (cfgR ro) h 2 v (l.map idc)) (hl : l.length < 2 ^ 60) {Q : AVal → AHeap → Prop} (hq1 : ∀ i : Nat, a ∈ l → Q (.int .i64 i) h) (hq2 : a ∉ l → Q (.int .i64 (-1)) h) : Ev (cfgR ro) 191 [v, idA a.1 a.2] h Q := by
  refine Ev.wp rfl rfl Tryz.func191 rfl ?_
  have hL := lenI hs
  simp -implicitDefEqProofs [Tryz.f191, idA, hL]
  obtain ⟨I, hI⟩ : ∃ I : Nat → List AVal → AHeap → Prop, I = fun m env h' => h' = h ∧ ∃ i : Nat, i + m = l.length ∧ (∀ (j : Nat) (b : IdT), j < i → l[j]? = some b → b ≠ a) ∧
    env = (v :: .dead :: .dead :: .cell [.int .u16 a.1, .int .u32 a.2] :: .dead :: .dead :: .dead :: .int .i64 (l.length : Nat) :: .int .i64 (i : Nat) :: .dead :: .dead :: .dead :: .dead :: .dead :: .dead :: .dead :: .dead :: .dead :: .dead :: []) := ⟨_, rfl⟩
  refine loop_of I ?_ l.length (by rw [hI]; exact ⟨rfl, 0, by omega, fun j b hj => by omega, rfl⟩)
  intro m env h' hi
  rw [hI] at hi
  obtain ⟨rfl, i, him, hno, rfl⟩ := hi
  by_cases hlt : i < l.length
  · obtain ⟨b, hb⟩ : ∃ b, l[i]? = some b := ⟨_, List.getElem?_eq_getElem hlt⟩
    have E := Ei.of hs hb
    have d1 : decide ((i : Int) < (l.length : Int)) = true := decide_eq_true (by omega)
    have w1 : IntKind.i64.wrap ((i : Int) + 1) = ((i + 1 : Nat) : Int) := by rw [w64 (by omega) (by omega)]; omega
    have e1 := eqID (ro := ro) h' a.1 a.2 b.1 b.2
    by_cases c : a = b
    · have e2 : a.1 = b.1 ∧ a.2 = b.2 := by rw [c]; exact ⟨rfl, rfl⟩
      rw [decide_eq_true e2] at e1
      simp -implicitDefEqProofs [hlt, E.x, E.l, eqLID, e1, same_self]
      exact hq1 i (by rw [c]; exact List.mem_of_getElem? hb)
    · have e2 : ¬ (a.1 = b.1 ∧ a.2 = b.2) := fun e => c (Prod.ext e.1 e.2)
      rw [decide_eq_false e2] at e1
      simp -implicitDefEqProofs [hlt, E.x, E.l, eqLID, e1, same_self, w1]
      exact .mk (m := m - 1) (by omega) (by rw [hI]; exact ⟨rfl, i + 1, by omega, fun j b' hj hb' => by
        by_cases e : j = i
        · subst e; rw [hb] at hb'; cases hb'; exact fun e => c e.symm
        · exact hno j b' (by omega) hb', rfl⟩)
  · simp -implicitDefEqProofs [hlt]
    refine hq2 (fun hm => ?_)
    obtain ⟨j, hj⟩ := List.mem_iff_getElem?.1 hm
    have := (List.getElem?_eq_some_iff.1 hj).1
    exact hno j a (by omega) hj rfl
theorem containsI_ev {v : AVal} {l : List IdT} {a : IdT} (hs : Sl (cfgR ro) h 2 v (l.map idc)) (hl : l.length < 2 ^ 60) {Q : AVal → AHeap → Prop} (hq : Q (.bool (decide (a ∈ l))) h) : Ev (cfgR ro) 164 [v, idA a.1 a.2] h Q := by
  refine Ev.wp rfl rfl Tryz.func164 rfl ?_
  simp -implicitDefEqProofs [Tryz.f164, idA]
  refine indexI_ev (a := a) hs hl (fun i hm => ?_) (fun hm => ?_)
  · rw [decide_eq_true hm] at hq
    simp -implicitDefEqProofs
    exact hq
  · rw [decide_eq_false hm] at hq
    simp -implicitDefEqProofs
    exact hq
end
end Go.Proofs.YtlhlbamcgopiiaaGreatDoor
set_option linter.all false
set_option maxRecDepth 100000
set_option maxHeartbeats 4000000
namespace Go.Proofs.YtlhlbamcgopiiaaGreatDoor
open Go Go.RowKit Go.Proofs
/-- an element that a transaction touched -/
def touchD (D : CV) (k e : IdT) : CV := match lookI D.deeds k with
  | some d => if e ∈ d.touched then D else { D with deeds := putI D.deeds k { d with touched := d.touched ++ [e] } }
  | none => D
def letD (D : CV) (k e : IdT) : CV := match lookI D.lives e with
  | some d => { D with lives := putI D.lives e { d with gone := d.gone ++ [k] } }
  | none => D
def turnD (D : CV) (k : IdT) (undo : Bool) : CV := match lookI D.deeds k with
  | some d => { D with deeds := putI D.deeds k { d with undone := if undo then d.undone + 1 else d.undone - 1 } }
  | none => D
def countD (D : CV) (e : IdT) : Int := match lookI D.lives e with
  | some l => (if offD D l.made then 0 else 1) - ((l.gone.filter fun k => !offD D k).length : Nat)
  | none => 0
section
variable {ro : Nat → Option (List AVal)} {h : AHeap} {s : Nat} {D : CV} {O : Nat → Prop}
theorem tknow_ev (C : CSt h s O D) {k : IdT} {u : Bool} (hk : lookI D.deeds k = none) {Q : AVal → AHeap → Prop} (hq : ∀ h' O', CSt h' s O' { D with deeds := putI D.deeds k ⟨0, [], u⟩ } → Stp h O h' O' → Q (.int .i64 0) h') : Ev (cfgR ro) 59 [.ptr s 5, idA k.1 k.2, .bool u] h Q := by
  obtain ⟨col, spm, dm, lm, fs, fd, fl, rfl, C⟩ := C
  obtain ⟨hcs, p, sd, m, hr⟩ := C.row
  refine Ev.wp rfl rfl Tryz.func59 rfl ?_
  have fin : ∀ (h1 : AHeap) (col1 : Nat → Tg) (q : Nat) (lm1 : AVal), CStX h1 s col1 D spm (.map q) lm1 fs fd fl → Stp h (fun o => col o ≠ .other) h1 (fun o => col1 o ≠ .other) →
      Q (.int .i64 0) ((h1.push (.row 0 false [.int .i64 0, .nils, .bool u])).set q (.map (entI (putI (D.deeds.map fun x => (x.1, fd x.1)) k (.ptr h1.next 0))))) := by
    intro h1 col1 q lm1 C1 P1
    obtain ⟨q1, q2, q3⟩ := C1.dmq
    obtain ⟨col2, C2, P2⟩ := C1.addDeed (H := (h1.push (.row 0 false [.int .i64 0, .nils, .bool u])).set q (.map (entI (putI (D.deeds.map fun x => (x.1, fd x.1)) k (.ptr h1.next 0))))) (p := h1.next) (u := u) hk (Nat.le_refl _) (by simp) (by rw [get_set_ne (by omega), get_push_next]) (get_set_self _ _ _) (fun o ho hn => by rw [get_set_ne (Ne.symm hn), AHeap.get_push, if_neg (by omega)]) (by simp)
    exact hq _ _ ⟨col2, _, _, _, _, _, _, rfl, C2⟩ (P1.trans P2)
  by_cases hd : dm = .nilm
  · subst hd
    have hl := C.nn.1 rfl
    subst hl
    obtain ⟨p, sd, m, hr, hm⟩ := C.maps
    obtain ⟨H, hH⟩ : ∃ H, H = ((((h.push (.map [])).push (.map [])).set s (.row 0 false [p, .int .u64 sd, m, spm, .int .i64 (D.nsp : Nat), .map h.next, .nilm, .int .u64 (D.clock : Nat), .int .i64 (D.elems : Nat)])).set s (.row 0 false [p, .int .u64 sd, m, spm, .int .i64 (D.nsp : Nat), .map h.next, .map (h.next + 1), .int .u64 (D.clock : Nat), .int .i64 (D.elems : Nat)])) := ⟨_, rfl⟩
    have hsn : s < h.next := C.lt s (by rw [hcs]; simp)
    have hrp : ((h.push (.map [])).push (.map [])).get s = h.get s := by rw [AHeap.get_push, if_neg (by simp; omega), AHeap.get_push, if_neg (by omega)]
    rw [hr] at hrp
    have hHs : H.get s = some (.row 0 false [p, .int .u64 sd, m, spm, .int .i64 (D.nsp : Nat), .map h.next, .map (h.next + 1), .int .u64 (D.clock : Nat), .int .i64 (D.elems : Nat)]) := by rw [hH, get_set_self]
    obtain ⟨col1, C1, P1⟩ := hm (H := H) hHs (by rw [hH, get_set_ne (by omega), get_set_ne (by omega), AHeap.get_push, if_neg (by simp), get_push_next]) (by rw [hH, get_set_ne (by omega), get_set_ne (by omega)]; exact get_push_next (h.push (.map [])) _) (fun o ho hn => by rw [hH, get_set_ne (Ne.symm hn), get_set_ne (Ne.symm hn), AHeap.get_push, if_neg (by simp; omega), AHeap.get_push, if_neg (by omega)]) (by rw [hH]; rfl)
    obtain ⟨v, L, hv⟩ := C1.lookD (ro := ro) k
    have hv : v = .nilp := by
      rcases hv with ⟨_, e⟩ | ⟨d, e, _⟩
      · exact e
      · rw [hk] at e; cases e
    subst hv
    obtain ⟨q1, q2, q3⟩ := C1.dmq
    have hp1 := put_I (ro := ro) (mtD) (h := H.push (.row 0 false [.int .i64 0, .nils, .bool u])) (q := h.next) (by rw [AHeap.get_push, if_neg (by omega)]; exact q3) k (.ptr H.next 0)
    simp -implicitDefEqProofs [Tryz.f59, idA, hr, eqMn, hrp]
    rw [← hH]
    simp -implicitDefEqProofs [hHs, L, hp1]
    exact ⟨.inl (by decide +kernel), fin H col1 h.next _ C1 P1⟩
  · obtain ⟨q, rfl⟩ : ∃ q, dm = .map q := by
      rcases C.mD with ⟨e, _⟩ | ⟨q, e, _⟩
      · exact (hd e).elim
      · exact ⟨q, e⟩
    obtain ⟨v, L, hv⟩ := C.lookD (ro := ro) k
    have hv : v = .nilp := by
      rcases hv with ⟨_, e⟩ | ⟨d, e, _⟩
      · exact e
      · rw [hk] at e; cases e
    subst hv
    obtain ⟨q1, q2, q3⟩ := C.dmq
    have hp1 := put_I (ro := ro) (mtD) (h := h.push (.row 0 false [.int .i64 0, .nils, .bool u])) (q := q) (by rw [AHeap.get_push, if_neg (by omega)]; exact q3) k (.ptr h.next 0)
    simp -implicitDefEqProofs [Tryz.f59, idA, hr, eqMq, L, hp1]
    exact ⟨.inl (by decide +kernel), fin h col q _ C (Stp.refl _ _)⟩
theorem touch_ev {col : Nat → Tg} {spm dm lm : AVal} {fs fd fl : IdT → AVal} (C : CStX h s col D spm dm lm fs fd fl) {k e : IdT} {d : Dl} (hd : lookI D.deeds k = some d) (hb : d.touched.length < 2 ^ 30) {Q : AVal → AHeap → Prop} (hq : ∀ h' col', CStX h' s col' (touchD D k e) spm dm lm fs fd fl → Stp h (fun o => col o ≠ .other) h' (fun o => col' o ≠ .other) → Q (.int .i64 0) h') : Ev (cfgR ro) 120 [.ptr s 5, idA k.1 k.2, idA e.1 e.2] h Q := by
  obtain ⟨hcs, p, sd, m, hr⟩ := C.row
  obtain ⟨pd, t, qq, h2, t', rfl, e1, e2, e3, e4, col', C', P'⟩ := C.touch (e := e) hd 8 (by omega)
  obtain ⟨v, L, hv⟩ := C.lookD (ro := ro) k
  obtain ⟨rfl, hdk⟩ : v = .ptr pd 0 ∧ DeedOk h col k d v := by
    rcases hv with ⟨e, _⟩ | ⟨d', e, hv, hk⟩
    · rw [hd] at e; cases e
    · rw [hd] at e; cases e; exact ⟨hv.trans e1, hk⟩
  obtain ⟨pd', t1, e5, hpn, _, e6, hO⟩ := hdk
  cases e5
  rw [e2] at e6
  cases e6
  unfold touchD at hq
  rw [hd] at hq
  simp only at hq
  refine Ev.wp rfl rfl Tryz.func120 rfl ?_
  have e4' := e4
  rw [e2] at e4'
  simp -implicitDefEqProofs [Tryz.f120, idA, hr, L, e2]
  refine containsI_ev (a := e) hO.m.sl (by omega) ?_
  by_cases hm : e ∈ d.touched
  · rw [decide_eq_true hm]
    rw [if_pos hm] at hq
    simp -implicitDefEqProofs [e2, same_self]
    exact hq _ _ C (Stp.refl _ _)
  · rw [decide_eq_false hm]
    rw [if_neg hm] at hq
    have e2p : (h.push (.row 2 false (idc e))).get pd = some (.row 0 false [.int .i64 d.undone, t, .bool d.undoes]) := by rw [AHeap.get_push, if_neg (by omega)]; exact e2
    have e3' := e3
    unfold idc at e3' e2p
    simp -implicitDefEqProofs [e2, buildSliceR, reps, e2p, e3', e4', same_self]
    exact ⟨.inl (by decide +kernel), hq _ _ C' P'⟩
end
end Go.Proofs.YtlhlbamcgopiiaaGreatDoor
set_option linter.all false
set_option maxRecDepth 100000
set_option maxHeartbeats 4000000
namespace Go.Proofs.YtlhlbamcgopiiaaGreatDoor
open Go Go.RowKit Go.Proofs
section
variable {ro : Nat → Option (List AVal)} {h : AHeap} {s : Nat} {D : CV} {O : Nat → Prop} {col : Nat → Tg} {spm dm lm : AVal} {fs fd fl : IdT → AVal}
theorem touchD_lives (D : CV) (k e : IdT) : (touchD D k e).lives = D.lives := by
  unfold touchD
  split
  · split <;> rfl
  · rfl
def makeD (D : CV) (k e : IdT) : CV := { touchD D k e with lives := putI D.lives e ⟨k, []⟩ }
theorem makeD_eq (D : CV) (k e : IdT) : makeD D k e = { touchD D k e with lives := putI (touchD D k e).lives e ⟨k, []⟩ } := by
  unfold makeD; rw [touchD_lives]
theorem make_ev (C : CSt h s O D) {k e : IdT} {d : Dl} (hd : lookI D.deeds k = some d) (hl : lookI D.lives e = none) (hb : d.touched.length < 2 ^ 30) {Q : AVal → AHeap → Prop}
    (hq : ∀ h' O', CSt h' s O' (makeD D k e) → Stp h O h' O' → Q (.int .i64 0) h') : Ev (cfgR ro) 117 [.ptr s 5, idA k.1 k.2, idA e.1 e.2] h Q := by
  obtain ⟨col, spm, dm, lm, fs, fd, fl, rfl, C⟩ := C
  obtain ⟨hcs, p, sd, m, hr⟩ := C.row
  obtain ⟨v, L, hv⟩ := C.lookL (ro := ro) e
  have hv : v = .nilp := by
    rcases hv with ⟨_, e⟩ | ⟨d, e, _⟩
    · exact e
    · rw [hl] at e; cases e
  subst hv
  refine Ev.wp rfl rfl Tryz.func117 rfl ?_
  simp -implicitDefEqProofs [Tryz.f117, idA, hr, L]
  refine touch_ev C hd hb (fun h1 col1 C1 P1 => ?_)
  obtain ⟨hcs1, p1, sd1, m1, hr1⟩ := C1.row
  obtain ⟨q, rfl⟩ : ∃ q, lm = .map q := by
    rcases C.mL with ⟨e, _⟩ | ⟨q, e, _⟩
    · have := nil_deeds (C := (by have := C.nn.2 e; subst this; exact C))
      rw [this] at hd; cases hd
    · exact ⟨q, e⟩
  obtain ⟨q1, q2, q3⟩ := C1.lmq
  have hl1 : lookI (touchD D k e).lives e = none := by rw [touchD_lives]; exact hl
  have hp1 := put_I (ro := ro) (mtL) (h := h1.push (.row 0 false [.int .u16 k.1, .int .u32 k.2, .nils])) (q := q) (by rw [AHeap.get_push, if_neg (by omega)]; exact q3) e (.ptr h1.next 0)
  simp -implicitDefEqProofs [hr1, hp1]
  obtain ⟨col2, C2, P2⟩ := C1.addLife (H := (h1.push (.row 0 false [.int .u16 k.1, .int .u32 k.2, .nils])).set q (.map (entI (putI ((touchD D k e).lives.map fun x => (x.1, fl x.1)) e (.ptr h1.next 0))))) (p := h1.next) (m := k) hl1 (Nat.le_refl _) (by simp) (by rw [get_set_ne (by omega), get_push_next]) (get_set_self _ _ _) (fun o ho hn => by rw [get_set_ne (Ne.symm hn), AHeap.get_push, if_neg (by omega)]) (by simp)
  exact ⟨.inl (by decide +kernel), hq _ _ ⟨col2, _, _, _, _, _, _, rfl, by rw [makeD_eq]; exact C2⟩ (P1.trans P2)⟩
theorem letgo_ev (C : CSt h s O D) {k e : IdT} {d : Dl} {l : Lf} (hd : lookI D.deeds k = some d) (hl : lookI D.lives e = some l) (hb : d.touched.length < 2 ^ 30) (hb2 : l.gone.length < 2 ^ 30) {Q : AVal → AHeap → Prop}
    (hq : ∀ h' O', CSt h' s O' (letD (touchD D k e) k e) → Stp h O h' O' → Q (.int .i64 0) h') : Ev (cfgR ro) 65 [.ptr s 5, idA k.1 k.2, idA e.1 e.2] h Q := by
  obtain ⟨col, spm, dm, lm, fs, fd, fl, rfl, C⟩ := C
  obtain ⟨hcs, p, sd, m, hr⟩ := C.row
  obtain ⟨v, L, hv⟩ := C.lookL (ro := ro) e
  obtain ⟨pl, t, e1, e2⟩ : ∃ pl t, v = .ptr pl 0 ∧ fl e = .ptr pl 0 := by
    rcases hv with ⟨e, _⟩ | ⟨d, e, h1, pl, t, h2, _⟩
    · rw [hl] at e; cases e
    · exact ⟨pl, t, h2, h1.symm.trans h2⟩
  subst e1
  refine Ev.wp rfl rfl Tryz.func65 rfl ?_
  simp -implicitDefEqProofs [Tryz.f65, idA, hr, L]
  refine touch_ev C hd hb (fun h1 col1 C1 P1 => ?_)
  have hl1 : lookI (touchD D k e).lives e = some l := by rw [touchD_lives]; exact hl
  obtain ⟨pl', t1, qq, h2, t2, rfl, a1, a2, a3, a4, col2, C2, P2⟩ := C1.let_ (e := k) hl1 8 (by omega)
  rw [e2] at a1; cases a1
  have hpn : pl < h1.next := by
    obtain ⟨pd', t1, e5, e7, _⟩ := C1.li e l hl1
    rw [e2] at e5; cases e5; exact e7
  have a2p : (h1.push (.row 2 false (idc k))).get pl = some (.row 0 false [.int .u16 l.made.1, .int .u32 l.made.2, t1]) := by rw [AHeap.get_push, if_neg (by omega)]; exact a2
  have a3' := a3
  have a4' := a4
  rw [a2] at a4'
  unfold idc at a3' a2p
  simp -implicitDefEqProofs [a2, buildSliceR, reps, a2p, a3', a4']
  have e3 : letD (touchD D k e) k e = { touchD D k e with lives := putI (touchD D k e).lives e { l with gone := l.gone ++ [k] } } := by unfold letD; rw [hl1]
  exact ⟨.inl (by decide +kernel), hq _ _ ⟨col2, _, _, _, _, _, _, rfl, by rw [e3]; exact C2⟩ (P1.trans P2)⟩
theorem touchE_ev (C : CSt h s O D) {k e : IdT} {d : Dl} {l : Lf} (hd : lookI D.deeds k = some d) (hl : lookI D.lives e = some l) (hb : d.touched.length < 2 ^ 30) {Q : AVal → AHeap → Prop}
    (hq : ∀ h' O', CSt h' s O' (touchD D k e) → Stp h O h' O' → Q (.int .i64 0) h') : Ev (cfgR ro) 124 [.ptr s 5, idA k.1 k.2, idA e.1 e.2] h Q := by
  obtain ⟨col, spm, dm, lm, fs, fd, fl, rfl, C⟩ := C
  obtain ⟨hcs, p, sd, m, hr⟩ := C.row
  obtain ⟨v, L, hv⟩ := C.lookL (ro := ro) e
  obtain ⟨pl, e1⟩ : ∃ pl, v = .ptr pl 0 := by
    rcases hv with ⟨e, _⟩ | ⟨d, e, h1, pl, t, h2, _⟩
    · rw [hl] at e; cases e
    · exact ⟨pl, h2⟩
  subst e1
  refine Ev.wp rfl rfl Tryz.func124 rfl ?_
  simp -implicitDefEqProofs [Tryz.f124, idA, hr, L]
  refine touch_ev C hd hb (fun h1 col1 C1 P1 => ?_)
  simp -implicitDefEqProofs
  exact hq _ _ ⟨col1, _, _, _, _, _, _, rfl, C1⟩ P1
theorem cloneI_ev {h0 : AHeap} {v : AVal} {l : List IdT} (m : Mine h0 h 2 (l.map idc) v) (hl : l.length < 2 ^ 30) {Q : AVal → AHeap → Prop} (hq : ∀ v' h', Old h h' → Mine h h' 2 (l.map idc) v' → Q v' h') : Ev (cfgR ro) 126 [v] h Q := by
  refine Ev.wp rfl rfl Tryz.func126 rfl ?_
  have rd := (m.sl (c := cfgR ro)).read
  have ln := (m.sl (c := cfgR ro)).len
  obtain ⟨m1, m2⟩ := m
  rcases m2 with ⟨e, rfl⟩ | ⟨q, fz, rfl, g1, g2, g3⟩
  · have e0 : eqFlat Tryz.prog h (.slice 55) .nils .nils = .ok true := rfl
    simp -implicitDefEqProofs [Tryz.f126, e0]
    exact hq _ _ (Old.refl h) (by rw [e]; exact Mine.nil _ _ _)
  · have e0 : ∀ n, eqFlat Tryz.prog h (.slice 55) (.sl q 0 n) .nils = .ok false := fun n => rfl
    have op : Old h (h.push (.row 2 false [])) := (Old.refl h).push _
    have mm : Mine h (h.push (.row 2 false [])) 2 [] (.sl h.next 0 0) := ⟨by simp, .inr ⟨h.next, false, rfl, Nat.le_refl _, by simp, get_push_next _ _⟩⟩
    obtain ⟨v', h', k1, k2, k3⟩ := mm.append (bytes := 8) (new := l.map idc) (by decide) (fun e he => by obtain ⟨a, _, rfl⟩ := List.mem_map.1 he; rfl) (by simp; omega) op
    have hg2 : (h.push (.row 2 false [])).get q = some (.row 2 fz (l.map idc).flatten) := by rw [op.2 q g2]; exact g3
    have tk : (if l = [] then Res.ok [] else takeR (l.map idc).flatten 0 (l.length * 2)) = .ok (l.map idc).flatten := by
      by_cases c : l = []
      · subst c; rfl
      · rw [if_neg c]
        have := rd
        simp only [rs_sl, g3, List.length_map] at this
        rw [if_neg (by simpa using c)] at this
        exact this
    rw [List.nil_append] at k2
    rw [List.length_map] at k1
    simp -implicitDefEqProofs [Tryz.f126, e0, buildSliceR, reps, same_self, hg2, tk, k1]
    exact hq _ _ k3 k2
/-- a list of transactions' names, read -/
structure Et (h : AHeap) (v : AVal) (i : Nat) (a : IdT) : Prop where
  x : indexAddrR Tryz.prog 207 v (.int .i64 (i : Nat)) = .ok (elp v 2 i)
  l : loadR (cfgR ro) h 70 (elp v 2 i) = .ok (.agg [.int .u16 a.1, .int .u32 a.2])
theorem Et.of {v : AVal} {l : List IdT} (hs : Sl (cfgR ro) h 2 v (l.map idc)) {i : Nat} {a : IdT} (ha : l[i]? = some a) : Et (ro := ro) h v i a := by
  have hi : i < (l.map idc).length := by have := (List.getElem?_eq_some_iff.1 ha).1; simpa using this
  have he : (l.map idc)[i]? = some (idc a) := by rw [List.getElem?_map, ha]; rfl
  exact ⟨hs.idx un207 sz70 hi, hs.load he ag70 sz70⟩
theorem lenTx {v : AVal} {l : List IdT} (hs : Sl (cfgR ro) h 2 v (l.map idc)) : lenR (cfgR ro) h 207 v = .ok (.int .i64 (l.length : Nat)) := by have := hs.lenR (t := 207) un207; simpa using this
theorem tcount_ev (C : CSt h s O D) {e : IdT} (hb : ∀ l, lookI D.lives e = some l → l.gone.length < 2 ^ 30) {Q : AVal → AHeap → Prop} (hq : Q (.int .i64 (countD D e)) h) : Ev (cfgR ro) 94 [.ptr s 5, idA e.1 e.2] h Q := by
  have CC := C
  obtain ⟨col, spm, dm, lm, fs, fd, fl, rfl, C⟩ := C
  obtain ⟨hcs, p, sd, m, hr⟩ := C.row
  obtain ⟨v, L, hv⟩ := C.lookL (ro := ro) e
  refine Ev.wp rfl rfl Tryz.func94 rfl ?_
  unfold countD at hq
  rcases hv with ⟨e1, rfl⟩ | ⟨l, e1, _, pl, t, rfl, _, _, hp, hO⟩ <;> rw [e1] at hq
  · simp -implicitDefEqProofs [Tryz.f94, idA, hr, L]; exact hq
  simp only at hq
  have hgl := hb l e1
  simp -implicitDefEqProofs [Tryz.f94, idA, hr, L, hp]
  refine off_ev CC (k := l.made) ?_
  have sl := hO.m.sl (c := cfgR ro)
  have hL := lenTx sl
  obtain ⟨z, hz⟩ : ∃ z : Int, z = if offD D l.made = true then 0 else 1 := ⟨_, rfl⟩
  have hz01 : 0 ≤ z ∧ z ≤ 1 := by rw [hz]; split <;> decide
  rw [← hz] at hq
  obtain ⟨I, hI⟩ : ∃ I : Nat → List AVal → AHeap → Prop, I = fun m env h' => h' = h ∧ ∃ (i : Nat) (c : Nat), i + m = l.gone.length ∧ c = ((l.gone.take i).filter fun k => !offD D k).length ∧
    env = (.ptr s 5 :: .dead :: .dead :: .dead :: .dead :: .dead :: .int .i64 (z - (c : Nat)) :: .dead :: .dead :: .dead :: .dead :: .dead :: .dead :: .dead :: .dead :: .dead :: .dead :: .dead :: .dead :: .dead :: .dead :: .dead :: .dead :: .dead :: .dead :: .dead :: .dead :: .dead :: .dead :: t :: .int .i64 (l.gone.length : Nat) :: .int .i64 (i : Nat) :: .dead :: .dead :: .dead :: .dead :: .dead :: .dead :: .dead :: .dead :: .dead :: .dead :: .dead :: []) := ⟨_, rfl⟩
  cases hof : offD D l.made <;> simp -implicitDefEqProofs [hp, hL] <;>
  (refine loop_of I ?_ l.gone.length (by rw [hI]; exact ⟨rfl, 0, 0, by omega, rfl, by rw [hz, hof]; simp [show IntKind.i64.wrap 1 = 1 by decide]⟩)
   intro m env h' hi
   rw [hI] at hi
   obtain ⟨rfl, i, c, him, hc, rfl⟩ := hi
   have hcl : c ≤ l.gone.length := by rw [hc]; exact Nat.le_trans (List.length_filter_le _ _) (by rw [List.length_take]; omega)
   by_cases hlt : i < l.gone.length
   · obtain ⟨b, hb⟩ : ∃ b, l.gone[i]? = some b := ⟨_, List.getElem?_eq_getElem hlt⟩
     have E := Et.of sl hb
     have w1 : IntKind.i64.wrap ((i : Int) + 1) = ((i + 1 : Nat) : Int) := by rw [w64 (by omega) (by omega)]; omega
     have htk : l.gone.take (i + 1) = l.gone.take i ++ [b] := by
       obtain ⟨hl2, e2⟩ := List.getElem?_eq_some_iff.1 hb
       rw [List.take_succ_eq_append_getElem hl2, e2]
     simp -implicitDefEqProofs [hlt, E.x, E.l]
     refine off_ev CC (k := b) ?_
     cases ho : offD D b
     · have w2 : IntKind.i64.wrap (z - (c : Int) - 1) = z - ((c + 1 : Nat) : Int) := by rw [w64 (by omega) (by omega)]; omega
       simp -implicitDefEqProofs [w1, w2, same_self]
       exact .mk (m := m - 1) (by omega) (by rw [hI]; exact ⟨rfl, i + 1, c + 1, by omega, by rw [htk, List.filter_append, List.length_append, ← hc]; simp [ho], rfl⟩)
     · simp -implicitDefEqProofs [w1, same_self]
       exact .mk (m := m - 1) (by omega) (by rw [hI]; exact ⟨rfl, i + 1, c, by omega, by rw [htk, List.filter_append, List.length_append, ← hc]; simp [ho], rfl⟩)
   · rw [List.take_of_length_le (by omega)] at hc
     rw [← hc] at hq
     simp -implicitDefEqProofs [hlt]
     exact hq)
theorem turn_ev (C : CSt h s O D) {k : IdT} {d : Dl} {u : Bool} (hd : lookI D.deeds k = some d) (hu : d.undoes = false) (hb : d.touched.length < 2 ^ 30) (hn : d.undone.natAbs < 2 ^ 60) {Q : AVal → AHeap → Prop}
    (hq : ∀ v h' O', CSt h' s O' (turnD D k u) → Stp h O h' O' → Mine h h' 2 (d.touched.map idc) v → (∀ o, vobj v o → ¬ O' o) → Q (.tuple [v, .int .i64 0]) h') : Ev (cfgR ro) 68 [.ptr s 5, idA k.1 k.2, .bool u] h Q := by
  have CC := C
  obtain ⟨col, spm, dm, lm, fs, fd, fl, rfl, C⟩ := C
  obtain ⟨hcs, p, sd, m, hr⟩ := C.row
  obtain ⟨v, L, hv⟩ := C.lookD (ro := ro) k
  obtain ⟨n, hnn⟩ : ∃ n, n = if u then d.undone + 1 else d.undone - 1 := ⟨_, rfl⟩
  obtain ⟨pd, t, e1, e2, e3, e4, C1, P1⟩ := C.turn hd n
  obtain ⟨rfl, hpn⟩ : v = .ptr pd 0 ∧ pd < h.next := by
    rcases hv with ⟨e, _⟩ | ⟨d', e, hv, pd', t', e5, e6, _⟩
    · rw [hd] at e; cases e
    · rw [hd] at e; cases e; rw [e1] at hv; subst hv; cases e5; exact ⟨rfl, e6⟩
  have hop : openD D k = true := by unfold openD; rw [hd]; simp [hu]
  refine Ev.wp rfl rfl Tryz.func68 rfl ?_
  simp -implicitDefEqProofs [Tryz.f68, idA]
  refine open_ev CC (k := k) ?_
  rw [hop]
  have eT : turnD D k u = { D with deeds := putI D.deeds k { d with undone := n } } := by unfold turnD; rw [hd, hnn]
  obtain ⟨H, hH⟩ : ∃ H, H = h.set pd (.row 0 false [.int .i64 n, t, .bool d.undoes]) := ⟨_, rfl⟩
  rw [← hH] at C1 P1
  have hHp : H.get pd = some (.row 0 false [.int .i64 n, t, .bool d.undoes]) := by rw [hH, get_set_self]
  have hmt : Mine hZ H 2 (d.touched.map idc) t := e3.m.keepO (fun o ho => by rw [hH, get_set_ne (Ne.symm (e4 o ho))]) (by rw [hH]; exact Nat.le_refl _)
  have fin : ∀ v' h', Old H h' → Mine H h' 2 (d.touched.map idc) v' → Q (.tuple [v', .int .i64 0]) h' := by
    intro v' h' oo mm
    have hn : H.next = h.next := by rw [hH]; rfl
    refine hq v' h' _ ⟨col, _, _, _, _, _, _, rfl, by rw [eT]; exact C1.keep (fun o ho => oo.2 o (C1.lt o ho)) oo.1⟩ (P1.trans (Stp.ofOld _ oo)) ?_ (fun o ho => ?_)
    · obtain ⟨m1, m2⟩ := mm
      exact ⟨m1, m2.imp_right fun ⟨q, fz, g1, g2, g3⟩ => ⟨q, fz, g1, by omega, g3⟩⟩
    · have := mm.obj o ho
      rw [C.new (by omega)]; simp
  cases u
  · have w1 : IntKind.i64.wrap (d.undone - 1) = n := by rw [w64 (by omega) (by omega), hnn]; rfl
    simp -implicitDefEqProofs [hr, L, e2, w1]
    rw [← hH]
    refine cloneI_ev hmt hb (fun v' h' oo mm => ?_)
    simp -implicitDefEqProofs
    exact fin v' h' oo mm
  · have w1 : IntKind.i64.wrap (d.undone + 1) = n := by rw [w64 (by omega) (by omega), hnn]; rfl
    simp -implicitDefEqProofs [hr, L, e2, w1]
    rw [← hH]
    refine cloneI_ev hmt hb (fun v' h' oo mm => ?_)
    simp -implicitDefEqProofs
    exact fin v' h' oo mm
end
end Go.Proofs.YtlhlbamcgopiiaaGreatDoor
set_option linter.all false
set_option maxRecDepth 100000
set_option maxHeartbeats 4000000
namespace Go.Proofs.YtlhlbamcgopiiaaGreatDoor
open Go Go.RowKit Go.Proofs
def addD (D : CV) (k : IdT) (x : Sp) : CV := { D with sp := putI D.sp k (spOf D k ++ [x]), nsp := D.nsp + 1 }
def bestStep (D : CV) (b x : Sp) : Sp := if decide (klt b.1 x.1) && !offD D x.2 then x else b
def zeroSp : Sp := ((0, 0, 0), (0, 0))
def bestD (D : CV) (k : IdT) : Sp := match spOf D k with
  | [] => zeroSp
  | y :: l => l.foldl (bestStep D) y
section
variable {ro : Nat → Option (List AVal)} {h : AHeap} {s : Nat} {D : CV} {O : Nat → Prop}
/-- a list of places, read -/
structure Es (h : AHeap) (v : AVal) (i : Nat) (a : Sp) : Prop where
  x : indexAddrR Tryz.prog 210 v (.int .i64 (i : Nat)) = .ok (elp v 5 i)
  l : loadR (cfgR ro) h 178 (elp v 5 i) = .ok (.agg [.int .u64 a.1.1, .int .u16 a.1.2.1, .int .u32 a.1.2.2, .int .u16 a.2.1, .int .u32 a.2.2])
theorem Es.of {v : AVal} {l : List Sp} (hs : Sl (cfgR ro) h 5 v (l.map spc)) {i : Nat} {a : Sp} (ha : l[i]? = some a) : Es (ro := ro) h v i a := by
  have hi : i < (l.map spc).length := by have := (List.getElem?_eq_some_iff.1 ha).1; simpa using this
  have he : (l.map spc)[i]? = some (spc a) := by rw [List.getElem?_map, ha]; rfl
  exact ⟨hs.idx un210 sz178 hi, hs.load he ag178 sz178⟩
theorem lenSp {v : AVal} {l : List Sp} (hs : Sl (cfgR ro) h 5 v (l.map spc)) : lenR (cfgR ro) h 210 v = .ok (.int .i64 (l.length : Nat)) := by have := hs.lenR (t := 210) un210; simpa using this
theorem clo_add {q e : Nat} {fz : Bool} {x y : Sp} (hg : h.get q = some (.row e fz [.int .u64 x.1.1, .int .u16 x.1.2.1, .int .u32 x.1.2.2, .int .u16 x.2.1, .int .u32 x.2.2])) (hne : y.1 ≠ x.1) {Q : AVal → AHeap → Prop} (hq : Q (.bool false) h) :
    Ev (cfgR ro) 163 [.agg [.int .u64 y.1.1, .int .u16 y.1.2.1, .int .u32 y.1.2.2, .int .u16 y.2.1, .int .u32 y.2.2], .ptr q 0] h Q := by
  refine Ev.wp rfl rfl Tryz.func163 rfl ?_
  have e1 := eqKey (ro := ro) h y.1.1 y.1.2.1 y.1.2.2 x.1.1 x.1.2.1 x.1.2.2
  have e2 : ¬ (y.1.1 = x.1.1 ∧ y.1.2.1 = x.1.2.1 ∧ y.1.2.2 = x.1.2.2) := fun ⟨a, b, c⟩ => hne (Prod.ext a (Prod.ext b c))
  rw [decide_eq_false e2] at e1
  simp -implicitDefEqProofs [Tryz.f163, hg, eqLKey, e1]
  exact hq
theorem indexSp_ev {v : AVal} {l : List Sp} {x : Sp} {q e : Nat} {fz : Bool} (hs : Sl (cfgR ro) h 5 v (l.map spc)) (hl : l.length < 2 ^ 60) (hg : h.get q = some (.row e fz [.int .u64 x.1.1, .int .u16 x.1.2.1, .int .u32 x.1.2.2, .int .u16 x.2.1, .int .u32 x.2.2])) (hf : ∀ y ∈ l, y.1 ≠ x.1) {Q : AVal → AHeap → Prop} (hq : Q (.int .i64 (-1)) h) :
    Ev (cfgR ro) 190 [v, .func 163 [] [.ptr q 0]] h Q := by
  refine Ev.wp rfl rfl Tryz.func190 rfl ?_
  have hL := lenSp hs
  simp -implicitDefEqProofs [Tryz.f190, hL]
  obtain ⟨I, hI⟩ : ∃ I : Nat → List AVal → AHeap → Prop, I = fun m env h' => h' = h ∧ ∃ i : Nat, i + m = l.length ∧
    env = (v :: .func 163 [] [.ptr q 0] :: .dead :: .dead :: .dead :: .dead :: .dead :: .int .i64 (l.length : Nat) :: .int .i64 (i : Nat) :: .dead :: .dead :: .dead :: .dead :: .dead :: .dead :: .dead :: .dead :: .dead :: .dead :: []) := ⟨_, rfl⟩
  refine loop_of I ?_ l.length (by rw [hI]; exact ⟨rfl, 0, by omega, rfl⟩)
  intro m env h' hi
  rw [hI] at hi
  obtain ⟨rfl, i, him, rfl⟩ := hi
  by_cases hlt : i < l.length
  · obtain ⟨b, hb⟩ : ∃ b, l[i]? = some b := ⟨_, List.getElem?_eq_getElem hlt⟩
    have E := Es.of hs hb
    have w1 : IntKind.i64.wrap ((i : Int) + 1) = ((i + 1 : Nat) : Int) := by rw [w64 (by omega) (by omega)]; omega
    simp -implicitDefEqProofs [hlt, E.x, E.l, same_self]
    refine clo_add hg (hf b (List.mem_of_getElem? hb)) ?_
    simp -implicitDefEqProofs [w1, same_self]
    exact .mk (m := m - 1) (by omega) (by rw [hI]; exact ⟨rfl, i + 1, by omega, rfl⟩)
  · simp -implicitDefEqProofs [hlt]
    exact hq
theorem containsSp_ev {v : AVal} {l : List Sp} {x : Sp} {q e : Nat} {fz : Bool} (hs : Sl (cfgR ro) h 5 v (l.map spc)) (hl : l.length < 2 ^ 60) (hg : h.get q = some (.row e fz [.int .u64 x.1.1, .int .u16 x.1.2.1, .int .u32 x.1.2.2, .int .u16 x.2.1, .int .u32 x.2.2])) (hf : ∀ y ∈ l, y.1 ≠ x.1) {Q : AVal → AHeap → Prop} (hq : Q (.bool false) h) :
    Ev (cfgR ro) 162 [v, .func 163 [] [.ptr q 0]] h Q := by
  refine Ev.wp rfl rfl Tryz.func162 rfl ?_
  simp -implicitDefEqProofs [Tryz.f162]
  refine indexSp_ev hs hl hg hf ?_
  simp -implicitDefEqProofs
  exact hq
theorem sadd_ev (C : CSt h s O D) {k : IdT} {x : Sp} (hf : ∀ y ∈ spOf D k, y.1 ≠ x.1) (hb : (spOf D k).length < 2 ^ 30) (hn : D.nsp < 2 ^ 60) {Q : AVal → AHeap → Prop} (hq : ∀ h' O', CSt h' s O' (addD D k x) → Stp h O h' O' → Q (.int .i64 0) h') :
    Ev (cfgR ro) 118 [.ptr s 3, idA k.1 k.2, .agg [.int .u64 x.1.1, .int .u16 x.1.2.1, .int .u32 x.1.2.2, .int .u16 x.2.1, .int .u32 x.2.2]] h Q := by
  obtain ⟨col, spm, dm, lm, fs, fd, fl, rfl, C⟩ := C
  refine Ev.wp rfl rfl Tryz.func118 rfl ?_
  obtain ⟨h1, hh1⟩ : ∃ h1, h1 = h.push (.row 0 false [.int .u64 x.1.1, .int .u16 x.1.2.1, .int .u32 x.1.2.2, .int .u16 x.2.1, .int .u32 x.2.2]) := ⟨_, rfl⟩
  have o1 : Old h h1 := by rw [hh1]; exact (Old.refl h).push _
  have hg1 : h1.get h.next = some (.row 0 false [.int .u64 x.1.1, .int .u16 x.1.2.1, .int .u32 x.1.2.2, .int .u16 x.2.1, .int .u32 x.2.2]) := by rw [hh1, get_push_next]
  have n1 : h1.next = h.next + 1 := by rw [hh1]; rfl
  have C1 := C.keep (h' := h1) (fun o ho => o1.2 o (C.lt o ho)) o1.1
  obtain ⟨hcs, p, sd, m, hr⟩ := C1.row
  have hsn : s < h.next := C.lt s (by rw [hcs]; simp)
  have w2 : IntKind.i64.wrap ((D.nsp : Int) + 1) = ((D.nsp + 1 : Nat) : Int) := by rw [w64 (by omega) (by omega)]; omega
  have fin : ∀ (H : AHeap) (col2 : Nat → Tg) (q : Nat) (v : AVal), CStX H s col2 D (.map q) dm lm fs fd fl → Stp h (fun o => col o ≠ .other) H (fun o => col2 o ≠ .other) → OwnS H col2 (.spots k) 5 ((spOf D k).map spc) v → col2 h.next = .other → h.next < H.next →
      ∃ q2 h2 v', h2.get s = H.get s ∧ h2.get h.next = H.get h.next ∧ v' = .sl q2 0 ((spOf D k).length + 1) ∧ appCore 5 24 (H.push (.row 5 false (spc x))) v 1 (spc x) = .ok (v', h2) ∧ mapUpdateR (cfgR ro) h2 32 (.map q) (.agg [.int .u16 k.1, .int .u32 k.2]) v' = .ok (h2.set q (.map (entI (putI (D.sp.map fun p => (p.1, fs p.1)) k v')))) ∧
      ∃ p sd m, (h2.set q (.map (entI (putI (D.sp.map fun p => (p.1, fs p.1)) k v')))).get s = some (.row 0 false [p, .int .u64 sd, m, .map q, .int .i64 (D.nsp : Nat), dm, lm, .int .u64 (D.clock : Nat), .int .i64 (D.elems : Nat)]) ∧
      Q (.int .i64 0) ((h2.set q (.map (entI (putI (D.sp.map fun p => (p.1, fs p.1)) k v')))).set s (.row 0 false [p, .int .u64 sd, m, .map q, .int .i64 ((D.nsp + 1 : Nat) : Int), dm, lm, .int .u64 (D.clock : Nat), .int .i64 (D.elems : Nat)])) := by
    intro H col2 q v C2 P2 hv hxo hxn
    obtain ⟨q2, h2, v', e1, a1, a2, col3, C3, P3⟩ := C2.addSpot (x := x) 24 (by omega) hv
    obtain ⟨g1, g2, g3⟩ := C2.smq
    have hcs2 := C2.row.1
    obtain ⟨p, sd, m, r1, C4, P4⟩ := C3.num (D.nsp + 1) D.clock D.elems
    exact ⟨q2, h2, v', a2 s (C2.lt s (by rw [hcs2]; simp)) (by rw [hcs2]; simp), a2 _ hxn (by rw [hxo]; simp), e1, a1, put_I mtS (by rw [a2 q g1 (by rw [g2]; simp)]; exact g3) k v', p, sd, m, r1, hq _ _ ⟨col3, _, _, _, _, _, _, rfl, C4⟩ ((P2.trans P3).trans P4)⟩
  by_cases hnil : spm = .nilm
  · subst hnil
    obtain ⟨p, sd, m, hr, hm⟩ := C1.smap
    obtain ⟨H, hH⟩ : ∃ H, H = (h1.push (.map [])).set s (.row 0 false [p, .int .u64 sd, m, .map h1.next, .int .i64 (D.nsp : Nat), dm, lm, .int .u64 (D.clock : Nat), .int .i64 (D.elems : Nat)]) := ⟨_, rfl⟩
    have hrp : (h1.push (.map [])).get s = h1.get s := by rw [AHeap.get_push, if_neg (by omega)]
    rw [hr] at hrp
    have hHs : H.get s = some (.row 0 false [p, .int .u64 sd, m, .map h1.next, .int .i64 (D.nsp : Nat), dm, lm, .int .u64 (D.clock : Nat), .int .i64 (D.elems : Nat)]) := by rw [hH, get_set_self]
    obtain ⟨col2, C2, P2⟩ := hm (H := H) hHs (by rw [hH, get_set_ne (by omega), get_push_next]) (fun o ho hn => by rw [hH, get_set_ne (Ne.symm hn), AHeap.get_push, if_neg (by omega)]) (by rw [hH]; rfl)
    have L := C2.lookS (ro := ro) k
    have hv := C2.spv k
    have hxo : col2 h.next = .other := Classical.byContradiction fun e => by
      rcases P2.own _ e with h5 | h5
      · exact h5 (C.new (Nat.le_refl _))
      · omega
    obtain ⟨q2, h2, v', b1, b2, rfl, a1, a2, p', sd', m', a3, hQ⟩ := fin H col2 _ _ C2 ((Stp.ofOld _ o1).trans P2) hv hxo (by have := P2.nx; omega)
    rw [hHs] at b1
    have hHx : H.get h.next = some (.row 0 false [.int .u64 x.1.1, .int .u16 x.1.2.1, .int .u32 x.1.2.2, .int .u16 x.2.1, .int .u32 x.2.2]) := by rw [hH, get_set_ne (by omega), AHeap.get_push, if_neg (by omega)]; exact hg1
    rw [hHx] at b2
    have b3 : ∀ M, (h2.set h1.next M).get h.next = some (.row 0 false [.int .u64 x.1.1, .int .u16 x.1.2.1, .int .u32 x.1.2.2, .int .u16 x.2.1, .int .u32 x.2.2]) := fun M => by rw [get_set_ne (by omega)]; exact b2
    have hHx2 : (H.push (.row 5 false (spc x))).get s = H.get s := by rw [AHeap.get_push, if_neg (by have := C2.lt s (by rw [C2.row.1]; simp); omega)]
    rw [hHs] at hHx2
    have a1' := a1
    unfold spc at a1' hHx2
    simp -implicitDefEqProofs [Tryz.f118, idA]
    rw [← hh1]
    simp -implicitDefEqProofs [hr, eqMn, hrp]
    rw [← hH]
    simp -implicitDefEqProofs [hHs, L, same_self]
    refine containsSp_ev hv.m.sl (by omega) hHx hf ?_
    simp -implicitDefEqProofs [hHs, hHx, hHx2, buildSliceR, reps, a1', a2, a3, b1, b2, b3, w2, same_self]
    first | exact hQ | exact ⟨.inl (by decide +kernel), hQ⟩
  · obtain ⟨q, rfl⟩ : ∃ q, spm = .map q := by
      rcases C.mS with ⟨e, _⟩ | ⟨q, e, _⟩
      · exact (hnil e).elim
      · exact ⟨q, e⟩
    have L := C1.lookS (ro := ro) k
    have hv := C1.spv k
    obtain ⟨q2, h2, v', b1, b2, rfl, a1, a2, p', sd', m', a3, hQ⟩ := fin h1 col _ _ C1 (Stp.ofOld _ o1) hv (C.new (Nat.le_refl _)) (by omega)
    rw [hr] at b1
    rw [hg1] at b2
    have hqn := C.smq.1
    have b3 : ∀ M, (h2.set q M).get h.next = some (.row 0 false [.int .u64 x.1.1, .int .u16 x.1.2.1, .int .u32 x.1.2.2, .int .u16 x.2.1, .int .u32 x.2.2]) := fun M => by rw [get_set_ne (by omega)]; exact b2
    have hHx2 : (h1.push (.row 5 false (spc x))).get s = h1.get s := by rw [AHeap.get_push, if_neg (by have := C1.lt s (by rw [hcs]; simp); omega)]
    rw [hr] at hHx2
    have a1' := a1
    unfold spc at a1' hHx2
    simp -implicitDefEqProofs [Tryz.f118, idA]
    rw [← hh1]
    simp -implicitDefEqProofs [hr, eqMq, L, same_self]
    refine containsSp_ev hv.m.sl (by omega) hg1 hf ?_
    simp -implicitDefEqProofs [hr, hg1, hHx2, buildSliceR, reps, a1', a2, a3, b1, b2, b3, w2, same_self]
    first | exact hQ | exact ⟨.inl (by decide +kernel), hQ⟩
theorem own_ev (C : CSt h s O D) {k : IdT} {Q : AVal → AHeap → Prop} (hq : ∀ y b, (spOf D k = [] → y = zeroSp ∧ b = false) → (∀ z l, spOf D k = z :: l → y = z ∧ b = true) → Q (.tuple [.agg [.int .u64 y.1.1, .int .u16 y.1.2.1, .int .u32 y.1.2.2, .int .u16 y.2.1, .int .u32 y.2.2], .bool b]) h) : Ev (cfgR ro) 153 [.ptr s 3, idA k.1 k.2] h Q := by
  obtain ⟨col, spm, dm, lm, fs, fd, fl, rfl, C⟩ := C
  refine Ev.wp rfl rfl Tryz.func153 rfl ?_
  obtain ⟨hcs, p, sd, m, hr⟩ := C.row
  have L := C.lookS (ro := ro) k
  have hv := C.spv k
  have hL := lenSp (hv.m.sl (c := cfgR ro))
  cases hl : spOf D k with
  | nil =>
    rw [hl] at hL
    have := hq zeroSp false (fun _ => ⟨rfl, rfl⟩) (fun z l e => by rw [hl] at e; cases e)
    simp -implicitDefEqProofs [Tryz.f153, idA, hr, L, hL]
    exact this
  | cons y l =>
    have E := Es.of (i := 0) (a := y) (hv.m.sl (c := cfgR ro)) (by rw [hl]; rfl)
    have Ex := E.x
    rw [hl] at hL
    have := hq y true (fun e => by rw [hl] at e; cases e) (fun z l' e => by rw [hl] at e; cases e; exact ⟨rfl, rfl⟩)
    have d1 : ¬ ((l.length : Int) + 1 = 0) := by omega
    rw [show ((0 : Nat) : Int) = 0 from rfl] at Ex
    simp -implicitDefEqProofs [Tryz.f153, idA, hr, L, hL, Ex, E.l, d1]
    exact this
theorem best_ev (C : CSt h s O D) {k : IdT} (hb : (spOf D k).length < 2 ^ 30) {Q : AVal → AHeap → Prop} (hq : ∀ h' b, Old h h' → Q (.tuple [.agg [.int .u64 (bestD D k).1.1, .int .u16 (bestD D k).1.2.1, .int .u32 (bestD D k).1.2.2, .int .u16 (bestD D k).2.1, .int .u32 (bestD D k).2.2], .bool b]) h') : Ev (cfgR ro) 102 [.ptr s 3, idA k.1 k.2, .func 79 [.ptr s 5] []] h Q := by
  have CC := C
  obtain ⟨col, spm, dm, lm, fs, fd, fl, rfl, C⟩ := C
  refine Ev.wp rfl rfl Tryz.func102 rfl ?_
  obtain ⟨hcs, p, sd, m, hr⟩ := C.row
  have L := C.lookS (ro := ro) k
  have hv := C.spv k
  have sl := hv.m.sl (c := cfgR ro)
  have hL := lenSp sl
  simp -implicitDefEqProofs [Tryz.f102, idA]
  refine own_ev CC (k := k) (fun y0 b0 hy1 hy2 => ?_)
  simp -implicitDefEqProofs [hr, L, hL, idA]
  obtain ⟨I, hI⟩ : ∃ I : Nat → List AVal → AHeap → Prop, I = fun m env h' => Old h h' ∧ ∃ (i : Nat) (b : Sp), i + m = (spOf D k).length ∧ (i = 0 → b = y0) ∧ (∀ y l, spOf D k = y :: l → 0 < i → b = (l.take (i - 1)).foldl (bestStep D) y) ∧
    env = (.dead :: .dead :: .func 79 [.ptr s 5] [] :: .dead :: .dead :: .dead :: .cell [.int .u64 0, .int .u16 0, .int .u32 0, .int .u16 0, .int .u32 0] :: .dead :: .cell [.int .u64 b.1.1, .int .u16 b.1.2.1, .int .u32 b.1.2.2, .int .u16 b.2.1, .int .u32 b.2.2] :: .bool b0 :: .dead :: .dead :: .dead :: .dead :: .dead :: .dead :: .dead :: .dead :: .dead :: .dead :: .dead :: .dead :: .dead :: spV D fs k :: .int .i64 ((spOf D k).length : Nat) :: .int .i64 (i : Nat) :: .dead :: .dead :: .dead :: .dead :: .dead :: .dead :: .dead :: .dead :: .dead :: .dead :: .dead :: .dead :: .dead :: .dead :: .dead :: .dead :: .dead :: .dead :: .dead :: .dead :: .dead :: .dead :: .dead :: .dead :: .dead :: []) := ⟨_, rfl⟩
  refine loop_of I ?_ (spOf D k).length (by rw [hI]; exact ⟨Old.refl h, 0, y0, by omega, fun _ => rfl, fun y l _ h => by omega, rfl⟩)
  intro m env h' hi
  rw [hI] at hi
  obtain ⟨oo, i, b, him, hb0, hb1, rfl⟩ := hi
  by_cases hlt : i < (spOf D k).length
  · obtain ⟨x, hx⟩ : ∃ x, (spOf D k)[i]? = some x := ⟨_, List.getElem?_eq_getElem hlt⟩
    have E := Es.of (sl.old oo) hx
    have w1 : IntKind.i64.wrap ((i : Int) + 1) = ((i + 1 : Nat) : Int) := by rw [w64 (by omega) (by omega)]; omega
    cases hl : spOf D k with
    | nil => rw [hl] at hx; simp at hx
    | cons y l =>
    have e0 := hy2 y l hl
    by_cases hi0 : i = 0
    · subst hi0
      have hxy : x = y := by rw [hl] at hx; simpa using hx.symm
      have Ex := E.x
      rw [show ((0 : Nat) : Int) = 0 from rfl] at Ex
      rw [← hl]
      have d1 : 0 < (spOf D k).length := by omega
      have w0 : IntKind.i64.wrap ((0 : Int) + 1) = ((1 : Nat) : Int) := by decide
      simp -implicitDefEqProofs [Ex, E.l, same_self, d1, w0]
      exact .mk (m := m - 1) (by omega) (by rw [hI]; exact ⟨oo, 1, b, by omega, fun e => by omega, fun y' l' e _ => by rw [hl] at e; cases e; rw [hb0 rfl, e0.1]; rfl, rfl⟩)
    · have hi1 : 0 < i := by omega
      have hbb := hb1 y l hl hi1
      have hgx : l[i - 1]? = some x := by
        rw [hl] at hx
        obtain ⟨j, rfl⟩ : ∃ j, i = j + 1 := ⟨i - 1, by omega⟩
        simpa using hx
      have htk : l.take i = l.take (i - 1) ++ [x] := by
        obtain ⟨hl2, e2⟩ := List.getElem?_eq_some_iff.1 hgx
        have := List.take_succ_eq_append_getElem hl2
        rw [e2, show i - 1 + 1 = i by omega] at this
        exact this
      have nxt : ∀ h2, Old h' h2 → ∀ b', b' = bestStep D b x → headK I m (.dead :: .dead :: .func 79 [.ptr s 5] [] :: .dead :: .dead :: .dead :: .cell [.int .u64 0, .int .u16 0, .int .u32 0, .int .u16 0, .int .u32 0] :: .dead :: .cell [.int .u64 b'.1.1, .int .u16 b'.1.2.1, .int .u32 b'.1.2.2, .int .u16 b'.2.1, .int .u32 b'.2.2] :: .bool b0 :: .dead :: .dead :: .dead :: .dead :: .dead :: .dead :: .dead :: .dead :: .dead :: .dead :: .dead :: .dead :: .dead :: spV D fs k :: .int .i64 ((spOf D k).length : Nat) :: .int .i64 (i + 1 : Nat) :: .dead :: .dead :: .dead :: .dead :: .dead :: .dead :: .dead :: .dead :: .dead :: .dead :: .dead :: .dead :: .dead :: .dead :: .dead :: .dead :: .dead :: .dead :: .dead :: .dead :: .dead :: .dead :: .dead :: .dead :: .dead :: []) h2 := fun h2 o2 b' hb' =>
        .mk (m := m - 1) (by omega) (by rw [hI]; exact ⟨oo.trans o2, i + 1, b', by omega, fun e => by omega, fun y' l' e _ => by rw [hl] at e; cases e; rw [show i + 1 - 1 = i by omega, htk, List.foldl_append, ← hbb, hb']; rfl, rfl⟩)
      rw [← hl]
      simp -implicitDefEqProofs [hlt, E.x, E.l, same_self, hi1]
      refine keyCmp_ev (c := x.1.1) (r := x.1.2.1) (n := x.1.2.2) (c' := b.1.1) (r' := b.1.2.1) (n' := b.1.2.2) (fun h2 o2 => ?_)
      by_cases hc : klt b.1 x.1
      · have d2 : (0 : Int) < cmpK (x.1.1, x.1.2.1, x.1.2.2) (b.1.1, b.1.2.1, b.1.2.2) := (cmpK_gt _ _).2 hc
        simp -implicitDefEqProofs [d2, same_self, hi1]
        refine off_ev (CC.old (oo.trans o2)) (k := x.2) ?_
        cases hof : offD D x.2
        · simp -implicitDefEqProofs [same_self, w1]
          exact nxt h2 o2 x (by unfold bestStep; rw [decide_eq_true hc, hof]; rfl)
        · simp -implicitDefEqProofs [same_self, w1]
          exact nxt h2 o2 b (by unfold bestStep; rw [decide_eq_true hc, hof]; rfl)
      · have d2 : ¬ (0 : Int) < cmpK (x.1.1, x.1.2.1, x.1.2.2) (b.1.1, b.1.2.1, b.1.2.2) := fun e => hc ((cmpK_gt _ _).1 e)
        simp -implicitDefEqProofs [d2, same_self, hi1, w1]
        exact nxt h2 o2 b (by unfold bestStep; rw [decide_eq_false hc]; rfl)
  · have hbe : b = bestD D k := by
      unfold bestD
      cases hl : spOf D k with
      | nil =>
        have : i = 0 := by rw [hl] at him; simp at him; omega
        rw [hb0 this, (hy1 hl).1]
      | cons y l =>
        have hll : (spOf D k).length = l.length + 1 := by rw [hl]; rfl
        rw [hb1 y l hl (by omega), List.take_of_length_le (by omega)]
    subst hbe
    simp -implicitDefEqProofs [hlt]
    exact hq h' b0 oo
theorem cloneSp_ev {h0 : AHeap} {v : AVal} {l : List Sp} (m : Mine h0 h 5 (l.map spc) v) (hl : l.length < 2 ^ 30) {Q : AVal → AHeap → Prop} (hq : ∀ v' h', Old h h' → Mine h h' 5 (l.map spc) v' → Q v' h') : Ev (cfgR ro) 165 [v] h Q := by
  refine Ev.wp rfl rfl Tryz.func165 rfl ?_
  have rd := (m.sl (c := cfgR ro)).read
  obtain ⟨m1, m2⟩ := m
  rcases m2 with ⟨e, rfl⟩ | ⟨q, fz, rfl, g1, g2, g3⟩
  · have e0 : eqFlat Tryz.prog h (.slice 178) .nils .nils = .ok true := rfl
    simp -implicitDefEqProofs [Tryz.f165, e0]
    exact hq _ _ (Old.refl h) (by rw [e]; exact Mine.nil _ _ _)
  · have e0 : ∀ n, eqFlat Tryz.prog h (.slice 178) (.sl q 0 n) .nils = .ok false := fun n => rfl
    have op : Old h (h.push (.row 5 false [])) := (Old.refl h).push _
    have mm : Mine h (h.push (.row 5 false [])) 5 [] (.sl h.next 0 0) := ⟨by simp, .inr ⟨h.next, false, rfl, Nat.le_refl _, by simp, get_push_next _ _⟩⟩
    obtain ⟨v', h', k1, k2, k3⟩ := mm.append (bytes := 24) (new := l.map spc) (by decide) (fun e he => by obtain ⟨a, _, rfl⟩ := List.mem_map.1 he; rfl) (by simp; omega) op
    have hg2 : (h.push (.row 5 false [])).get q = some (.row 5 fz (l.map spc).flatten) := by rw [op.2 q g2]; exact g3
    have tk : (if l = [] then Res.ok [] else takeR (l.map spc).flatten 0 (l.length * 5)) = .ok (l.map spc).flatten := by
      by_cases c : l = []
      · subst c; rfl
      · rw [if_neg c]
        have := rd
        simp only [rs_sl, g3, List.length_map] at this
        rw [if_neg (by simpa using c)] at this
        exact this
    rw [List.nil_append] at k2
    rw [List.length_map] at k1
    simp -implicitDefEqProofs [Tryz.f165, e0, buildSliceR, reps, same_self, hg2, tk, k1]
    exact hq _ _ k3 k2
theorem all_ev (C : CSt h s O D) {k : IdT} (hb : (spOf D k).length < 2 ^ 30) {Q : AVal → AHeap → Prop} (hq : ∀ v' h', Old h h' → Mine h h' 5 ((spOf D k).map spc) v' → Q v' h') : Ev (cfgR ro) 121 [.ptr s 3, idA k.1 k.2] h Q := by
  obtain ⟨col, spm, dm, lm, fs, fd, fl, rfl, C⟩ := C
  refine Ev.wp rfl rfl Tryz.func121 rfl ?_
  obtain ⟨hcs, p, sd, m, hr⟩ := C.row
  have L := C.lookS (ro := ro) k
  have hv := C.spv k
  simp -implicitDefEqProofs [Tryz.f121, idA, hr, L]
  refine cloneSp_ev hv.m hb (fun v' h' oo mm => ?_)
  have C' := C.keep (h' := h') (fun o ho => oo.2 o (C.lt o ho)) oo.1
  obtain ⟨_, p2, sd2, m2, hr2⟩ := C'.row
  have hrr := oo.2 s (C.lt s (by rw [hcs]; simp))
  rw [hr] at hrr
  simp -implicitDefEqProofs [hrr, C'.lookS (ro := ro) k, same_self]
  exact hq v' h' oo mm
end
end Go.Proofs.YtlhlbamcgopiiaaGreatDoor
set_option linter.all false
set_option maxRecDepth 100000
set_option maxHeartbeats 4000000
namespace Go.Proofs.YtlhlbamcgopiiaaGreatDoor
open Go Go.RowKit Go.Proofs
/-! spans -/
abbrev Sn := IdT × Nat
def snc (s : Sn) : List AVal := [.int .u16 s.1.1, .int .u32 s.1.2, .int .i64 (s.2 : Nat)]
def plusI (x : IdT) (i : Nat) : IdT := (x.1, x.2 + i)
def idsS (s : Sn) : List IdT := (List.range s.2).map (plusI s.1)
def idsOf (l : List Sn) : List IdT := (l.map idsS).flatten
theorem idsS_succ (x : IdT) (i : Nat) : (List.range (i + 1)).map (plusI x) = (List.range i).map (plusI x) ++ [plusI x i] := by rw [List.range_succ, List.map_append]; rfl
theorem idsS_len (s : Sn) : (idsS s).length = s.2 := by simp [idsS]
theorem idsOf_take {l : List Sn} {i : Nat} {s : Sn} (h : l[i]? = some s) : idsOf (l.take (i + 1)) = idsOf (l.take i) ++ idsS s := by
  obtain ⟨h1, h2⟩ := List.getElem?_eq_some_iff.1 h
  unfold idsOf
  rw [List.take_succ_eq_append_getElem h1, h2, List.map_append, List.flatten_append]
  simp
theorem idsOf_le (l : List Sn) (i : Nat) : (idsOf (l.take i)).length ≤ (idsOf l).length := by
  have : idsOf l = idsOf (l.take i) ++ idsOf (l.drop i) := by
    unfold idsOf
    rw [← List.flatten_append, ← List.map_append, List.take_append_drop]
  rw [this, List.length_append]; omega
theorem idsOf_le2 {l : List Sn} {i : Nat} {s : Sn} (h : l[i]? = some s) : (idsOf (l.take i)).length + s.2 ≤ (idsOf l).length := by
  have := idsOf_le l (i + 1)
  rw [idsOf_take h, List.length_append, idsS_len] at this
  exact this
section
variable {ro : Nat → Option (List AVal)} {h : AHeap}
structure Esn (h : AHeap) (v : AVal) (i : Nat) (a : Sn) : Prop where
  x : indexAddrR Tryz.prog 56 v (.int .i64 (i : Nat)) = .ok (elp v 3 i)
  l : loadR (cfgR ro) h 157 (elp v 3 i) = .ok (.agg [.int .u16 a.1.1, .int .u32 a.1.2, .int .i64 (a.2 : Nat)])
theorem Esn.of {v : AVal} {l : List Sn} (hs : Sl (cfgR ro) h 3 v (l.map snc)) {i : Nat} {a : Sn} (ha : l[i]? = some a) : Esn (ro := ro) h v i a := by
  have hi : i < (l.map snc).length := by have := (List.getElem?_eq_some_iff.1 ha).1; simpa using this
  have he : (l.map snc)[i]? = some (snc a) := by rw [List.getElem?_map, ha]; rfl
  exact ⟨hs.idx un56 sz157 hi, hs.load he ag157 sz157⟩
theorem lenSn {v : AVal} {l : List Sn} (hs : Sl (cfgR ro) h 3 v (l.map snc)) : lenR (cfgR ro) h 56 v = .ok (.int .i64 (l.length : Nat)) := by have := hs.lenR (t := 56) un56; simpa using this
theorem ids_ev {v : AVal} {l : List Sn} (hs : Sl (cfgR ro) h 3 v (l.map snc)) (hl : l.length < 2 ^ 40) (hok : ∀ s ∈ l, s.1.2 + s.2 < 2 ^ 32) (hn : (idsOf l).length < 2 ^ 30) {Q : AVal → AHeap → Prop} (hq : ∀ v' h', Old h h' → Mine h h' 2 ((idsOf l).map idc) v' → Q v' h') :
    Ev (cfgR ro) 64 [v] h Q := by
  refine Ev.wp rfl rfl Tryz.func64 rfl ?_
  have hL := lenSn hs
  simp -implicitDefEqProofs [Tryz.f64, hL]
  obtain ⟨I, hI⟩ : ∃ I : Nat → List AVal → AHeap → Prop, I = fun m env h' => Old h h' ∧ ∃ (i : Nat) (w : AVal), i + m = l.length ∧ Mine h h' 2 ((idsOf (l.take i)).map idc) w ∧
    env = (.dead :: .dead :: .dead :: w :: .dead :: .dead :: .dead :: v :: .int .i64 (l.length : Nat) :: .int .i64 (i : Nat) :: .dead :: .dead :: .dead :: .dead :: .dead :: .dead :: .dead :: .dead :: .dead :: .dead :: .dead :: .dead :: .dead :: .dead :: .dead :: .dead :: .dead :: .dead :: []) := ⟨_, rfl⟩
  refine loop_of I ?_ l.length (by rw [hI]; exact ⟨Old.refl h, 0, .nils, by omega, Mine.nil _ _ _, rfl⟩)
  intro m env h' hi
  rw [hI] at hi
  obtain ⟨oo, i, w, him, hm, rfl⟩ := hi
  by_cases hlt : i < l.length
  · obtain ⟨s, hx⟩ : ∃ s, l[i]? = some s := ⟨_, List.getElem?_eq_getElem hlt⟩
    have E := Esn.of (hs.old oo) hx
    have hso := hok s (List.mem_of_getElem? hx)
    have hle := idsOf_le2 hx
    have w1 : IntKind.i64.wrap ((i : Int) + 1) = ((i + 1 : Nat) : Int) := by rw [w64 (by omega) (by omega)]; omega
    simp -implicitDefEqProofs [hlt, E.x, E.l, same_self]
    obtain ⟨J, hJ⟩ : ∃ J : Nat → List AVal → AHeap → Prop, J = fun m2 env h2 => Old h h2 ∧ ∃ (j : Nat) (w2 : AVal), j + m2 = s.2 ∧ Mine h h2 2 ((idsOf (l.take i) ++ (List.range j).map (plusI s.1)).map idc) w2 ∧
      env = (.dead :: .dead :: .dead :: w2 :: .dead :: .cell [.int .u16 s.1.1, .int .u32 s.1.2, .int .i64 (s.2 : Nat)] :: .dead :: v :: .int .i64 (l.length : Nat) :: .int .i64 (i : Nat) :: .dead :: .dead :: .dead :: .dead :: .int .i64 (s.2 : Nat) :: .int .i64 (j : Nat) :: .dead :: .dead :: .dead :: .dead :: .dead :: .dead :: .dead :: .dead :: .dead :: .dead :: .dead :: .dead :: []) := ⟨_, rfl⟩
    refine loop_of J ?_ s.2 (by rw [hJ]; exact ⟨oo, 0, w, by omega, by simpa using hm, rfl⟩)
    intro m2 env h2 hj
    rw [hJ] at hj
    obtain ⟨o2, j, w2, hjm, hm2, rfl⟩ := hj
    by_cases hlt2 : j < s.2
    · have w3 : IntKind.i64.wrap ((j : Int) + 1) = ((j + 1 : Nat) : Int) := by rw [w64 (by omega) (by omega)]; omega
      simp -implicitDefEqProofs [hlt2, same_self]
      refine idPlus_ev (r := s.1.1) (n := s.1.2) (k := j) (by omega) ?_
      have op : Old h2 (h2.push (.row 2 false (idc (plusI s.1 j)))) := (Old.refl h2).push _
      obtain ⟨w4, h4, k1, k2, k3⟩ := Mine.append1 (bytes := 8) (e := idc (plusI s.1 j)) (hm2.keep op) (by decide) rfl (by simp; omega) (o2.trans op)
      unfold idc plusI at k1
      simp only at k1
      rw [show ((s.1.2 + j : Nat) : Int) = ((s.1.2 + j : Nat) : Int) from rfl] at k1
      obtain ⟨sj, hsj⟩ : ∃ sj, sj = s.1.2 + j := ⟨_, rfl⟩
      rw [← hsj] at k1 ⊢
      simp -implicitDefEqProofs [idA, buildSliceR, reps, k1, w3, same_self]
      exact .mk (m := m2 - 1) (by omega) (by rw [hJ]; exact ⟨k3, j + 1, w4, by omega, by rw [idsS_succ, ← List.append_assoc, List.map_append]; exact k2, rfl⟩)
    · have hj2 : j = s.2 := by omega
      subst hj2
      simp -implicitDefEqProofs [hlt2, w1]
      exact .mk (m := m - 1) (by omega) (by rw [hI]; exact ⟨o2, i + 1, w2, by omega, by rw [idsOf_take hx]; exact hm2, rfl⟩)
  · rw [List.take_of_length_le (by omega)] at hm
    simp -implicitDefEqProofs [hlt]
    exact hq w h' oo hm
def totS (l : List Sn) : Nat := (l.map (·.2)).sum
theorem totS_ids (l : List Sn) : (idsOf l).length = totS l := by
  unfold idsOf totS
  rw [List.length_flatten, List.map_map]
  congr 1
  exact List.map_congr_left fun s _ => idsS_len s
theorem total_ev {v : AVal} {l : List Sn} (hs : Sl (cfgR ro) h 3 v (l.map snc)) (hl : l.length < 2 ^ 40) (hn : totS l < 2 ^ 40) {Q : AVal → AHeap → Prop} (hq : Q (.int .i64 (totS l : Nat)) h) : Ev (cfgR ro) 69 [v] h Q := by
  refine Ev.wp rfl rfl Tryz.func69 rfl ?_
  have hL := lenSn hs
  simp -implicitDefEqProofs [Tryz.f69, hL]
  obtain ⟨I, hI⟩ : ∃ I : Nat → List AVal → AHeap → Prop, I = fun m env h' => h' = h ∧ ∃ (i : Nat) (z : Nat), i + m = l.length ∧ z = totS (l.take i) ∧
    env = (.dead :: .dead :: .dead :: .int .i64 (z : Nat) :: .dead :: .dead :: v :: .int .i64 (l.length : Nat) :: .int .i64 (i : Nat) :: .dead :: .dead :: .dead :: .dead :: .dead :: .dead :: .dead :: .dead :: .dead :: []) := ⟨_, rfl⟩
  refine loop_of I ?_ l.length (by rw [hI]; exact ⟨rfl, 0, 0, by omega, rfl, rfl⟩)
  intro m env h' hi
  rw [hI] at hi
  obtain ⟨rfl, i, z, him, hz, rfl⟩ := hi
  by_cases hlt : i < l.length
  · obtain ⟨s, hx⟩ : ∃ s, l[i]? = some s := ⟨_, List.getElem?_eq_getElem hlt⟩
    have E := Esn.of hs hx
    have htk : totS (l.take (i + 1)) = z + s.2 := by
      rw [← totS_ids, idsOf_take hx, List.length_append, idsS_len, totS_ids, ← hz]
    have hle : z + s.2 ≤ totS l := by rw [← htk, ← totS_ids, ← totS_ids]; exact idsOf_le l (i + 1)
    have w1 : IntKind.i64.wrap ((i : Int) + 1) = ((i + 1 : Nat) : Int) := by rw [w64 (by omega) (by omega)]; omega
    have w2 : IntKind.i64.wrap ((z : Int) + (s.2 : Int)) = ((z + s.2 : Nat) : Int) := by rw [w64 (by omega) (by omega)]; omega
    simp -implicitDefEqProofs [hlt, E.x, E.l, same_self, w1, w2]
    exact .mk (m := m - 1) (by omega) (by rw [hI]; exact ⟨rfl, i + 1, z + s.2, by omega, htk.symm, by simp⟩)
  · rw [List.take_of_length_le (by omega)] at hz
    subst hz
    simp -implicitDefEqProofs [hlt]
    exact hq
end
end Go.Proofs.YtlhlbamcgopiiaaGreatDoor
set_option linter.all false
set_option maxRecDepth 100000
set_option maxHeartbeats 4000000
namespace Go.Proofs.YtlhlbamcgopiiaaGreatDoor
open Go Go.RowKit Go.Proofs
structure TxV where
  r : Nat
  seq : Nat
  clock : Nat
  user : Int
def TxV.id (t : TxV) : IdT := (t.r, t.seq)
def txA (t : TxV) (v : AVal) : AVal := .agg [.int .u16 t.r, .int .u32 t.seq, .int .u64 t.clock, .int .i64 t.user, v]
def showAll (yes : Sp → Bool) (sp : List Sp) (A : List AtV) : List AtV := sp.foldl (fun A x => (showA A x.1.2.1 x.1.2.2 (yes x)).1) A
def yesD (D : CV) (e : IdT) (x : Sp) : Bool := decide (1 ≤ countD D e) && decide (x = bestD D e)
def renewD (D : CV) (e : IdT) : CV := { D with A := showAll (yesD D e) (spOf D e) D.A }
section
variable {ro : Nat → Option (List AVal)} {h : AHeap} {s : Nat} {D : CV} {O : Nat → Prop}
theorem txid_ev {t : TxV} {v : AVal} {Q : AVal → AHeap → Prop} (hq : Q (idA t.r t.seq) h) : Ev (cfgR ro) 60 [txA t v] h Q := by
  refine Ev.wp rfl rfl Tryz.func60 rfl ?_
  simp only [idA] at hq
  simp -implicitDefEqProofs [Tryz.f60, txA]
  exact hq
theorem txkey_ev {t : TxV} {v : AVal} {n : Nat} {Q : AVal → AHeap → Prop} (hq : Q (keyA t.clock t.r n) h) : Ev (cfgR ro) 114 [txA t v, .int .u32 n] h Q := by
  refine Ev.wp rfl rfl Tryz.func114 rfl ?_
  simp only [keyA] at hq
  simp -implicitDefEqProofs [Tryz.f114, txA]
  exact hq
theorem eqSp0 (h : AHeap) (c r n er en c' r' n' er' en' : Nat) : eqIn (cfgR ro) h 10000 178 (.agg [.int .u64 c, .int .u16 r, .int .u32 n, .int .u16 er, .int .u32 en]) (.agg [.int .u64 c', .int .u16 r', .int .u32 n', .int .u16 er', .int .u32 en']) =
  Res.bind (match (c : Int) == (c' : Int) with | true => (match (r : Int) == (r' : Int) with | true => (match (n : Int) == (n' : Int) with | true => Res.ok true | false => .ok false) | false => .ok false) | false => .ok false) (fun x => match x with
   | true => Res.bind (match (er : Int) == (er' : Int) with | true => (match (en : Int) == (en' : Int) with | true => Res.ok true | false => .ok false) | false => .ok false) (fun x => match x with
     | true => Res.ok true
     | false => .ok false)
   | false => .ok false) := by kernel_rfl
theorem beqNI (a b : Nat) : ((a : Int) == (b : Int)) = decide (a = b) := by
  by_cases h : a = b
  · simp [h]
  · have : ¬ (a : Int) = (b : Int) := by omega
    simp [h, this]
theorem eqSp (h : AHeap) (x y : Sp) : eqIn (cfgR ro) h 10000 178 (.agg [.int .u64 x.1.1, .int .u16 x.1.2.1, .int .u32 x.1.2.2, .int .u16 x.2.1, .int .u32 x.2.2]) (.agg [.int .u64 y.1.1, .int .u16 y.1.2.1, .int .u32 y.1.2.2, .int .u16 y.2.1, .int .u32 y.2.2]) = .ok (decide (x = y)) := by
  rw [eqSp0]
  simp only [beqNI]
  obtain ⟨⟨a, b, c⟩, d, e⟩ := x
  obtain ⟨⟨a', b', c'⟩, d', e'⟩ := y
  simp only [Prod.mk.injEq]
  by_cases c1 : a = a'
  · by_cases c2 : b = b'
    · by_cases c3 : c = c'
      · by_cases c4 : d = d'
        · by_cases c5 : e = e'
          · simp [c1, c2, c3, c4, c5]
          · simp [c1, c2, c3, c4, c5]
        · simp [c1, c2, c3, c4]
      · simp [c1, c2, c3]
    · simp [c1, c2]
  · simp [c1]
theorem eqLSp : eqL 178 = true := by decide
/-- an atom of a Core, shown or not -/
theorem cshow_ev (C : CSt h s O D) {ar an : Nat} {v : Bool} (ha : an < 2 ^ 32) {Q : AVal → AHeap → Prop} (hq : ∀ h' O' n, CSt h' s O' { D with A := (showA D.A ar an v).1 } → Stp h O h' O' → Q (.int .i64 n) h') : Ev (cfgR ro) 122 [.ptr s 0, idA ar an, .bool v] h Q := by
  obtain ⟨col, spm, dm, lm, fs, fd, fl, rfl, C⟩ := C
  refine sshow_ev C.st ha (fun h' O' S P => ?_)
  obtain ⟨col', C', P'⟩ := C.ofStore S P
  exact hq h' _ _ ⟨col', _, _, _, _, _, _, rfl, C'⟩ P'
theorem crenew_ev (C : CSt h s O D) {e : IdT} (hs : (spOf D e).length < 2 ^ 30) (hx : ∀ x ∈ spOf D e, x.1.2.2 < 2 ^ 32) (hg : ∀ l, lookI D.lives e = some l → l.gone.length < 2 ^ 30) {Q : AVal → AHeap → Prop}
    (hq : ∀ h' O', CSt h' s O' (renewD D e) → Stp h O h' O' → Q (.tuple []) h') : Ev (cfgR ro) 66 [.ptr s 0, idA e.1 e.2] h Q := by
  refine Ev.wp rfl rfl Tryz.func66 rfl ?_
  simp -implicitDefEqProofs [Tryz.f66, idA]
  refine best_ev C (k := e) hs (fun h1 b0 o1 => ?_)
  have C1 := C.old o1
  simp -implicitDefEqProofs [idA]
  refine tcount_ev C1 (e := e) hg ?_
  obtain ⟨cn, hcn⟩ : ∃ cn, cn = decide (1 ≤ countD D e) := ⟨_, rfl⟩
  simp -implicitDefEqProofs [idA]
  refine all_ev C1 (k := e) hs (fun v h2 o2 hm => ?_)
  have C2 := C1.old o2
  have hL2 := lenSp (hm.sl (c := cfgR ro))
  simp -implicitDefEqProofs [hL2]
  rw [← hcn]
  obtain ⟨B, hB⟩ : ∃ B, B = bestD D e := ⟨_, rfl⟩
  rw [← hB]
  obtain ⟨I, hI⟩ : ∃ I : Nat → List AVal → AHeap → Prop, I = fun m env h' => ∃ (i : Nat) (O' : Nat → Prop), i + m = (spOf D e).length ∧ CSt h' s O' { D with A := showAll (yesD D e) ((spOf D e).take i) D.A } ∧ Stp h2 O h' O' ∧ Mine h1 h' 5 ((spOf D e).map spc) v ∧ (∀ o, vobj v o → ¬ O' o) ∧
    env = (.ptr s 0 :: .dead :: .dead :: .dead :: .cell [.int .u64 B.1.1, .int .u16 B.1.2.1, .int .u32 B.1.2.2, .int .u16 B.2.1, .int .u32 B.2.2] :: .dead :: .bool cn :: .dead :: .dead :: .dead :: .dead :: .dead :: .dead :: .dead :: .dead :: .dead :: .dead :: .dead :: .dead :: .dead :: .dead :: .dead :: .dead :: .dead :: .dead :: .dead :: .dead :: .dead :: .dead :: .dead :: .dead :: v :: .int .i64 ((spOf D e).length : Nat) :: .int .i64 (i : Nat) :: .dead :: .dead :: .dead :: .dead :: .dead :: .dead :: .dead :: .dead :: .dead :: .dead :: .dead :: .dead :: .dead :: .dead :: .dead :: .dead :: .dead :: []) := ⟨_, rfl⟩
  refine ⟨.inl (by decide +kernel), ?_⟩
  refine loop_of I ?_ (spOf D e).length (by rw [hI]; exact ⟨0, O, by omega, C2, Stp.refl _ _, hm, fun o ho hO => by have := hm.obj o ho; have := C1.lt o hO; omega, rfl⟩)
  intro m env h' hi
  rw [hI] at hi
  obtain ⟨i, O', him, C', P', hm', hno, rfl⟩ := hi
  by_cases hlt : i < (spOf D e).length
  · obtain ⟨x, hxx⟩ : ∃ x, (spOf D e)[i]? = some x := ⟨_, List.getElem?_eq_getElem hlt⟩
    have E := Es.of (hm'.sl (c := cfgR ro)) hxx
    have w1 : IntKind.i64.wrap ((i : Int) + 1) = ((i + 1 : Nat) : Int) := by rw [w64 (by omega) (by omega)]; omega
    have e1 := fun h => eqSp (ro := ro) h x B
    have htk : showAll (yesD D e) ((spOf D e).take (i + 1)) D.A = (showA (showAll (yesD D e) ((spOf D e).take i) D.A) x.1.2.1 x.1.2.2 (yesD D e x)).1 := by
      obtain ⟨hl2, e2⟩ := List.getElem?_eq_some_iff.1 hxx
      unfold showAll
      rw [List.take_succ_eq_append_getElem hl2, e2, List.foldl_append]; rfl
    have hy : yesD D e x = (cn && decide (x = B)) := by unfold yesD; rw [hcn, hB]
    simp -implicitDefEqProofs [hlt, E.x, E.l, same_self]
    refine keyID_ev (c := x.1.1) (r := x.1.2.1) (n := x.1.2.2) ?_
    have fin : ∀ h3 O3 (n : Int), CSt h3 s O3 { D with A := (showA (showAll (yesD D e) ((spOf D e).take i) D.A) x.1.2.1 x.1.2.2 (yesD D e x)).1 } → Stp h' O' h3 O3 → headK I m (.ptr s 0 :: .dead :: .dead :: .dead :: .cell [.int .u64 B.1.1, .int .u16 B.1.2.1, .int .u32 B.1.2.2, .int .u16 B.2.1, .int .u32 B.2.2] :: .dead :: .bool cn :: .dead :: .dead :: .dead :: .dead :: .dead :: .dead :: .dead :: .dead :: .dead :: .dead :: .dead :: .dead :: .dead :: .dead :: .dead :: .dead :: .dead :: .dead :: .dead :: .dead :: .dead :: .dead :: .dead :: .dead :: v :: .int .i64 ((spOf D e).length : Nat) :: .int .i64 (i + 1 : Nat) :: .dead :: .dead :: .dead :: .dead :: .dead :: .dead :: .dead :: .dead :: .dead :: .dead :: .dead :: .dead :: .dead :: .dead :: .dead :: .dead :: .dead :: []) h3 := by
      intro h3 O3 n C3 P3
      exact .mk (m := m - 1) (by omega) (by rw [hI]; exact ⟨i + 1, O3, by omega, by rw [htk]; exact C3, P'.trans P3, hm'.keepO (fun o ho => P3.keep o (hm'.obj o ho).2 (hno o ho)) P3.nx, fun o ho hO => by
        rcases P3.own o hO with h5 | h5
        · exact hno o ho h5
        · have := (hm'.obj o ho).2; omega, rfl⟩)
    rw [hy] at fin
    cases hcc : cn
    · rw [hcc] at fin
      simp -implicitDefEqProofs [hcc, same_self, idA]
      refine cshow_ev C' (ar := x.1.2.1) (an := x.1.2.2) (hx x (List.mem_of_getElem? hxx)) (fun h3 O3 n C3 P3 => ?_)
      simp -implicitDefEqProofs [w1, same_self]
      exact fin h3 O3 n C3 P3
    · rw [hcc] at fin
      simp -implicitDefEqProofs [hcc, same_self, idA, eqLSp, e1]
      refine cshow_ev C' (ar := x.1.2.1) (an := x.1.2.2) (hx x (List.mem_of_getElem? hxx)) (fun h3 O3 n C3 P3 => ?_)
      simp -implicitDefEqProofs [w1, same_self, eqLSp, e1]
      exact fin h3 O3 n C3 P3
  · rw [List.take_of_length_le (by omega)] at C'
    simp -implicitDefEqProofs [hlt]
    exact hq h' O' C' (((Stp.ofOld _ o1).trans (Stp.ofOld _ o2)).trans P')
end
end Go.Proofs.YtlhlbamcgopiiaaGreatDoor
set_option linter.all false
set_option maxRecDepth 100000
set_option maxHeartbeats 4000000
namespace Go.Proofs.YtlhlbamcgopiiaaGreatDoor
open Go Go.RowKit Go.Proofs
/-- a slice made with room, filled one by one -/
structure CapS (h : AHeap) (q sz cap : Nat) (es : List (List AVal)) : Prop where
  low : q < h.next
  w : ∀ e ∈ es, e.length = sz
  room : es.length ≤ cap
  row : ∃ vs, h.get q = some (.row sz false vs) ∧ vs.length = cap * sz ∧ vs.take (es.length * sz) = es.flatten
theorem CapS.keep {h h' : AHeap} {q sz cap : Nat} {es : List (List AVal)} (c : CapS h q sz cap es) (k : h'.get q = h.get q) (hn : h.next ≤ h'.next) : CapS h' q sz cap es :=
  ⟨Nat.lt_of_lt_of_le c.low hn, c.w, c.room, by rw [k]; exact c.row⟩
theorem CapS.sl {c : Cfg} {h : AHeap} {q sz cap : Nat} {es : List (List AVal)} (k : CapS h q sz cap es) : Sl c h sz (.sl q 0 es.length) es := by
  obtain ⟨vs, r1, r2, r3⟩ := k.row
  have hf := flat_len k.w
  refine ⟨rfl, (fun s h => by cases h), fun _ => ⟨vs, 0, by simp [rowOf, r1], fun i e he => ⟨k.w e (List.mem_of_getElem? he), ?_⟩⟩, k.low, (fun o f n hv => by cases hv; exact ⟨_, _, r1⟩)⟩
  have h2 := flat_take k.w he
  have hi := (List.getElem?_eq_some_iff.1 he).1
  rw [Nat.zero_add]
  unfold takeR at h2 ⊢
  have hle : i * sz + sz ≤ es.length * sz := by rw [← Nat.succ_mul]; exact Nat.mul_le_mul_right _ hi
  have hcap : es.length * sz ≤ cap * sz := Nat.mul_le_mul_right _ k.room
  rw [if_pos (by rw [hf]; exact hle)] at h2
  rw [if_pos (by omega)]
  rw [← r3] at h2
  rw [List.drop_take, List.take_take, Nat.min_eq_left (by omega)] at h2
  exact h2
theorem CapS.app {h : AHeap} {q sz cap b : Nat} {es : List (List AVal)} {e : List AVal} (k : CapS h q sz cap es) (hl : es.length < cap) (he : e.length = sz) :
    ∃ x, appCore sz b h (.sl q 0 es.length) 1 e = .ok (.sl q 0 (es.length + 1), h.set q x) ∧ CapS (h.set q x) q sz cap (es ++ [e]) := by
  obtain ⟨vs, r1, r2, r3⟩ := k.row
  have hf := flat_len k.w
  have hle : es.length * sz + sz ≤ cap * sz := by rw [← Nat.succ_mul]; exact Nat.mul_le_mul_right _ hl
  refine ⟨.row sz false (vs.take (es.length * sz) ++ e ++ vs.drop (es.length * sz + sz)), ?_, k.low, fun e' h' => ?_, by simp; omega, _, get_set_self _ _ _, ?_, ?_⟩
  · unfold appCore
    simp only [r1, if_true]
    have hm : (es.length + 1) * sz = es.length * sz + sz := Nat.succ_mul _ _
    rw [if_pos (by omega)]
    unfold overR
    rw [if_pos (by omega)]
    simp only [Nat.zero_add, he, Res.ok_bind]
  · rcases List.mem_append.1 h' with h1 | h1
    · exact k.w e' h1
    · simp at h1; rw [h1, he]
  · simp only [List.length_append, List.length_take, List.length_drop, he]; omega
  · have e1 : (es ++ [e]).length * sz = (vs.take (es.length * sz) ++ e).length := by
      rw [List.length_append, List.length_append, List.length_take, he, List.length_singleton, Nat.min_eq_left (by omega), Nat.succ_mul]
    rw [e1, List.take_left', r3]
    · simp
    · rfl
/-- the byte of an atom -/
def byteA (A : List AtV) (x : IdT) : UInt8 := match atIx A x.1 x.2 with
  | some i => (A[i]?.map (·.b)).getD 0
  | none => 0
def spanTx (A : List AtV) (s : Sn) : Str := (idsS s).map (byteA A)
section
variable {ro : Nat → Option (List AVal)} {h : AHeap} {s : Nat} {D : CV} {O : Nat → Prop}
theorem bytes_ev (C : CSt h s O D) {x : Sn} (hx : x.1.2 + x.2 < 2 ^ 32) {Q : AVal → AHeap → Prop} (hq : ∀ h', Old h h' → Q (.str (spanTx D.A x)) h') :
    Ev (cfgR ro) 123 [.ptr s 0, .agg [.int .u16 x.1.1, .int .u32 x.1.2, .int .i64 (x.2 : Nat)]] h Q := by
  obtain ⟨col, spm, dm, lm, fs, fd, fl, rfl, C⟩ := C
  refine Ev.wp rfl rfl Tryz.func123 rfl ?_
  have hmk : makeSliceR Tryz.prog h 162 (.int .i64 0) (.int .i64 (x.2 : Nat)) = .ok (.sl h.next 0 0, h.push (.row 1 false (reps x.2 [.int .u8 0]))) := by
    have hi : ∃ i, infoR Tryz.prog 5 = .ok i ∧ i.size = 1 ∧ i.bytes = 1 := ⟨_, rfl, by kernel_rfl, by kernel_rfl⟩
    obtain ⟨i, i1, i2, i3⟩ := hi
    have w0 : IntKind.i64.wrap 0 = 0 := by decide
    have w1 : IntKind.i64.wrap (x.2 : Int) = (x.2 : Int) := w64 (by omega) (by omega)
    unfold makeSliceR
    simp [i1, i2, i3, w0, w1]
    omega
  have hrep : reps x.2 [.int .u8 0] = (List.replicate x.2 [AVal.int .u8 0]).flatten := rfl
  obtain ⟨H, hH⟩ : ∃ H, H = h.push (.row 1 false (reps x.2 [.int .u8 0])) := ⟨_, rfl⟩
  have o1 : Old h H := by rw [hH]; exact (Old.refl h).push _
  have k0 : CapS H h.next 1 x.2 [] := ⟨by rw [hH]; simp, by simp, Nat.zero_le _, _, by rw [hH, get_push_next], by simp [reps], by simp⟩
  simp -implicitDefEqProofs [Tryz.f123, hmk]
  rw [← hH]
  obtain ⟨I, hI⟩ : ∃ I : Nat → List AVal → AHeap → Prop, I = fun m env h' => Old h h' ∧ ∃ (i : Nat), i + m = x.2 ∧ CapS h' h.next 1 x.2 (bes ((spanTx D.A x).take i)) ∧
    env = (.ptr s 0 :: .dead :: .dead :: .cell [.int .u16 x.1.1, .int .u32 x.1.2, .int .i64 (x.2 : Nat)] :: .dead :: .sl h.next 0 i :: .dead :: .dead :: .dead :: .dead :: .dead :: .dead :: .dead :: .int .i64 (x.2 : Nat) :: .int .i64 (i : Nat) :: .dead :: .dead :: .dead :: .dead :: .dead :: .dead :: .dead :: .dead :: .dead :: .dead :: .dead :: .dead :: .dead :: .dead :: .dead :: .dead :: .dead :: .dead :: .dead :: .dead :: .dead :: []) := ⟨_, rfl⟩
  refine loop_of I ?_ x.2 (by rw [hI]; exact ⟨o1, 0, by omega, k0, rfl⟩)
  intro m env h' hi
  rw [hI] at hi
  obtain ⟨oo, i, him, kk, rfl⟩ := hi
  have hbl : (spanTx D.A x).length = x.2 := by unfold spanTx; rw [List.length_map, idsS_len]
  by_cases hlt : i < x.2
  · have w1 : IntKind.i64.wrap ((i : Int) + 1) = ((i + 1 : Nat) : Int) := by rw [w64 (by omega) (by omega)]; omega
    have hti : ((spanTx D.A x).take i).length = i := by rw [List.length_take]; omega
    have hgi : (spanTx D.A x)[i]? = some (byteA D.A (plusI x.1 i)) := by
      unfold spanTx idsS
      rw [List.getElem?_map, List.getElem?_map, List.getElem?_range hlt]; rfl
    have htk : (spanTx D.A x).take (i + 1) = (spanTx D.A x).take i ++ [byteA D.A (plusI x.1 i)] := by
      obtain ⟨hl2, e2⟩ := List.getElem?_eq_some_iff.1 hgi
      rw [List.take_succ_eq_append_getElem hl2, e2]
    have nxt : ∀ c : UInt8, c = byteA D.A (plusI x.1 i) → ∃ y, appCore 1 1 (h'.push (.row 1 false [.int .u8 c.toNat])) (.sl h.next 0 i) 1 [.int .u8 c.toNat] = .ok (.sl h.next 0 (i + 1), (h'.push (.row 1 false [.int .u8 c.toNat])).set h.next y) ∧
        headK I m (.ptr s 0 :: .dead :: .dead :: .cell [.int .u16 x.1.1, .int .u32 x.1.2, .int .i64 (x.2 : Nat)] :: .dead :: .sl h.next 0 (i + 1) :: .dead :: .dead :: .dead :: .dead :: .dead :: .dead :: .dead :: .int .i64 (x.2 : Nat) :: .int .i64 (i + 1 : Nat) :: .dead :: .dead :: .dead :: .dead :: .dead :: .dead :: .dead :: .dead :: .dead :: .dead :: .dead :: .dead :: .dead :: .dead :: .dead :: .dead :: .dead :: .dead :: .dead :: .dead :: .dead :: []) ((h'.push (.row 1 false [.int .u8 c.toNat])).set h.next y) := by
      intro c hc
      have op : Old h' (h'.push (.row 1 false [.int .u8 c.toNat])) := (Old.refl h').push _
      obtain ⟨y, a1, a2⟩ := (kk.keep (op.2 _ kk.low) op.1).app (b := 1) (e := [.int .u8 c.toNat]) (by rw [bes_len, hti]; exact hlt) rfl
      rw [bes_len, hti] at a1
      have hbe : bes ((spanTx D.A x).take i ++ [c]) = bes ((spanTx D.A x).take i) ++ [[.int .u8 c.toNat]] := by rw [bes_append]; rfl
      refine ⟨y, a1, .mk (m := m - 1) (by omega) (by rw [hI]; exact ⟨(oo.trans op).set (Nat.le_refl _) _, i + 1, by omega, by rw [htk, ← hc, hbe]; exact a2, rfl⟩)⟩
    have C' := C.keep (h' := h') (fun o ho => oo.2 o (C.lt o ho)) oo.1
    simp -implicitDefEqProofs [hlt, same_self]
    refine idPlus_ev (r := x.1.1) (n := x.1.2) (k := i) (by omega) ?_
    simp -implicitDefEqProofs [idA, same_self]
    refine sget_ev C'.st (ar := x.1.1) (an := x.1.2 + i) (by omega) (fun j a e1 e2 => ?_) (fun e1 => ?_)
    · have hbb : byteA D.A (plusI x.1 i) = a.b := by
        unfold byteA plusI
        simp only
        rw [e1]
        simp only [e2, Option.map_some, Option.getD_some]
      obtain ⟨y, b1, b2⟩ := nxt a.b hbb.symm
      simp -implicitDefEqProofs [AtV.cells, buildSliceR, reps, b1, w1, same_self]
      exact b2
    · have hbb : byteA D.A (plusI x.1 i) = 0 := by
        unfold byteA plusI
        simp only
        rw [e1]
      obtain ⟨y, b1, b2⟩ := nxt 0 hbb.symm
      have b1' := b1
      rw [show ((0 : UInt8).toNat : Int) = 0 from rfl] at b1' b2
      simp -implicitDefEqProofs [zeroAtom, buildSliceR, reps, b1', w1, same_self]
      exact b2
  · have hie : i = x.2 := by omega
    subst hie
    rw [List.take_of_length_le (by omega)] at kk
    have hbs : BS (cfgR ro) h' (.sl h.next 0 x.2) (spanTx D.A x) := by
      have := kk.sl (c := cfgR ro)
      rw [bes_len, hbl] at this
      exact this
    have hcv := hbs.conv (s := 162) (d := 9) un162 un9 un5
    simp -implicitDefEqProofs [hlt, hcv, -convR]
    exact hq h' oo
end
end Go.Proofs.YtlhlbamcgopiiaaGreatDoor
set_option linter.all false
set_option maxRecDepth 100000
set_option maxHeartbeats 4000000
namespace Go.Proofs.YtlhlbamcgopiiaaGreatDoor
open Go Go.RowKit Go.Proofs
theorem tw_split {p : AtV → Bool} {R : List AtV} (h2 : ∀ y l, R = y :: l → p y = false) : ∀ {H : List AtV}, (∀ y ∈ H, p y = true) → (H ++ R).takeWhile p = H ∧ (H ++ R).dropWhile p = R
  | [], _ => by
    cases R with
    | nil => exact ⟨rfl, rfl⟩
    | cons y l => have := h2 y l rfl; simp [this]
  | a :: H, h1 => by
    have ha := h1 a (by simp)
    have ih := tw_split h2 (H := H) (fun y hy => h1 y (by simp [hy]))
    simp [ha, ih.1, ih.2]
/-- atoms, put among others -/
def grA (A : List AtV) (p : Nat) (r : RunV) : List AtV := A.take p ++ ((A.drop p).takeWhile (fun z => decide (klt r.key z.key)) ++ (atomsOf r ++ (A.drop p).dropWhile (fun z => decide (klt r.key z.key))))
def putG (A : List AtV) (x : IdT) (r : RunV) : List AtV := grA A ((posA A x.1 x.2).getD 0) r
/-- one atom of what is inserted -/
def insStep (D : CV) (k : IdT) (key : KeyT) : CV := { addD (makeD D k key.2) key.2 (key, k) with elems := D.elems + 1 }
def insN (D : CV) (t : TxV) (n : Nat) : Nat → CV
  | 0 => D
  | i + 1 => insStep (insN D t n i) t.id (t.clock, t.r, n + i)
def insD (D : CV) (t : TxV) (x : IdT) (n : Nat) (tx : Str) : CV := insN { D with A := putG D.A x ⟨t.clock, t.r, n, t.r, n, tx, true⟩ } t n tx.length
/-- may further atoms be made? -/
structure InsR (D : CV) (k : IdT) (r n i l : Nat) : Prop where
  new : ∀ j, i ≤ j → j < l → lookI D.lives (r, n + j) = none ∧ spOf D (r, n + j) = []
  deed : ∃ d, lookI D.deeds k = some d ∧ d.touched.length + (l - i) < 2 ^ 30
  nsp : D.nsp + (l - i) < 2 ^ 60
  el : D.elems + (l - i) < 2 ^ 60
theorem touchD_deed {D : CV} {k e : IdT} {d : Dl} (hd : lookI D.deeds k = some d) : ∃ d', lookI (touchD D k e).deeds k = some d' ∧ d'.touched.length ≤ d.touched.length + 1 ∧ d'.undone = d.undone ∧ d'.undoes = d.undoes := by
  unfold touchD
  rw [hd]
  simp only
  split
  · exact ⟨d, hd, by omega, rfl, rfl⟩
  · exact ⟨{ d with touched := d.touched ++ [e] }, by rw [look_put, if_pos rfl], by simp, rfl, rfl⟩
theorem touchD_sp (D : CV) (k e : IdT) : (touchD D k e).sp = D.sp ∧ (touchD D k e).nsp = D.nsp ∧ (touchD D k e).elems = D.elems ∧ (touchD D k e).A = D.A ∧ (touchD D k e).clock = D.clock := by
  unfold touchD
  split
  · split <;> exact ⟨rfl, rfl, rfl, rfl, rfl⟩
  · exact ⟨rfl, rfl, rfl, rfl, rfl⟩
theorem spOf_add (D : CV) (k : IdT) (x : Sp) (e : IdT) : spOf (addD D k x) e = if e = k then spOf D k ++ [x] else spOf D e := by
  unfold addD spOf
  simp only
  rw [look_put]
  by_cases c : e = k
  · rw [if_pos c, if_pos c]; rfl
  · rw [if_neg c, if_neg c]
theorem insStep_sp (D : CV) (k : IdT) (key : KeyT) (e : IdT) : spOf (insStep D k key) e = if e = key.2 then spOf D key.2 ++ [(key, k)] else spOf D e := by
  have h1 : spOf (insStep D k key) e = spOf (addD (makeD D k key.2) key.2 (key, k)) e := rfl
  have h2 : ∀ e, spOf (makeD D k key.2) e = spOf D e := fun e => by unfold makeD spOf; simp only; rw [(touchD_sp D k key.2).1]
  rw [h1, spOf_add, h2, h2]
theorem insStep_lives (D : CV) (k : IdT) (key : KeyT) (e : IdT) : lookI (insStep D k key).lives e = if e = key.2 then some ⟨k, []⟩ else lookI D.lives e := look_put _ _ _ _
theorem InsR.step {D : CV} {t : TxV} {n i l : Nat} (R : InsR D t.id t.r n i l) (hi : i < l) : InsR (insStep D t.id (t.clock, t.r, n + i)) t.id t.r n (i + 1) l := by
  obtain ⟨d, d1, d2⟩ := R.deed
  have hne : ∀ j, i + 1 ≤ j → ((t.r, n + j) : IdT) ≠ (t.r, n + i) := fun j hj e => by simp at e; omega
  refine ⟨fun j hj hl => ⟨?_, ?_⟩, ?_, ?_, ?_⟩
  · rw [insStep_lives, if_neg (hne j hj)]
    exact (R.new j (by omega) hl).1
  · rw [insStep_sp, if_neg (hne j hj)]
    exact (R.new j (by omega) hl).2
  · obtain ⟨d', e1, e2, _⟩ := touchD_deed (e := (t.r, n + i)) d1
    exact ⟨d', e1, by omega⟩
  · have := (touchD_sp D t.id (t.r, n + i)).2.1
    show (touchD D t.id (t.r, n + i)).nsp + 1 + _ < _
    rw [this]; have := R.nsp; omega
  · show D.elems + 1 + _ < _
    have := R.el; omega
section
variable {ro : Nat → Option (List AVal)} {h : AHeap} {s : Nat} {D : CV} {O : Nat → Prop}
theorem cput_ev (hro : ro 0 = some [.int .u16 0, .int .u32 0]) (C : CSt h s O D) {x : IdT} {r : RunV} {p0 : Nat} (hx : x.2 < 2 ^ 32) (hr : RunOk r) (hp : plain r.text = true) (hpos : posA D.A x.1 x.2 = some p0) (hhit : hitA D.A r = false) (hlen : D.A.length + r.text.length ≤ 65536) {Q : AVal → AHeap → Prop}
    (hq : ∀ h' O', CSt h' s O' { D with A := putG D.A x r } → Stp h O h' O' → Q (.int .i64 0) h') : Ev (cfgR ro) 115 [.ptr s 0, idA x.1 x.2, .agg r.cells] h Q := by
  obtain ⟨col, spm, dm, lm, fs, fd, fl, rfl, C⟩ := C
  refine gput_ok_ev hro C.st hx hr hp hpos hhit hlen (fun H R h' O' e1 e2 e3 S P => ?_)
  have e4 := tw_split (p := fun z => decide (klt r.key z.key)) (H := H) (R := R) (fun y l e => decide_eq_false (e3 y l e)) (fun y hy => decide_eq_true (e2 y hy))
  rw [← e1] at e4
  have e5 : D.A.take p0 ++ (H ++ (atomsOf r ++ R)) = putG D.A x r := by
    unfold putG grA
    rw [hpos, Option.getD_some, e4.1, e4.2]
  rw [e5] at S
  obtain ⟨col', C', P'⟩ := C.ofStore S P
  exact hq h' _ ⟨col', _, _, _, _, _, _, rfl, C'⟩ P'
/-- an operation, as a value -/
def opA (kind : Int) (x : IdT) (n : Nat) (tx : Str) (v : AVal) (seq : Nat) : AVal := .agg [.int .i64 kind, .int .u16 x.1, .int .u32 x.2, .int .u32 n, .str tx, v, .int .u32 seq]
theorem insert_ev (hro : ro 0 = some [.int .u16 0, .int .u32 0]) (C : CSt h s O D) {t : TxV} {v v2 : AVal} {kind : Int} {x : IdT} {n seq p0 : Nat} {tx : Str} (hx : x.2 < 2 ^ 32) (hr : RunOk ⟨t.clock, t.r, n, t.r, n, tx, true⟩) (hp : plain tx = true) (hpos : posA D.A x.1 x.2 = some p0) (hhit : hitA D.A ⟨t.clock, t.r, n, t.r, n, tx, true⟩ = false) (hlen : D.A.length + tx.length ≤ 65536) (R : InsR D t.id t.r n 0 tx.length) {Q : AVal → AHeap → Prop}
    (hq : ∀ h' O', CSt h' s O' (insD D t x n tx) → Stp h O h' O' → Q (.tuple []) h') : Ev (cfgR ro) 63 [.ptr s 0, txA t v, opA kind x n tx v2 seq] h Q := by
  refine Ev.wp rfl rfl Tryz.func63 rfl ?_
  have hn2 := hr.n2
  simp only [] at hn2
  simp -implicitDefEqProofs [Tryz.f63, txA, opA]
  refine txkey_ev (t := t) (n := n) ?_
  simp -implicitDefEqProofs [keyA, same_self]
  refine keyID_ev (c := t.clock) (r := t.r) (n := n) ?_
  simp -implicitDefEqProofs [idA, same_self]
  refine cput_ev hro C (x := x) (r := ⟨t.clock, t.r, n, t.r, n, tx, true⟩) hx hr hp hpos hhit hlen (fun h1 O1 C1 P1 => ?_)
  simp -implicitDefEqProofs [same_self]
  obtain ⟨D1, hD1⟩ : ∃ D1, D1 = { D with A := putG D.A x ⟨t.clock, t.r, n, t.r, n, tx, true⟩ } := ⟨_, rfl⟩
  rw [← hD1] at C1
  have R1 : InsR D1 t.id t.r n 0 tx.length := by rw [hD1]; exact ⟨R.new, R.deed, R.nsp, R.el⟩
  obtain ⟨I, hI⟩ : ∃ I : Nat → List AVal → AHeap → Prop, I = fun m env h' => ∃ (i : Nat) (O' : Nat → Prop), i + m = tx.length ∧ CSt h' s O' (insN D1 t n i) ∧ InsR (insN D1 t n i) t.id t.r n i tx.length ∧ Stp h1 O1 h' O' ∧
    env = (.ptr s 0 :: .dead :: .dead :: .dead :: .cell [.int .u16 t.r, .int .u32 t.seq, .int .u64 t.clock, .int .i64 t.user, v] :: .dead :: .cell [.int .u64 t.clock, .int .u16 t.r, .int .u32 n] :: .dead :: .dead :: .dead :: .dead :: .dead :: .dead :: .dead :: .dead :: .dead :: .dead :: .dead :: .dead :: .dead :: .dead :: .dead :: .dead :: .dead :: .dead :: .dead :: .dead :: .int .i64 (tx.length : Nat) :: .int .i64 (i : Nat) :: .dead :: .dead :: .dead :: .dead :: .dead :: .dead :: .dead :: .dead :: .dead :: .dead :: .dead :: .dead :: .dead :: .dead :: .dead :: .dead :: .dead :: .dead :: .dead :: .dead :: .dead :: .dead :: .dead :: .dead :: .dead :: .dead :: .dead :: .dead :: .dead :: .dead :: .dead :: []) := ⟨_, rfl⟩
  refine loop_of I ?_ tx.length (by rw [hI]; exact ⟨0, O1, by omega, C1, R1, Stp.refl _ _, rfl⟩)
  intro m env h' hi
  rw [hI] at hi
  obtain ⟨i, O', him, C', R', P', rfl⟩ := hi
  by_cases hlt : i < tx.length
  · have w1 : IntKind.i64.wrap ((i : Int) + 1) = ((i + 1 : Nat) : Int) := by rw [w64 (by omega) (by omega)]; omega
    obtain ⟨d, d1, d2⟩ := R'.deed
    obtain ⟨r1, r2⟩ := R'.new i (Nat.le_refl _) hlt
    simp -implicitDefEqProofs [hlt, same_self]
    refine keyPlus_ev (c := t.clock) (r := t.r) (n := n) (k := i) (by omega) ?_
    obtain ⟨ni, hni⟩ : ∃ ni, ni = n + i := ⟨_, rfl⟩
    rw [← hni] at r1 r2 ⊢
    simp -implicitDefEqProofs [keyA, same_self]
    refine txid_ev (t := t) ?_
    simp -implicitDefEqProofs [idA, same_self]
    refine keyID_ev (c := t.clock) (r := t.r) (n := ni) ?_
    simp -implicitDefEqProofs [idA, same_self]
    refine make_ev C' (k := t.id) (e := (t.r, ni)) d1 r1 (by omega) (fun h2 O2 C2 P2 => ?_)
    simp -implicitDefEqProofs [same_self]
    refine keyID_ev (c := t.clock) (r := t.r) (n := ni) ?_
    simp -implicitDefEqProofs [idA, same_self]
    refine txid_ev (t := t) ?_
    simp -implicitDefEqProofs [idA, same_self]
    have hsp : ∀ e, spOf (makeD (insN D1 t n i) t.id (t.r, ni)) e = spOf (insN D1 t n i) e := fun e => by unfold makeD spOf; simp only; rw [(touchD_sp _ _ _).1]
    have hnsp : (makeD (insN D1 t n i) t.id (t.r, ni)).nsp = (insN D1 t n i).nsp := (touchD_sp _ _ _).2.1
    refine sadd_ev C2 (k := (t.r, ni)) (x := ((t.clock, t.r, ni), t.id)) (by rw [hsp, r2]; simp) (by rw [hsp, r2]; simp) (by rw [hnsp]; have := R'.nsp; omega) (fun h3 O3 C3 P3 => ?_)
    obtain ⟨col3, spm, dm, lm, fs, fd, fl, rfl, X3⟩ := C3
    have hel : (addD (makeD (insN D1 t n i) t.id (t.r, ni)) (t.r, ni) ((t.clock, t.r, ni), t.id)).elems = (insN D1 t n i).elems := (touchD_sp _ _ _).2.2.1
    obtain ⟨p, sd, m', hr3, X4, P4⟩ := X3.num (addD (makeD (insN D1 t n i) t.id (t.r, ni)) (t.r, ni) ((t.clock, t.r, ni), t.id)).nsp (addD (makeD (insN D1 t n i) t.id (t.r, ni)) (t.r, ni) ((t.clock, t.r, ni), t.id)).clock ((insN D1 t n i).elems + 1)
    rw [hel] at hr3
    have w2 : IntKind.i64.wrap (((insN D1 t n i).elems : Int) + 1) = (((insN D1 t n i).elems + 1 : Nat) : Int) := by have := R'.el; rw [w64 (by omega) (by omega)]; omega
    have R2 := R'.step hlt
    rw [← hni] at R2
    have e5 : insN D1 t n (i + 1) = insStep (insN D1 t n i) t.id (t.clock, t.r, ni) := by rw [hni]; rfl
    simp -implicitDefEqProofs [hr3, w1, w2, same_self]
    exact .mk (m := m - 1) (by omega) (by rw [hI]; exact ⟨i + 1, _, by omega, by rw [e5]; exact ⟨col3, _, _, _, _, _, _, rfl, X4⟩, by rw [e5]; exact R2, ((P'.trans P2).trans P3).trans P4, rfl⟩)
  · have hie : i = tx.length := by omega
    subst hie
    simp -implicitDefEqProofs [hlt]
    have e : insN D1 t n tx.length = insD D t x n tx := by rw [hD1]; rfl
    rw [e] at C'
    exact hq h' O' C' (P1.trans P')
end
end Go.Proofs.YtlhlbamcgopiiaaGreatDoor
