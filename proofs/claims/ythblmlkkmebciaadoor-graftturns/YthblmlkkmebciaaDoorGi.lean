/-
  A part of the proof of GraftTurns, over the seat YthblmlkkmebciaaDoor: for every input the law returns true, and the input reads as it did.
-/
import Derived.Test.YthblmlkkmebciaaDoorGh
import Derived.Test.YthblmlkkmebciaaDoorRows
import Derived.Test.YthblmlkkmebciaaDoorCards
import Derived.Test.YthblmlkkmebciaaDoorTie
import Derived.ProofKit
import Derived.Handed
import Derived.LaidLaws
import Derived.MakeChecks
import Derived.SevenTiedAt
set_option linter.all false
set_option linter.all false
set_option maxRecDepth 100000
set_option maxHeartbeats 4000000
namespace Go.Proofs.YthblmlkkmebciaaDoor
open Go Go.RowKit Go.Proofs
/-! trees of anchors -/
abbrev KeyT := Nat × Nat × Nat
def klt (x y : KeyT) : Prop := x.1 < y.1 ∨ (x.1 = y.1 ∧ (x.2.1 < y.2.1 ∨ (x.2.1 = y.2.1 ∧ x.2.2 < y.2.2)))
instance (x y : KeyT) : Decidable (klt x y) := by unfold klt; infer_instance
theorem klt_irrefl (x : KeyT) : ¬ klt x x := by unfold klt; omega
theorem klt_trans {x y z : KeyT} (h : klt x y) (k : klt y z) : klt x z := by unfold klt at *; omega
theorem klt_asymm {x y : KeyT} (h : klt x y) : ¬ klt y x := by unfold klt at *; omega
theorem klt_total {x y : KeyT} (h : x ≠ y) : klt x y ∨ klt y x := by
  obtain ⟨a, b, c⟩ := x
  obtain ⟨d, e, f⟩ := y
  have : ¬ (a = d ∧ b = e ∧ c = f) := fun ⟨h1, h2, h3⟩ => h (by rw [h1, h2, h3])
  unfold klt; simp only; omega
def AtV.key (a : AtV) : KeyT := (a.clock, a.r, a.n)
abbrev IdT := Nat × Nat
def AtV.id (a : AtV) : IdT := (a.r, a.n)
/-- an atom, and what it is anchored at -/
structure TV where
  a : AtV
  an : IdT
def TV.key (t : TV) : KeyT := t.a.key
def TV.id (t : TV) : IdT := t.a.id
/-- those that are anchored at one, in their order -/
structure Kids (T : List TV) (x : IdT) (ks : List TV) : Prop where
  mem : ∀ t, t ∈ ks ↔ t ∈ T ∧ t.an = x
  ord : ks.Pairwise fun t u => klt u.key t.key
inductive OrdK (T : List TV) : List TV → List AtV → Prop
  | nil : OrdK T [] []
  | cons {c : TV} {cs ks : List TV} {L1 L2 : List AtV} : Kids T c.id ks → OrdK T ks L1 → OrdK T cs L2 → OrdK T (c :: cs) (c.a :: (L1 ++ L2))
theorem Kids.uniq {T : List TV} {x : IdT} {ks ks' : List TV} (h : Kids T x ks) (h' : Kids T x ks') : ks = ks' := by
  have key : ∀ (ks ks' : List TV), ks.Pairwise (fun t u => klt u.key t.key) → ks'.Pairwise (fun t u => klt u.key t.key) → (∀ t, t ∈ ks ↔ t ∈ ks') → ks = ks' := by
    intro ks
    induction ks with
    | nil =>
      intro ks' _ _ hm
      cases ks' with
      | nil => rfl
      | cons a l => have := (hm a).2 (by simp); cases this
    | cons a l ih =>
      intro ks' h1 h2 hm
      cases ks' with
      | nil => have := (hm a).1 (by simp); cases this
      | cons b l' =>
        rw [List.pairwise_cons] at h1 h2
        have hab : a = b := by
          rcases List.mem_cons.1 ((hm a).1 (by simp)) with e | e
          · exact e
          · rcases List.mem_cons.1 ((hm b).2 (by simp)) with e2 | e2
            · exact e2.symm
            · exact (klt_asymm (h1.1 b e2) (h2.1 a e)).elim
        subst hab
        congr 1
        refine ih l' h1.2 h2.2 (fun t => ?_)
        constructor
        · intro ht
          rcases List.mem_cons.1 ((hm t).1 (by simp [ht])) with e | e
          · subst e; exact (klt_irrefl _ (h1.1 _ ht)).elim
          · exact e
        · intro ht
          rcases List.mem_cons.1 ((hm t).2 (by simp [ht])) with e | e
          · subst e; exact (klt_irrefl _ (h2.1 _ ht)).elim
          · exact e
  exact key ks ks' h.ord h'.ord (fun t => by rw [h.mem, h'.mem])
theorem Kids.same {T T' : List TV} (e : ∀ t, t ∈ T ↔ t ∈ T') {x : IdT} {ks : List TV} (h : Kids T x ks) : Kids T' x ks := ⟨fun t => by rw [h.mem, e], h.ord⟩
theorem OrdK.same {T T' : List TV} (e : ∀ t, t ∈ T ↔ t ∈ T') {ks : List TV} {L : List AtV} (h : OrdK T ks L) : OrdK T' ks L := by
  induction h with
  | nil => exact .nil
  | cons hk _ _ ih1 ih2 => exact .cons (hk.same e) ih1 ih2
theorem OrdK.uniq {T : List TV} {ks : List TV} {L L' : List AtV} (h : OrdK T ks L) (h' : OrdK T ks L') : L = L' := by
  induction h generalizing L' with
  | nil => cases h'; rfl
  | cons hk h1 h2 ih1 ih2 =>
    cases h' with
    | cons hk' h1' h2' =>
      have := hk.uniq hk'
      subst this
      rw [ih1 h1', ih2 h2']
theorem OrdK.append {T : List TV} {ks ks' : List TV} {L L' : List AtV} (h : OrdK T ks L) (h' : OrdK T ks' L') : OrdK T (ks ++ ks') (L ++ L') := by
  induction h with
  | nil => exact h'
  | cons hk h1 h2 ih1 ih2 =>
    have := OrdK.cons hk h1 ih2
    simpa using this
theorem OrdK.split {T : List TV} : ∀ {ks ks' : List TV} {L : List AtV}, OrdK T (ks ++ ks') L → ∃ L1 L2, L = L1 ++ L2 ∧ OrdK T ks L1 ∧ OrdK T ks' L2
  | [], ks', L, h => ⟨[], L, rfl, .nil, h⟩
  | c :: ks, ks', L, h => by
    cases h with
    | cons hk h1 h2 =>
      obtain ⟨M1, M2, rfl, g1, g2⟩ := OrdK.split h2
      exact ⟨_, M2, by simp, .cons hk h1 g1, g2⟩
/-- each is anchored at the root, or at one with a lesser key -/
structure Tree (T : List TV) : Prop where
  names : ∀ t ∈ T, ∀ u ∈ T, t.id = u.id → t = u
  up : ∀ t ∈ T, t.an = (0, 0) ∨ ∃ u ∈ T, u.id = t.an ∧ klt u.key t.key
  noroot : ∀ t ∈ T, t.id ≠ (0, 0)
/-- all below a place have greater keys -/
theorem OrdK.low {T : List TV} (V : Tree T) {ks : List TV} {L : List AtV} (h : OrdK T ks L) (hT : ∀ c ∈ ks, c ∈ T) : ∀ x ∈ L, ∃ c ∈ ks, c.key = x.key ∨ klt c.key x.key := by
  induction h with
  | nil => intro x hx; cases hx
  | @cons c cs ks L1 L2 hk h1 h2 ih1 ih2 =>
    intro x hx
    rcases List.mem_cons.1 hx with rfl | hx
    · exact ⟨c, by simp, .inl rfl⟩
    · rcases List.mem_append.1 hx with hx | hx
      · obtain ⟨d, hd, hdk⟩ := ih1 (fun d hd => ((hk.mem d).1 hd).1) x hx
        have hdT := (hk.mem d).1 hd
        refine ⟨c, by simp, .inr ?_⟩
        have hcd : klt c.key d.key := by
          rcases V.up d hdT.1 with e | ⟨u, hu, e1, e2⟩
          · rw [hdT.2] at e; exact (V.noroot c (hT c (by simp)) e).elim
          · have := V.names u hu c (hT c (by simp)) (by rw [e1, hdT.2])
            rw [← this]; exact e2
        rcases hdk with e | e
        · rw [← e]; exact hcd
        · exact klt_trans hcd e
      · obtain ⟨d, hd, hdk⟩ := ih2 (fun d hd => hT d (by simp [hd])) x hx
        exact ⟨d, by simp [hd], hdk⟩
/-- what has nothing to do with a new one stays -/
theorem OrdK.away {T : List TV} {n : TV} {ks : List TV} {L : List AtV} (h : OrdK T ks L) (hn : ∀ x ∈ L, x.id ≠ n.an) : OrdK (T ++ [n]) ks L := by
  induction h with
  | nil => exact .nil
  | @cons c cs ks L1 L2 hk h1 h2 ih1 ih2 =>
    refine .cons ⟨fun t => ?_, hk.ord⟩ (ih1 (fun x hx => hn x (by simp [hx]))) (ih2 (fun x hx => hn x (by simp [hx])))
    rw [hk.mem, List.mem_append, List.mem_singleton]
    constructor
    · rintro ⟨h1, h2⟩; exact ⟨.inl h1, h2⟩
    · rintro ⟨h1 | rfl, h2⟩
      · exact ⟨h1, h2⟩
      · exact (hn c.a (by simp) h2.symm).elim
/-- where one comes among others -/
def insK (n : AtV) (Y : List AtV) : List AtV := Y.takeWhile (fun x => decide (klt n.key x.key)) ++ n :: Y.dropWhile (fun x => decide (klt n.key x.key))
theorem insK_split {n : AtV} {H R : List AtV} (h1 : ∀ x ∈ H, klt n.key x.key) (h2 : ∀ x l, R = x :: l → ¬ klt n.key x.key) : insK n (H ++ R) = H ++ n :: R := by
  unfold insK
  induction H with
  | nil =>
    cases R with
    | nil => rfl
    | cons x l => simp [h2 x l rfl]
  | cons x H ih =>
    have := ih (fun y hy => h1 y (by simp [hy]))
    simp only [List.cons_append, List.takeWhile_cons, List.dropWhile_cons, h1 x (by simp), decide_true, if_true] at this ⊢
    rw [this]
/-- a sorted row, parted at a key -/
theorem kids_part {n : TV} : ∀ {ks : List TV}, ks.Pairwise (fun t u => klt u.key t.key) → (∀ t ∈ ks, t.key ≠ n.key) → ∃ hi lo, ks = hi ++ lo ∧ (∀ t ∈ hi, klt n.key t.key) ∧ (∀ t ∈ lo, klt t.key n.key)
  | [], _, _ => ⟨[], [], rfl, fun t h => (by cases h), fun t h => (by cases h)⟩
  | a :: ks, h, hn => by
    rw [List.pairwise_cons] at h
    rcases klt_total (hn a (by simp)) with e | e
    · refine ⟨[], a :: ks, rfl, fun t h => (by cases h), fun t ht => ?_⟩
      rcases List.mem_cons.1 ht with rfl | ht
      · exact e
      · exact klt_trans (h.1 t ht) e
    · obtain ⟨hi, lo, rfl, g1, g2⟩ := kids_part h.2 (fun t ht => hn t (by simp [ht]))
      refine ⟨a :: hi, lo, rfl, fun t ht => ?_, g2⟩
      rcases List.mem_cons.1 ht with rfl | ht
      · exact e
      · exact g1 t ht
theorem OrdK.head {T : List TV} {ks : List TV} {L : List AtV} (h : OrdK T ks L) : ∀ x l, L = x :: l → ∃ c cs, ks = c :: cs ∧ c.a = x := by
  intro x l e
  cases h with
  | nil => cases e
  | cons hk h1 h2 => cases e; exact ⟨_, _, rfl, rfl⟩
/-- a new one, anchored at the one whose kids these are -/
theorem OrdK.kid {T : List TV} (V : Tree T) {n : TV} {x : IdT} {ks : List TV} {L : List AtV} (hk : Kids T x ks) (h : OrdK T ks L) (hx : n.an = x) (hne : ∀ t ∈ T, t.key ≠ n.key) (hnm : ∀ t ∈ T, t.an ≠ n.id) (hnn : n.an ≠ n.id) (haway : ∀ y ∈ L, y.id ≠ n.an) :
    ∃ ks' H R, Kids (T ++ [n]) x ks' ∧ L = H ++ R ∧ OrdK (T ++ [n]) ks' (H ++ n.a :: R) ∧ (∀ y ∈ H, klt n.key y.key) ∧ ∀ y l, R = y :: l → ¬ klt n.key y.key := by
  obtain ⟨hi, lo, rfl, g1, g2⟩ := kids_part hk.ord (fun t ht => hne t ((hk.mem t).1 ht).1)
  obtain ⟨H, R, rfl, o1, o2⟩ := OrdK.split h
  refine ⟨hi ++ n :: lo, H, R, ⟨fun t => ?_, ?_⟩, rfl, ?_, fun y hy => ?_, fun y l e => ?_⟩
  · have := hk.mem t
    simp only [List.mem_append, List.mem_cons, List.mem_singleton, List.not_mem_nil, or_false] at this ⊢
    constructor
    · rintro (h1 | rfl | h1)
      · have := this.1 (.inl h1); exact ⟨.inl this.1, this.2⟩
      · exact ⟨.inr rfl, hx⟩
      · have := this.1 (.inr h1); exact ⟨.inl this.1, this.2⟩
    · rintro ⟨h1 | rfl, h2⟩
      · rcases this.2 ⟨h1, h2⟩ with h3 | h3
        · exact .inl h3
        · exact .inr (.inr h3)
      · exact .inr (.inl rfl)
  · have ho := hk.ord
    rw [List.pairwise_append] at ho ⊢
    rw [List.pairwise_cons]
    refine ⟨ho.1, ⟨fun t ht => g2 t ht, ho.2.1⟩, fun t ht u hu => ?_⟩
    rcases List.mem_cons.1 hu with rfl | hu
    · exact g1 t ht
    · exact ho.2.2 t ht u hu
  · refine OrdK.append (o1.away (fun y hy => haway y (by simp [hy]))) ?_
    have := OrdK.cons (T := T ++ [n]) (c := n) (ks := []) (L1 := []) ⟨fun t => ?_, List.Pairwise.nil⟩ .nil (o2.away (n := n) (fun y hy => haway y (by simp [hy])))
    · exact this
    · simp only [List.not_mem_nil, List.mem_append, List.mem_singleton, false_iff, not_and]
      rintro (h1 | rfl) h2
      · exact hnm t h1 h2
      · exact hnn h2
  · obtain ⟨c, hc, e⟩ := o1.low V (fun c hc => ((hk.mem c).1 (by simp [hc])).1) y hy
    have := g1 c hc
    rcases e with e | e
    · rw [← e]; exact this
    · exact klt_trans this e
  · obtain ⟨c, cs, rfl, e2⟩ := o2.head y l e
    have := g2 c (by simp)
    rw [← e2]
    exact klt_asymm this
/-- a new one among others, anchored at one of them -/
theorem OrdK.ins {T : List TV} (V : Tree T) {n : TV} (hne : ∀ t ∈ T, t.key ≠ n.key) (hnm : ∀ t ∈ T, t.an ≠ n.id) (hnn : n.an ≠ n.id) {ks : List TV} {L : List AtV} (h : OrdK T ks L) (hT : ∀ c ∈ ks, c ∈ T) (hord : ks.Pairwise fun t u => klt u.key t.key) (hd : (L.map AtV.id).Nodup) :
    ∀ X a Y, L = X ++ a :: Y → a.id = n.an → klt a.key n.key → ∃ H R, Y = H ++ R ∧ OrdK (T ++ [n]) ks (X ++ a :: (H ++ n.a :: R)) ∧ (∀ y ∈ H, klt n.key y.key) ∧ ∀ y l, R = y :: l → ¬ klt n.key y.key := by
  induction h with
  | nil => intro X a Y e; cases X <;> cases e
  | @cons c cs ks L1 L2 hk h1 h2 ih1 ih2 =>
    intro X a Y e hid hlt
    rw [List.pairwise_cons] at hord
    have hd' := hd
    rw [List.map_cons, List.map_append, List.nodup_cons, List.nodup_append] at hd
    obtain ⟨d1, d2, d3, d4⟩ := hd
    have hcT := hT c (by simp)
    have hkT : ∀ d ∈ ks, d ∈ T := fun d hd => ((hk.mem d).1 hd).1
    -- what stands behind this tree has a lesser key
    have after : ∀ y l, L2 = y :: l → klt y.key c.key := fun y l e => by
      obtain ⟨d, ds, rfl, e2⟩ := h2.head y l e
      rw [← e2]; exact hord.1 d (by simp)
    -- the keys of this tree
    have lowc : ∀ y ∈ L1, klt c.key y.key := fun y hy => by
      obtain ⟨d, hd, hdk⟩ := h1.low V hkT y hy
      have hdT := (hk.mem d).1 hd
      have hcd : klt c.key d.key := by
        rcases V.up d hdT.1 with e | ⟨u, hu, e1, e2⟩
        · rw [hdT.2] at e; exact (V.noroot c hcT e).elim
        · have := V.names u hu c hcT (by rw [e1, hdT.2])
          rw [← this]; exact e2
      rcases hdk with e | e
      · rw [← e]; exact hcd
      · exact klt_trans hcd e
    -- a tree that is changed, and what stands behind it
    have glue : ∀ (Y1 H R : List AtV), Y1 = H ++ R → (∀ y ∈ H, klt n.key y.key) → (∀ y l, R = y :: l → ¬ klt n.key y.key) → (klt c.key n.key) → ∃ H' R', Y1 ++ L2 = H' ++ R' ∧ H ++ n.a :: R ++ L2 = H' ++ n.a :: R' ∧ (∀ y ∈ H', klt n.key y.key) ∧ ∀ y l, R' = y :: l → ¬ klt n.key y.key := by
      intro Y1 H R e1 g1 g2 g3
      refine ⟨H, R ++ L2, by rw [e1]; simp, by simp, g1, fun y l e => ?_⟩
      cases R with
      | nil => exact klt_asymm (klt_trans (after y l e) g3)
      | cons z R => cases e; exact g2 _ _ rfl
    cases X with
    | nil =>
      simp only [List.nil_append, List.cons.injEq] at e
      obtain ⟨rfl, rfl⟩ := e
      have haw1 : ∀ y ∈ L1, y.id ≠ n.an := fun y hy e => d1 (by rw [List.mem_append]; left; rw [hid, ← e]; exact List.mem_map.2 ⟨y, hy, rfl⟩)
      have haw2 : ∀ y ∈ L2, y.id ≠ n.an := fun y hy e => d1 (by rw [List.mem_append]; right; rw [hid, ← e]; exact List.mem_map.2 ⟨y, hy, rfl⟩)
      obtain ⟨ks', H, R, k1, k2, k3, k4, k5⟩ := OrdK.kid V hk h1 hid.symm hne hnm hnn haw1
      obtain ⟨H', R', q1, q2, q3, q4⟩ := glue L1 H R k2 k4 k5 hlt
      refine ⟨H', R', q1, ?_, q3, q4⟩
      have := OrdK.cons (T := T ++ [n]) k1 k3 (h2.away haw2)
      rw [q2] at this
      simpa using this
    | cons b X =>
      simp only [List.cons_append, List.cons.injEq] at e
      obtain ⟨rfl, e⟩ := e
      have hca : c.id ≠ n.an := fun e2 => by
        apply d1
        rw [List.mem_append]
        have hm : a ∈ L1 ++ L2 := by rw [e]; simp
        have h3 : c.a.id = a.id := by rw [hid]; exact e2
        rw [h3]
        rcases List.mem_append.1 hm with h4 | h4
        · exact .inl (List.mem_map.2 ⟨a, h4, rfl⟩)
        · exact .inr (List.mem_map.2 ⟨a, h4, rfl⟩)
      have hk' : Kids (T ++ [n]) c.id ks := ⟨fun t => by
        rw [hk.mem, List.mem_append, List.mem_singleton]
        constructor
        · rintro ⟨h1, h2⟩; exact ⟨.inl h1, h2⟩
        · rintro ⟨h1 | rfl, h2⟩
          · exact ⟨h1, h2⟩
          · exact (hca h2.symm).elim, hk.ord⟩
      rw [List.append_eq_append_iff] at e
      rcases e with ⟨us, e1, e2⟩ | ⟨bs, e1, e2⟩
      · -- in what stands behind
        have hin : a ∈ L2 := by rw [e2]; simp
        have haw1 : ∀ y ∈ L1, y.id ≠ n.an := fun y hy e3 => d4 y.id (List.mem_map.2 ⟨y, hy, rfl⟩) a.id (List.mem_map.2 ⟨a, hin, rfl⟩) (by rw [e3, hid])
        obtain ⟨H, R, k1, k2, k3, k4⟩ := ih2 (fun d hd => hT d (by simp [hd])) hord.2 d3 us a Y e2 hid hlt
        refine ⟨H, R, k1, ?_, k3, k4⟩
        have := OrdK.cons hk' (h1.away haw1) k2
        rw [e1]
        simpa using this
      · -- in this tree, or right behind it
        cases bs with
        | nil =>
          simp only [List.append_nil, List.nil_append] at e1 e2
          have hin : a ∈ L2 := by rw [← e2]; simp
          have haw1 : ∀ y ∈ L1, y.id ≠ n.an := fun y hy e3 => d4 y.id (List.mem_map.2 ⟨y, hy, rfl⟩) a.id (List.mem_map.2 ⟨a, hin, rfl⟩) (by rw [e3, hid])
          obtain ⟨H, R, k1, k2, k3, k4⟩ := ih2 (fun d hd => hT d (by simp [hd])) hord.2 d3 [] a Y (by rw [← e2]; rfl) hid hlt
          refine ⟨H, R, k1, ?_, k3, k4⟩
          have := OrdK.cons hk' (h1.away haw1) k2
          rw [← e1]
          simpa using this
        | cons z bs =>
          simp only [List.cons_append, List.cons.injEq] at e2
          obtain ⟨rfl, e2⟩ := e2
          have hin : a ∈ L1 := by rw [e1]; simp
          have haw2 : ∀ y ∈ L2, y.id ≠ n.an := fun y hy e3 => d4 a.id (List.mem_map.2 ⟨a, hin, rfl⟩) y.id (List.mem_map.2 ⟨y, hy, rfl⟩) (by rw [e3, hid])
          obtain ⟨H, R, k1, k2, k3, k4⟩ := ih1 hkT hk.ord d2 X a bs e1 hid hlt
          obtain ⟨H', R', q1, q2, q3, q4⟩ := glue bs H R k1 k3 k4 (klt_trans (lowc a hin) hlt)
          refine ⟨H', R', by rw [e2, q1], ?_, q3, q4⟩
          have := OrdK.cons hk' k2 (h2.away haw2)
          have e5 : X ++ a :: (H ++ n.a :: R) ++ L2 = X ++ a :: (H' ++ n.a :: R') := by rw [← q2]; simp
          rw [e5] at this
          simpa using this
/-- a row that has grown out of a tree -/
structure Grown (T : List TV) (A : List AtV) : Prop where
  tree : Tree T
  ord : ∃ ks, Kids T (0, 0) ks ∧ OrdK T ks A
  mem : ∀ x, x ∈ A ↔ ∃ t ∈ T, t.a = x
  nd : (A.map AtV.id).Nodup
theorem Grown.nil : Grown [] [] := ⟨⟨fun t h => (by cases h), fun t h => (by cases h), fun t h => (by cases h)⟩, ⟨[], ⟨fun t => by simp, List.Pairwise.nil⟩, .nil⟩, fun x => by simp, List.nodup_nil⟩
/-- behind how many an anchor is -/
def posT (A : List AtV) (x : IdT) (p : Nat) : Prop := (x = (0, 0) ∧ p = 0) ∨ ∃ i a, A[i]? = some a ∧ a.id = x ∧ p = i + 1
theorem key_of_id {a b : AtV} (h : a.id ≠ b.id) : a.key ≠ b.key := by
  intro e
  unfold AtV.key at e
  unfold AtV.id at h
  simp only [Prod.mk.injEq] at e
  exact h (by rw [e.2.1, e.2.2])
theorem Grown.add {T : List TV} {A : List AtV} (G : Grown T A) {n : TV} {p : Nat} (hp : posT A n.an p) (hup : n.an = (0, 0) ∨ ∃ u ∈ T, u.id = n.an ∧ klt u.key n.key) (hfr : ∀ t ∈ T, t.id ≠ n.id) (h0 : n.id ≠ (0, 0)) :
    ∃ H R, A.drop p = H ++ R ∧ Grown (T ++ [n]) (A.take p ++ (H ++ n.a :: R)) ∧ (∀ y ∈ H, klt n.key y.key) ∧ ∀ y l, R = y :: l → ¬ klt n.key y.key := by
  have hne : ∀ t ∈ T, t.key ≠ n.key := fun t ht => key_of_id (hfr t ht)
  have hnm : ∀ t ∈ T, t.an ≠ n.id := fun t ht e => by
    rcases G.tree.up t ht with e2 | ⟨u, hu, e2, _⟩
    · exact h0 (by rw [← e, e2])
    · exact hfr u hu (by rw [e2, e])
  have hnn : n.an ≠ n.id := fun e => by
    rcases hup with e2 | ⟨u, hu, e2, _⟩
    · exact h0 (by rw [← e, e2])
    · exact hfr u hu (by rw [e2, e])
  have tree' : Tree (T ++ [n]) := by
    refine ⟨fun t ht u hu e => ?_, fun t ht => ?_, fun t ht => ?_⟩
    · rcases List.mem_append.1 ht with h1 | h1 <;> rcases List.mem_append.1 hu with h2 | h2
      · exact G.tree.names t h1 u h2 e
      · rw [List.mem_singleton] at h2; subst h2; exact (hfr t h1 e).elim
      · rw [List.mem_singleton] at h1; subst h1; exact (hfr u h2 e.symm).elim
      · rw [List.mem_singleton] at h1 h2; rw [h1, h2]
    · rcases List.mem_append.1 ht with h1 | h1
      · rcases G.tree.up t h1 with e2 | ⟨u, hu, e2, e3⟩
        · exact .inl e2
        · exact .inr ⟨u, by simp [hu], e2, e3⟩
      · rw [List.mem_singleton] at h1; subst h1
        rcases hup with e2 | ⟨u, hu, e2, e3⟩
        · exact .inl e2
        · exact .inr ⟨u, by simp [hu], e2, e3⟩
    · rcases List.mem_append.1 ht with h1 | h1
      · exact G.tree.noroot t h1
      · rw [List.mem_singleton] at h1; subst h1; exact h0
  have hfa : ∀ y ∈ A, y.id ≠ n.id := fun y hy => by
    obtain ⟨t, ht, rfl⟩ := (G.mem y).1 hy; exact hfr t ht
  -- what both cases have in common
  have fin : ∀ (B H R : List AtV), A = B ++ (H ++ R) → (∃ ks, Kids (T ++ [n]) (0, 0) ks ∧ OrdK (T ++ [n]) ks (B ++ (H ++ n.a :: R))) → Grown (T ++ [n]) (B ++ (H ++ n.a :: R)) := by
    intro B H R e ho
    have hnd := G.nd
    rw [e] at hnd
    refine ⟨tree', ho, fun x => ?_, ?_⟩
    · have := G.mem x
      rw [e] at this
      simp only [List.mem_append, List.mem_cons, List.mem_singleton] at this ⊢
      constructor
      · rintro (h | h | h | h)
        · obtain ⟨t, ht, e2⟩ := this.1 (.inl h); exact ⟨t, .inl ht, e2⟩
        · obtain ⟨t, ht, e2⟩ := this.1 (.inr (.inl h)); exact ⟨t, .inl ht, e2⟩
        · exact ⟨n, .inr (.inl rfl), h.symm⟩
        · obtain ⟨t, ht, e2⟩ := this.1 (.inr (.inr h)); exact ⟨t, .inl ht, e2⟩
      · rintro ⟨t, h | h, e2⟩
        · rcases this.2 ⟨t, h, e2⟩ with h | h | h
          · exact .inl h
          · exact .inr (.inl h)
          · exact .inr (.inr (.inr h))
        · rcases h with h | h
          · subst h; exact .inr (.inr (.inl e2.symm))
          · cases h
    · have hfb : ∀ y ∈ B ++ (H ++ R), y.id ≠ n.id := by rw [← e]; exact hfa
      rw [← List.append_assoc, List.map_append, List.map_cons, List.nodup_append, List.nodup_cons]
      rw [← List.append_assoc, List.map_append, List.nodup_append] at hnd
      refine ⟨hnd.1, ⟨fun hm => ?_, hnd.2.1⟩, fun x hx y hy => ?_⟩
      · obtain ⟨y, hy, e2⟩ := List.mem_map.1 hm
        exact hfb y (by simp [hy]) e2
      · rcases List.mem_cons.1 hy with rfl | hy
        · obtain ⟨z, hz, rfl⟩ := List.mem_map.1 hx
          exact hfb z (by rcases List.mem_append.1 hz with h | h <;> simp [h])
        · exact hnd.2.2 x hx y hy
  obtain ⟨ks, hk, ho⟩ := G.ord
  have hkT : ∀ d ∈ ks, d ∈ T := fun d hd => ((hk.mem d).1 hd).1
  rcases hp with ⟨e1, rfl⟩ | ⟨i, a, ha, hid, rfl⟩
  · have haw : ∀ y ∈ A, y.id ≠ n.an := fun y hy => by
      obtain ⟨t, ht, rfl⟩ := (G.mem y).1 hy
      rw [e1]; exact G.tree.noroot t ht
    obtain ⟨ks', H, R, k1, k2, k3, k4, k5⟩ := OrdK.kid G.tree hk ho e1 hne hnm hnn haw
    exact ⟨H, R, by rw [List.drop_zero]; exact k2, by rw [List.take_zero]; exact fin [] H R k2 ⟨ks', k1, k3⟩, k4, k5⟩
  · have hsplit : A = A.take i ++ a :: A.drop (i + 1) := by
      obtain ⟨l, e⟩ := List.getElem?_eq_some_iff.1 ha
      rw [← e, ← List.drop_eq_getElem_cons l]
      exact (List.take_append_drop i A).symm
    have hlt : klt a.key n.key := by
      have hm : a ∈ A := List.mem_of_getElem? ha
      obtain ⟨t, ht, e⟩ := (G.mem a).1 hm
      rcases hup with e2 | ⟨u, hu, e2, e3⟩
      · exact (G.tree.noroot t ht (by unfold TV.id; rw [e, hid, e2])).elim
      · have := G.tree.names t ht u hu (by unfold TV.id at e2 ⊢; rw [e, hid, e2])
        rw [← e]; rw [← this] at e3; exact e3
    obtain ⟨H, R, k1, k2, k3, k4⟩ := OrdK.ins G.tree hne hnm hnn ho hkT hk.ord G.nd _ a _ hsplit hid hlt
    have ht1 : A.take (i + 1) = A.take i ++ [a] := by
      obtain ⟨l, e⟩ := List.getElem?_eq_some_iff.1 ha
      rw [List.take_succ_eq_append_getElem l, e]
    refine ⟨H, R, k1, ?_, k3, k4⟩
    rw [ht1]
    have hk' : Kids (T ++ [n]) (0, 0) ks := ⟨fun t => by
      rw [hk.mem, List.mem_append, List.mem_singleton]
      constructor
      · rintro ⟨h1, h2⟩; exact ⟨.inl h1, h2⟩
      · rintro ⟨h1 | rfl, h2⟩
        · exact ⟨h1, h2⟩
        · exfalso
          have hm : a ∈ A := List.mem_of_getElem? ha
          obtain ⟨u, hu, e⟩ := (G.mem a).1 hm
          exact G.tree.noroot u hu (by unfold TV.id; rw [e, hid, h2]), hk.ord⟩
    refine fin (A.take i ++ [a]) H R (by rw [← k1, List.append_assoc]; exact hsplit) ⟨ks, hk', ?_⟩
    simpa using k2
/-- atoms, each anchored at the one ahead -/
def tvs : IdT → List AtV → List TV
  | _, [] => []
  | x, b :: bs => ⟨b, x⟩ :: tvs b.id bs
theorem tvs_atoms : ∀ (bs : List AtV) (x : IdT), (tvs x bs).map (·.a) = bs
  | [], _ => rfl
  | b :: bs, x => by simp [tvs, tvs_atoms bs]
/-- atoms in a row: each has a greater key than the one ahead -/
def Row : AtV → List AtV → Prop
  | _, [] => True
  | a, b :: bs => klt a.key b.key ∧ Row b bs
theorem Grown.chain : ∀ (bs : List AtV) {T : List TV} {P R : List AtV} {a : AtV}, Grown T (P ++ a :: R) → Row a bs → (∀ y l, R = y :: l → ¬ klt a.key y.key) → (∀ b ∈ bs, ∀ t ∈ T, t.id ≠ b.id) → (bs.map AtV.id).Nodup → (∀ b ∈ bs, b.id ≠ (0, 0)) → Grown (T ++ tvs a.id bs) (P ++ a :: (bs ++ R))
  | [], T, P, R, a, G, _, _, _, _, _ => by simpa [tvs] using G
  | b :: bs, T, P, R, a, G, hr, hR, hfr, hnd, h0 => by
    have hget : (P ++ a :: R)[P.length]? = some a := by simp
    obtain ⟨u, hu, e⟩ := (G.mem a).1 (by simp)
    obtain ⟨H, R', k1, k2, k3, k4⟩ := G.add (n := ⟨b, a.id⟩) (p := P.length + 1) (.inr ⟨P.length, a, hget, rfl, rfl⟩) (.inr ⟨u, hu, by unfold TV.id; rw [e], by unfold TV.key; rw [e]; exact hr.1⟩) (hfr b (by simp)) (h0 b (by simp))
    have hd : (P ++ a :: R).drop (P.length + 1) = R := by simp
    have htk : (P ++ a :: R).take (P.length + 1) = P ++ [a] := by rw [List.take_length_add_append]; rfl
    rw [hd] at k1
    rw [htk] at k2
    have hH : H = [] := by
      cases H with
      | nil => rfl
      | cons y H =>
        exfalso
        have h1 := k3 y (by simp)
        rw [k1] at hR
        exact hR y _ rfl (klt_trans hr.1 h1)
    subst hH
    simp only [List.nil_append] at k1 k2
    subst k1
    rw [List.map_cons, List.nodup_cons] at hnd
    have ih := Grown.chain bs (T := T ++ [⟨b, a.id⟩]) (P := P ++ [a]) (R := R) (a := b) (by simpa using k2) hr.2 (fun y l e => k4 y l e) (fun c hc t ht => by
      rcases List.mem_append.1 ht with h | h
      · exact hfr c (by simp [hc]) t h
      · rw [List.mem_singleton] at h; subst h
        intro e; exact hnd.1 (List.mem_map.2 ⟨c, hc, e.symm⟩)) hnd.2 (fun c hc => h0 c (by simp [hc]))
    simpa [tvs] using ih
theorem Grown.run {T : List TV} {A : List AtV} (G : Grown T A) {x : IdT} {b : AtV} {bs : List AtV} {p : Nat} (hp : posT A x p) (hup : x = (0, 0) ∨ ∃ u ∈ T, u.id = x ∧ klt u.key b.key) (hr : Row b bs) (hfr : ∀ c ∈ b :: bs, ∀ t ∈ T, t.id ≠ c.id) (hnd : ((b :: bs).map AtV.id).Nodup) (h0 : ∀ c ∈ b :: bs, c.id ≠ (0, 0)) :
    ∃ H R, A.drop p = H ++ R ∧ Grown (T ++ tvs x (b :: bs)) (A.take p ++ (H ++ (b :: bs ++ R))) ∧ (∀ y ∈ H, klt b.key y.key) ∧ ∀ y l, R = y :: l → ¬ klt b.key y.key := by
  obtain ⟨H, R, k1, k2, k3, k4⟩ := G.add (n := ⟨b, x⟩) hp hup (hfr b (by simp)) (h0 b (by simp))
  rw [List.map_cons, List.nodup_cons] at hnd
  have := Grown.chain bs (T := T ++ [⟨b, x⟩]) (P := A.take p ++ H) (R := R) (a := b) (by simpa using k2) hr k4 (fun c hc t ht => by
      rcases List.mem_append.1 ht with h | h
      · exact hfr c (by simp [hc]) t h
      · rw [List.mem_singleton] at h; subst h
        intro e; exact hnd.1 (List.mem_map.2 ⟨c, hc, e.symm⟩)) hnd.2 (fun c hc => h0 c (by simp [hc]))
  exact ⟨H, R, k1, by simpa [tvs] using this, k3, k4⟩
/-- parts of a row at a key are these alone -/
theorem part_uniq {k : KeyT} : ∀ {H R H' R' : List AtV}, H ++ R = H' ++ R' → (∀ y ∈ H, klt k y.key) → (∀ y l, R = y :: l → ¬ klt k y.key) → (∀ y ∈ H', klt k y.key) → (∀ y l, R' = y :: l → ¬ klt k y.key) → H = H' ∧ R = R'
  | [], R, [], R', e, _, _, _, _ => ⟨rfl, e⟩
  | [], R, y :: H', R', e, _, h2, h3, _ => (h2 y _ e (h3 y (by simp))).elim
  | y :: H, R, [], R', e, h1, _, _, h4 => (h4 y _ e.symm (h1 y (by simp))).elim
  | y :: H, R, z :: H', R', e, h1, h2, h3, h4 => by
    simp only [List.cons_append, List.cons.injEq] at e
    obtain ⟨rfl, e⟩ := e
    obtain ⟨rfl, rfl⟩ := part_uniq e (fun y hy => h1 y (by simp [hy])) h2 (fun y hy => h3 y (by simp [hy])) h4
    exact ⟨rfl, rfl⟩
theorem atF_row (c r : Nat) (sh : Bool) : ∀ (s : Str) (n er en : Nat) (b : UInt8), Row ⟨c, r, n, er, en, b, sh⟩ (atF c r sh (n + 1) (er) (en + 1) s)
  | [], _, _, _, _ => trivial
  | d :: s, n, er, en, b => ⟨by unfold klt AtV.key; simp, atF_row c r sh s (n + 1) er (en + 1) d⟩
theorem atF_ids (c r : Nat) (sh : Bool) : ∀ (s : Str) (n er en : Nat), ((atF c r sh n er en s).map AtV.id).Nodup ∧ ∀ x ∈ atF c r sh n er en s, n ≤ x.n
  | [], _, _, _ => ⟨List.nodup_nil, fun x h => (by cases h)⟩
  | d :: s, n, er, en => by
    obtain ⟨h1, h2⟩ := atF_ids c r sh s (n + 1) er (en + 1)
    simp only [atF, List.map_cons, List.nodup_cons]
    refine ⟨⟨fun hm => ?_, h1⟩, fun x hx => ?_⟩
    · obtain ⟨y, hy, e⟩ := List.mem_map.1 hm
      have := h2 y hy
      unfold AtV.id at e
      simp only [Prod.mk.injEq] at e
      omega
    · rcases List.mem_cons.1 hx with rfl | hx
      · exact Nat.le_refl _
      · have := h2 x hx; omega
end Go.Proofs.YthblmlkkmebciaaDoor
set_option linter.all false
set_option maxRecDepth 100000
set_option maxHeartbeats 4000000
namespace Go.Proofs.YthblmlkkmebciaaDoor
open Go Go.RowKit Go.Proofs
section
variable {ro : Nat → Option (List AVal)}
theorem nan_u64_ev {h : AHeap} {a : Nat} {Q : AVal → AHeap → Prop} (hq : Q (.bool false) h) : Ev (cfgR ro) 116 [.int .u64 a] h Q := by
  refine Ev.wp rfl rfl Tryd.func116 rfl ?_
  simp -implicitDefEqProofs [Tryd.f116]
  exact hq
theorem cmp_u64_ev {h : AHeap} {a b : Nat} {Q : AVal → AHeap → Prop} (hq : Q (.int .i64 (cmpN a b)) h) : Ev (cfgR ro) 94 [.int .u64 a, .int .u64 b] h Q := by
  refine Ev.wp rfl rfl Tryd.func94 rfl ?_
  simp -implicitDefEqProofs [Tryd.f94]
  refine nan_u64_ev ?_
  simp -implicitDefEqProofs
  refine nan_u64_ev ?_
  unfold cmpN at hq
  by_cases c1 : a < b
  · rw [if_pos c1] at hq
    simp -implicitDefEqProofs [c1]
    exact hq
  · rw [if_neg c1] at hq
    by_cases c2 : b < a
    · rw [if_pos c2] at hq
      simp -implicitDefEqProofs [c1, c2]
      exact hq
    · rw [if_neg c2] at hq
      simp -implicitDefEqProofs [c1, c2]
      exact hq
theorem nan_u16_ev {h : AHeap} {a : Nat} {Q : AVal → AHeap → Prop} (hq : Q (.bool false) h) : Ev (cfgR ro) 117 [.int .u16 a] h Q := by
  refine Ev.wp rfl rfl Tryd.func117 rfl ?_
  simp -implicitDefEqProofs [Tryd.f117]
  exact hq
theorem cmp_u16_ev {h : AHeap} {a b : Nat} {Q : AVal → AHeap → Prop} (hq : Q (.int .i64 (cmpN a b)) h) : Ev (cfgR ro) 95 [.int .u16 a, .int .u16 b] h Q := by
  refine Ev.wp rfl rfl Tryd.func95 rfl ?_
  simp -implicitDefEqProofs [Tryd.f95]
  refine nan_u16_ev ?_
  simp -implicitDefEqProofs
  refine nan_u16_ev ?_
  unfold cmpN at hq
  by_cases c1 : a < b
  · rw [if_pos c1] at hq
    simp -implicitDefEqProofs [c1]
    exact hq
  · rw [if_neg c1] at hq
    by_cases c2 : b < a
    · rw [if_pos c2] at hq
      simp -implicitDefEqProofs [c1, c2]
      exact hq
    · rw [if_neg c2] at hq
      simp -implicitDefEqProofs [c1, c2]
      exact hq
/-- the first that is not 0 -/
def orI : List Int → Int
  | [] => 0
  | x :: l => if x ≠ 0 then x else orI l
theorem or_ev {h : AHeap} {v : AVal} {l : List Int} (hs : Sl (cfgR ro) h 1 v (l.map fun x => [.int .i64 x])) (hl : l.length < 2 ^ 60) {Q : AVal → AHeap → Prop} (hq : Q (.int .i64 (orI l)) h) : Ev (cfgR ro) 93 [v] h Q := by
  refine Ev.wp rfl rfl Tryd.func93 rfl ?_
  have hL : lenR (cfgR ro) h 74 v = .ok (.int .i64 (l.length : Nat)) := by have := hs.lenR (t := 74) un74; simpa using this
  simp -implicitDefEqProofs [Tryd.f93, hL]
  obtain ⟨I, hI⟩ : ∃ I : Nat → List AVal → AHeap → Prop, I = fun m env h' => h' = h ∧ ∃ i : Nat, i + m = l.length ∧ orI l = orI (l.drop i) ∧
    env = (.dead :: .dead :: .dead :: .int .i64 0 :: .dead :: .dead :: v :: .int .i64 (l.length : Nat) :: .int .i64 (i : Nat) :: .dead :: .dead :: .dead :: .dead :: .dead :: .dead :: .dead :: .dead :: .dead :: []) := ⟨_, rfl⟩
  refine loop_of I ?_ l.length (by rw [hI]; exact ⟨rfl, 0, by omega, rfl, rfl⟩)
  intro m env h' hi
  rw [hI] at hi
  obtain ⟨rfl, i, him, hno, rfl⟩ := hi
  by_cases hlt : i < l.length
  · obtain ⟨x, hx⟩ : ∃ x, l[i]'hlt = x := ⟨_, rfl⟩
    have he : (l.map fun x => [AVal.int .i64 x])[i]? = some [.int .i64 x] := by rw [List.getElem?_map, List.getElem?_eq_getElem hlt, hx]; rfl
    have hix : indexAddrR Tryd.prog 74 v (.int .i64 (i : Nat)) = .ok (elp v 1 i) := hs.idx un74 sz3 (by simpa using hlt)
    have hld : loadR (cfgR ro) h' 3 (elp v 1 i) = .ok (.int .i64 x) := hs.load1 he rfl ag3
    have w1 : IntKind.i64.wrap ((i : Int) + 1) = ((i + 1 : Nat) : Int) := by rw [w64 (by omega) (by omega)]; omega
    have hst : orI (l.drop i) = if x ≠ 0 then x else orI (l.drop (i + 1)) := by rw [List.drop_eq_getElem_cons hlt, hx]; rfl
    by_cases c : x = 0
    · rw [if_neg (fun h => h c)] at hst
      simp -implicitDefEqProofs [hlt, hix, hld, c, w1]
      exact .mk (m := m - 1) (by omega) (by rw [hI]; exact ⟨rfl, i + 1, by omega, hno.trans hst, by simp⟩)
    · rw [if_pos c] at hst
      rw [hno, hst] at hq
      simp -implicitDefEqProofs [hlt, hix, hld, c, w1]
      exact hq
  · have : l.drop i = [] := List.drop_eq_nil_of_le (by omega)
    rw [hno, this] at hq
    simp only [orI] at hq
    simp -implicitDefEqProofs [hlt]
    exact hq
/-- which of two keys is the lesser one -/
def cmpK (x y : KeyT) : Int := orI [cmpN x.1 y.1, cmpN x.2.1 y.2.1, cmpN x.2.2 y.2.2]
theorem cmpN_lt {a b : Nat} (h : a < b) : cmpN a b = -1 := by unfold cmpN; rw [if_pos h]
theorem cmpN_gt {a b : Nat} (h : b < a) : cmpN a b = 1 := by unfold cmpN; rw [if_neg (by omega), if_pos h]
theorem cmpN_eq {a b : Nat} (h : a = b) : cmpN a b = 0 := by unfold cmpN; rw [if_neg (by omega), if_neg (by omega)]
theorem cmpK_cases (x y : KeyT) : (cmpK x y = -1 ∧ klt x y ∧ ¬ klt y x) ∨ (cmpK x y = 1 ∧ klt y x ∧ ¬ klt x y) ∨ (cmpK x y = 0 ∧ ¬ klt x y ∧ ¬ klt y x) := by
  unfold cmpK klt
  rcases Nat.lt_trichotomy x.1 y.1 with h | h | h
  · left; rw [cmpN_lt h]; exact ⟨rfl, by omega, by omega⟩
  · rw [cmpN_eq h]
    rcases Nat.lt_trichotomy x.2.1 y.2.1 with h2 | h2 | h2
    · left; rw [cmpN_lt h2]; exact ⟨rfl, by omega, by omega⟩
    · rw [cmpN_eq h2]
      rcases Nat.lt_trichotomy x.2.2 y.2.2 with h3 | h3 | h3
      · left; rw [cmpN_lt h3]; exact ⟨rfl, by omega, by omega⟩
      · right; right; rw [cmpN_eq h3]; exact ⟨rfl, by omega, by omega⟩
      · right; left; rw [cmpN_gt h3]; exact ⟨rfl, by omega, by omega⟩
    · right; left; rw [cmpN_gt h2]; exact ⟨rfl, by omega, by omega⟩
  · right; left; rw [cmpN_gt h]; exact ⟨rfl, by omega, by omega⟩
theorem cmpK_lt (x y : KeyT) : cmpK x y < 0 ↔ klt x y := by
  rcases cmpK_cases x y with ⟨a, b, c⟩ | ⟨a, b, c⟩ | ⟨a, b, c⟩ <;> rw [a]
  · exact ⟨fun _ => b, fun _ => by decide⟩
  · exact ⟨fun h => absurd h (by decide), fun h => (c h).elim⟩
  · exact ⟨fun h => absurd h (by decide), fun h => (b h).elim⟩
theorem cmpK_gt (x y : KeyT) : 0 < cmpK x y ↔ klt y x := by
  rcases cmpK_cases x y with ⟨a, b, c⟩ | ⟨a, b, c⟩ | ⟨a, b, c⟩ <;> rw [a]
  · exact ⟨fun h => absurd h (by decide), fun h => (c h).elim⟩
  · exact ⟨fun _ => b, fun _ => by decide⟩
  · exact ⟨fun h => absurd h (by decide), fun h => (c h).elim⟩
theorem keyCmp_ev {h : AHeap} {c r n c' r' n' : Nat} {Q : AVal → AHeap → Prop} (hq : ∀ h', Old h h' → Q (.int .i64 (cmpK (c, r, n) (c', r', n'))) h') : Ev (cfgR ro) 59 [keyA c r n, keyA c' r' n'] h Q := by
  refine Ev.wp rfl rfl Tryd.func59 rfl ?_
  simp -implicitDefEqProofs [Tryd.f59, keyA]
  refine cmp_u64_ev ?_
  simp -implicitDefEqProofs [same_self]
  refine cmp_u16_ev ?_
  simp -implicitDefEqProofs [same_self]
  refine cmp32_ev ?_
  have o1 : Old h (h.push (.row 1 false [.int .i64 (cmpN c c'), .int .i64 (cmpN r r'), .int .i64 (cmpN n n')])) := (Old.refl h).push _
  have hsl : Sl (cfgR ro) (h.push (.row 1 false [.int .i64 (cmpN c c'), .int .i64 (cmpN r r'), .int .i64 (cmpN n n')])) 1 (.sl h.next 0 3) ([cmpN c c', cmpN r r', cmpN n n'].map fun x => [.int .i64 x]) :=
    Mine.sl (h0 := h) ⟨by simp, .inr ⟨h.next, false, rfl, Nat.le_refl _, by simp, by rw [get_push_next]; rfl⟩⟩
  simp -implicitDefEqProofs [same_self, buildSliceR, reps]
  refine or_ev hsl (by simp) ?_
  have hq := hq _ o1
  unfold cmpK at hq
  simp -implicitDefEqProofs [same_self]
  exact hq
theorem keyLess_ev {h : AHeap} {c r n c' r' n' : Nat} {Q : AVal → AHeap → Prop} (hq : Q (.bool (decide (klt (c, r, n) (c', r', n')))) h) : Ev (cfgR ro) 65 [keyA c r n, keyA c' r' n'] h Q := by
  refine Ev.wp rfl rfl Tryd.func65 rfl ?_
  have fin : ∀ x : Bool, (x = true ↔ klt (c, r, n) (c', r', n')) → Q (.bool x) h := fun x hx => by
    have : decide (klt (c, r, n) (c', r', n')) = x := by
      cases x with
      | true => exact decide_eq_true (hx.1 rfl)
      | false => exact decide_eq_false (fun hh => by have := hx.2 hh; cases this)
    rw [this] at hq; exact hq
  unfold klt at fin
  simp only at fin
  by_cases c1 : c = c'
  · by_cases c2 : r < r'
    · have d2 : decide ((r : Int) < (r' : Int)) = true := decide_eq_true (by omega)
      simp -implicitDefEqProofs [Tryd.f65, keyA, c1, c2, d2]
      exact fin true ⟨fun _ => by omega, fun _ => rfl⟩
    · have d2 : decide ((r : Int) < (r' : Int)) = false := decide_eq_false (by omega)
      by_cases c3 : r = r'
      · by_cases c4 : n < n'
        · have d4 : decide ((n : Int) < (n' : Int)) = true := decide_eq_true (by omega)
          simp -implicitDefEqProofs [Tryd.f65, keyA, c1, c2, d2, c3, c4, d4]
          exact fin true ⟨fun _ => by omega, fun _ => rfl⟩
        · have d4 : decide ((n : Int) < (n' : Int)) = false := decide_eq_false (by omega)
          simp -implicitDefEqProofs [Tryd.f65, keyA, c1, c2, d2, c3, c4, d4]
          exact fin false ⟨fun e => (nomatch e), fun hh => by omega⟩
      · have d3 : ¬ ((r : Int) = (r' : Int)) := by omega
        simp -implicitDefEqProofs [Tryd.f65, keyA, c1, c2, d2, c3, d3]
        exact fin false ⟨fun e => (nomatch e), fun hh => by omega⟩
  · have d1 : ¬ ((c : Int) = (c' : Int)) := by omega
    by_cases c2 : c < c'
    · have d2 : decide ((c : Int) < (c' : Int)) = true := decide_eq_true (by omega)
      simp -implicitDefEqProofs [Tryd.f65, keyA, c1, d1, c2, d2]
      exact fin true ⟨fun _ => by omega, fun _ => rfl⟩
    · have d2 : decide ((c : Int) < (c' : Int)) = false := decide_eq_false (by omega)
      simp -implicitDefEqProofs [Tryd.f65, keyA, c1, d1, c2, d2]
      exact fin false ⟨fun e => (nomatch e), fun hh => by omega⟩
end
end Go.Proofs.YthblmlkkmebciaaDoor
set_option linter.all false
set_option maxRecDepth 100000
set_option maxHeartbeats 4000000
namespace Go.Proofs.YthblmlkkmebciaaDoor
open Go Go.RowKit Go.Proofs
def TV.cells (t : TV) : List AVal := t.a.cells ++ [.int .u16 t.an.1, .int .u32 t.an.2]
theorem TV.cells_eq (t : TV) : t.cells = [.int .u64 t.a.clock, .int .u16 t.a.r, .int .u32 t.a.n, .int .u16 t.a.er, .int .u32 t.a.en, .int .u8 t.a.b.toNat, .bool t.a.shown, .int .u16 t.an.1, .int .u32 t.an.2] := rfl
theorem takeR_sub {vs e : List AVal} {f n d k : Nat} (h : takeR vs f n = .ok e) (hk : d + k ≤ n) : takeR vs (f + d) k = .ok ((e.drop d).take k) := by
  unfold takeR at h ⊢
  split at h
  · injection h with h
    subst h
    rw [if_pos (by omega), List.drop_take, List.take_take, List.drop_drop, Nat.min_eq_left (by omega)]
  · cases h
section
variable {c : Cfg} {h : AHeap} {sz : Nat} {v : AVal} {es : List (List AVal)}
theorem Sl.loadA (s : Sl c h sz v es) {i d t k : Nat} {e : List AVal} (he : es[i]? = some e) (hk : d + k ≤ sz) (hg : isAggR c.P t = .ok true) (hs : sizeR c.P t = .ok k) : loadR c h t (elpo v sz i d) = .ok (.agg ((e.drop d).take k)) := by
  obtain ⟨vs, f, h1, _, h2⟩ := s.rowR he
  unfold loadR partR
  have h3 : YthblmlkkmebciaaDoor.rowR c h (elpo v sz i d) = .ok (vs, f + d) := by
    cases v <;> simp only [elp, elpo] at h1 ⊢ <;> unfold YthblmlkkmebciaaDoor.rowR at h1 ⊢ <;> first | (cases h1; done) | skip
    all_goals (simp only at h1 ⊢; split at h1)
    all_goals first | (injection h1 with h1; injection h1 with h4 h5; subst h4 h5; rfl) | (cases h1; done)
  rw [h3, Res.ok_bind, hg, Res.ok_bind]
  simp [hs, takeR_sub h2 hk]
end
section
variable {ro : Nat → Option (List AVal)}
structure E9 (h : AHeap) (v : AVal) (i : Nat) (t : TV) : Prop where
  x : indexAddrR Tryd.prog 53 v (.int .i64 (i : Nat)) = .ok (elp v 9 i)
  o : ∀ d, addOff (elp v 9 i) d = .ok (elpo v 9 i d)
  p : ∀ d e, addOff (elpo v 9 i d) e = .ok (elpo v 9 i (d + e))
  a : loadR (cfgR ro) h 71 (elpo v 9 i 0) = .ok (.agg [.int .u64 t.a.clock, .int .u16 t.a.r, .int .u32 t.a.n, .int .u16 t.a.er, .int .u32 t.a.en, .int .u8 t.a.b.toNat, .bool t.a.shown])
  k : loadR (cfgR ro) h 57 (elpo v 9 i 0) = .ok (.agg [.int .u64 t.a.clock, .int .u16 t.a.r, .int .u32 t.a.n])
  n : loadR (cfgR ro) h 56 (elpo v 9 i 7) = .ok (.agg [.int .u16 t.an.1, .int .u32 t.an.2])
theorem E9.of {h : AHeap} {v : AVal} {T : List TV} (hs : Sl (cfgR ro) h 9 v (T.map TV.cells)) {i : Nat} {t : TV} (ht : T[i]? = some t) : E9 (ro := ro) h v i t := by
  have hi : i < (T.map TV.cells).length := by have := (List.getElem?_eq_some_iff.1 ht).1; simpa using this
  have he : (T.map TV.cells)[i]? = some t.cells := by rw [List.getElem?_map, ht]; rfl
  exact ⟨hs.idx un53 sz124 hi, fun d => elp_off hs hi, fun d e => elpo_off hs hi, hs.loadA he (by decide) ag71 sz71, hs.loadA he (by decide) ag57 sz57, hs.loadA he (by decide) ag56 sz56⟩
theorem lenT {h : AHeap} {v : AVal} {T : List TV} (hs : Sl (cfgR ro) h 9 v (T.map TV.cells)) : lenR (cfgR ro) h 53 v = .ok (.int .i64 (T.length : Nat)) := by
  have := hs.lenR (t := 53) un53; simpa using this
theorem id17_ev {h : AHeap} {a : AtV} {Q : AVal → AHeap → Prop} (hq : Q (idA a.r a.n) h) : Ev (cfgR ro) 29 [.agg [.int .u64 a.clock, .int .u16 a.r, .int .u32 a.n, .int .u16 a.er, .int .u32 a.en, .int .u8 a.b.toNat, .bool a.shown]] h Q := by
  refine Ev.wp rfl rfl Tryd.func29 rfl ?_
  simp only [idA] at hq
  simp -implicitDefEqProofs [Tryd.f29]
  exact hq
def fixT (T : List TV) (x : IdT) : Option Nat := T.findIdx? fun t => decide (t.id = x)
theorem fixT_some {T : List TV} {x : IdT} {i : Nat} {t : TV} (ht : T[i]? = some t) (h1 : t.id = x) (h2 : ∀ j u, j < i → T[j]? = some u → u.id ≠ x) : fixT T x = some i := by
  unfold fixT
  rw [List.findIdx?_eq_some_iff_getElem]
  obtain ⟨l, e⟩ := List.getElem?_eq_some_iff.1 ht
  refine ⟨l, by rw [e]; exact decide_eq_true h1, fun j hj => ?_⟩
  have := h2 j T[j] hj (List.getElem?_eq_getElem (by omega))
  simpa using this
theorem fixT_none {T : List TV} {x : IdT} : fixT T x = none ↔ ∀ t ∈ T, t.id ≠ x := by
  unfold fixT
  rw [List.findIdx?_eq_none_iff]
  constructor
  · intro h t ht; simpa using h t ht
  · intro h t ht; simpa using h t ht
theorem fixT_get {T : List TV} {x : IdT} {i : Nat} (h : fixT T x = some i) : ∃ t, T[i]? = some t ∧ t.id = x := by
  unfold fixT at h
  rw [List.findIdx?_eq_some_iff_getElem] at h
  obtain ⟨l, h1, _⟩ := h
  exact ⟨_, List.getElem?_eq_getElem l, by simpa using h1⟩
theorem find17_ev {h : AHeap} {v : AVal} {T : List TV} {x : IdT} (hs : Sl (cfgR ro) h 9 v (T.map TV.cells)) (hl : T.length < 2 ^ 60) {Q : AVal → AHeap → Prop} (hq : Q (.int .i64 (ixI (fixT T x))) h) : Ev (cfgR ro) 21 [v, idA x.1 x.2] h Q := by
  refine Ev.wp rfl rfl Tryd.func21 rfl ?_
  have hL := lenT hs
  simp -implicitDefEqProofs [Tryd.f21, idA]
  obtain ⟨I, hI⟩ : ∃ I : Nat → List AVal → AHeap → Prop, I = fun m env h' => h' = h ∧ ∃ i : Nat, i + m = T.length ∧ (∀ (j : Nat) (u : TV), j < i → T[j]? = some u → u.id ≠ x) ∧
    env = (v :: .dead :: .dead :: .cell [.int .u16 x.1, .int .u32 x.2] :: .dead :: .int .i64 (i : Nat) :: .dead :: .dead :: .dead :: .dead :: .dead :: .dead :: .dead :: .dead :: .dead :: .dead :: .dead :: .dead :: .dead :: .dead :: .dead :: []) := ⟨_, rfl⟩
  refine loop_of I ?_ T.length (by rw [hI]; exact ⟨rfl, 0, by omega, fun j b hj => by omega, rfl⟩)
  intro m env h' hi
  rw [hI] at hi
  obtain ⟨rfl, i, him, hno, rfl⟩ := hi
  by_cases hlt : i < T.length
  · obtain ⟨t, ht⟩ : ∃ t, T[i]? = some t := ⟨_, List.getElem?_eq_getElem hlt⟩
    have E := E9.of hs ht
    have Ea := E.a
    have w1 : IntKind.i64.wrap ((i : Int) + 1) = ((i + 1 : Nat) : Int) := by rw [w64 (by omega) (by omega)]; omega
    have ei := eqI56 (ro := ro) h' t.a.r t.a.n x.1 x.2
    simp -implicitDefEqProofs [hL, hlt, E.x, E.o, Ea, same_self]
    refine id17_ev (a := t.a) ?_
    by_cases c : t.id = x
    · have : t.a.r = x.1 ∧ t.a.n = x.2 := by rw [← c]; exact ⟨rfl, rfl⟩
      rw [decide_eq_true this] at ei
      rw [fixT_some ht c hno] at hq
      simp only [ixI] at hq
      simp -implicitDefEqProofs [hL, hlt, E.x, E.o, Ea, same_self, idA, ei, eqL56]
      exact hq
    · have : ¬ (t.a.r = x.1 ∧ t.a.n = x.2) := fun ⟨h1, h2⟩ => c (by unfold TV.id AtV.id; rw [h1, h2])
      rw [decide_eq_false this] at ei
      simp -implicitDefEqProofs [hL, hlt, E.x, E.o, Ea, same_self, idA, ei, eqL56, w1]
      exact .mk (m := m - 1) (by omega) (by rw [hI]; exact ⟨rfl, i + 1, by omega, fun j b hj hb => by
        by_cases e : j = i
        · subst e; rw [ht] at hb; cases hb; exact c
        · exact hno j b (by omega) hb, by simp⟩)
  · have hall : fixT T x = none := fixT_none.2 (fun t ht => by
      obtain ⟨j, hj⟩ := List.mem_iff_getElem?.1 ht
      exact hno j t (by have := (List.getElem?_eq_some_iff.1 hj).1; omega) hj)
    rw [hall] at hq
    simp only [ixI] at hq
    simp -implicitDefEqProofs [hL, hlt]
    exact hq
/-- may one be anchored there? -/
def ancT (T : List TV) (x : IdT) (k : KeyT) : Prop := x = (0, 0) ∨ ∃ t ∈ T, t.id = x ∧ klt t.key k
theorem anchored17_ev {h : AHeap} {v : AVal} {T : List TV} {x : IdT} {k : KeyT} (hs : Sl (cfgR ro) h 9 v (T.map TV.cells)) (hl : T.length < 2 ^ 60) (hu : ∀ t ∈ T, ∀ u ∈ T, t.id = u.id → t = u) {Q : AVal → AHeap → Prop} (hq : ∀ b, (b = true ↔ ancT T x k) → Q (.bool b) h) : Ev (cfgR ro) 24 [v, idA x.1 x.2, keyA k.1 k.2.1 k.2.2] h Q := by
  refine Ev.wp rfl rfl Tryd.func24 rfl ?_
  have rest : x ≠ (0, 0) → ∀ K : AVal → AHeap → Prop, (fixT T x = none → K (.int .i64 (-1)) h) → (∀ i t, T[i]? = some t → t.id = x → K (.int .i64 (i : Nat)) h) → Ev (cfgR ro) 21 [v, idA x.1 x.2] h K := by
    intro hx K k1 k2
    refine find17_ev hs hl ?_
    cases hf : fixT T x with
    | none => exact k1 hf
    | some i => obtain ⟨t, h1, h2⟩ := fixT_get hf; exact k2 i t h1 h2
  by_cases c : x = (0, 0)
  · have d1 : x.1 = 0 := by rw [c]
    have d2 : x.2 = 0 := by rw [c]
    simp -implicitDefEqProofs [Tryd.f24, idA, keyA, d1, d2]
    exact hq true ⟨fun _ => .inl c, fun _ => rfl⟩
  · have fin : ∀ K : Prop, (¬ x.1 = 0 → K) → (x.1 = 0 → ¬ x.2 = 0 → K) → K := fun K k1 k2 => by
      by_cases d1 : x.1 = 0
      · exact k2 d1 (fun d2 => c (Prod.ext d1 d2))
      · exact k1 d1
    refine fin _ (fun d1 => ?_) (fun d1 d2 => ?_)
    · simp -implicitDefEqProofs [Tryd.f24, idA, keyA, d1]
      refine rest c _ (fun hnone => ?_) (fun i t ht hid => ?_)
      · simp -implicitDefEqProofs [idA, keyA]
        refine hq false ⟨fun e => (nomatch e), fun hh => ?_⟩
        rcases hh with e | ⟨t, ht, e, _⟩
        · exact (c e).elim
        · exact (fixT_none.1 hnone t ht e).elim
      · have E := E9.of hs ht
        have Ek := E.k
        have dz : decide ((0 : Int) ≤ (i : Int)) = true := decide_eq_true (by omega)
        simp -implicitDefEqProofs [idA, keyA, dz, E.x, E.o, E.p, Ek, same_self]
        refine keyLess_ev (c := t.a.clock) (r := t.a.r) (n := t.a.n) (c' := k.1) (r' := k.2.1) (n' := k.2.2) ?_
        simp -implicitDefEqProofs [idA, keyA, dz, E.x, E.o, E.p, Ek, same_self]
        refine hq _ ?_
        rw [decide_eq_true_iff]
        have htm := List.mem_of_getElem? ht
        constructor
        · intro hk; exact .inr ⟨t, htm, hid, hk⟩
        · rintro (e | ⟨u, hu', e, hk⟩)
          · exact (c e).elim
          · have := hu u hu' t htm (by rw [e, hid])
            subst this; exact hk
    · have hx0 : x = (0, x.2) := by rw [← d1]
      have rest := rest c
      simp only [idA, d1] at rest
      simp -implicitDefEqProofs [Tryd.f24, idA, keyA, d1, d2]
      refine rest _ (fun hnone => ?_) (fun i t ht hid => ?_)
      · simp -implicitDefEqProofs [idA, keyA]
        refine hq false ⟨fun e => (nomatch e), fun hh => ?_⟩
        rcases hh with e | ⟨t, ht, e, _⟩
        · exact (c e).elim
        · exact (fixT_none.1 hnone t ht e).elim
      · have E := E9.of hs ht
        have Ek := E.k
        have dz : decide ((0 : Int) ≤ (i : Int)) = true := decide_eq_true (by omega)
        simp -implicitDefEqProofs [idA, keyA, dz, E.x, E.o, E.p, Ek, same_self]
        refine keyLess_ev (c := t.a.clock) (r := t.a.r) (n := t.a.n) (c' := k.1) (r' := k.2.1) (n' := k.2.2) ?_
        simp -implicitDefEqProofs [idA, keyA, dz, E.x, E.o, E.p, Ek, same_self]
        refine hq _ ?_
        rw [decide_eq_true_iff]
        have htm := List.mem_of_getElem? ht
        constructor
        · intro hk; exact .inr ⟨t, htm, hid, hk⟩
        · rintro (e | ⟨u, hu', e, hk⟩)
          · exact (c e).elim
          · have := hu u hu' t htm (by rw [e, hid])
            subst this; exact hk
end
end Go.Proofs.YthblmlkkmebciaaDoor
set_option linter.all false
set_option maxRecDepth 100000
set_option maxHeartbeats 4000000
namespace Go.Proofs.YthblmlkkmebciaaDoor
open Go Go.RowKit Go.Proofs
section
variable {ro : Nat → Option (List AVal)}
def candT (x : IdT) (first : Bool) (below : KeyT) (t : TV) : Prop := t.an = x ∧ (first = true ∨ klt t.key below)
instance (x : IdT) (first : Bool) (below : KeyT) (t : TV) : Decidable (candT x first below t) := by unfold candT; infer_instance
theorem next_ev {h : AHeap} {v : AVal} {T : List TV} {x : IdT} {first : Bool} {below : KeyT} (hs : Sl (cfgR ro) h 9 v (T.map TV.cells)) (hl : T.length < 2 ^ 60) {Q : AVal → AHeap → Prop}
    (hq1 : ∀ i u, T[i]? = some u → candT x first below u → (∀ w ∈ T, candT x first below w → ¬ klt u.key w.key) → Q (.int .i64 (i : Nat)) h) (hq2 : (∀ w ∈ T, ¬ candT x first below w) → Q (.int .i64 (-1)) h) :
    Ev (cfgR ro) 67 [v, idA x.1 x.2, .bool first, keyA below.1 below.2.1 below.2.2] h Q := by
  refine Ev.wp rfl rfl Tryd.func67 rfl ?_
  have hL := lenT hs
  simp -implicitDefEqProofs [Tryd.f67, idA, keyA]
  obtain ⟨I, hI⟩ : ∃ I : Nat → List AVal → AHeap → Prop, I = fun m env h' => h' = h ∧ ∃ (i : Nat) (bo : Option Nat), i + m = T.length ∧ (bo = none → ∀ j u, j < i → T[j]? = some u → ¬ candT x first below u) ∧
    (∀ b, bo = some b → b < i ∧ ∃ u, T[b]? = some u ∧ candT x first below u ∧ ∀ j w, j < i → T[j]? = some w → candT x first below w → ¬ klt u.key w.key) ∧
    env = (v :: .dead :: .bool first :: .dead :: .dead :: .cell [.int .u16 x.1, .int .u32 x.2] :: .dead :: .cell [.int .u64 below.1, .int .u16 below.2.1, .int .u32 below.2.2] :: .dead :: .int .i64 (ixI bo) :: .int .i64 (i : Nat) :: .dead :: .dead :: .dead :: .dead :: .dead :: .dead :: .dead :: .dead :: .dead :: .dead :: .dead :: .dead :: .dead :: .dead :: .dead :: .dead :: .dead :: .dead :: .dead :: .dead :: .dead :: .dead :: .dead :: .dead :: .dead :: .dead :: .dead :: .dead :: .dead :: .dead :: .dead :: .dead :: .dead :: .dead :: .dead :: .dead :: .dead :: .dead :: .dead :: .dead :: .dead :: .dead :: .dead :: .dead :: .dead :: .dead :: .dead :: []) := ⟨_, rfl⟩
  refine loop_of I ?_ T.length (by rw [hI]; exact ⟨rfl, 0, none, by omega, fun _ j u hj => by omega, fun b e => (by cases e), rfl⟩)
  intro m env h' hi
  rw [hI] at hi
  obtain ⟨rfl, i, bo, him, hno, hbo, rfl⟩ := hi
  by_cases hlt : i < T.length
  · obtain ⟨t, ht⟩ : ∃ t, T[i]? = some t := ⟨_, List.getElem?_eq_getElem hlt⟩
    have E := E9.of hs ht
    have Ek := E.k
    have En := E.n
    have w1 : IntKind.i64.wrap ((i : Int) + 1) = ((i + 1 : Nat) : Int) := by rw [w64 (by omega) (by omega)]; omega
    have ei := eqI56 (ro := ro) h' t.an.1 t.an.2 x.1 x.2
    -- not one of them
    have skip : ¬ candT x first below t → headK I m (v :: .dead :: .bool first :: .dead :: .dead :: .cell [.int .u16 x.1, .int .u32 x.2] :: .dead :: .cell [.int .u64 below.1, .int .u16 below.2.1, .int .u32 below.2.2] :: .dead :: .int .i64 (ixI bo) :: .int .i64 (i + 1 : Nat) :: .dead :: .dead :: .dead :: .dead :: .dead :: .dead :: .dead :: .dead :: .dead :: .dead :: .dead :: .dead :: .dead :: .dead :: .dead :: .dead :: .dead :: .dead :: .dead :: .dead :: .dead :: .dead :: .dead :: .dead :: .dead :: .dead :: .dead :: .dead :: .dead :: .dead :: .dead :: .dead :: .dead :: .dead :: .dead :: .dead :: .dead :: .dead :: .dead :: .dead :: .dead :: .dead :: .dead :: .dead :: .dead :: .dead :: .dead :: []) h' := fun hc =>
      .mk (m := m - 1) (by omega) (by rw [hI]; exact ⟨rfl, i + 1, bo, by omega, fun e j u hj hu => by
        by_cases e2 : j = i
        · subst e2; rw [ht] at hu; cases hu; exact hc
        · exact hno e j u (by omega) hu, fun b e => by
        obtain ⟨k1, u, k2, k3, k4⟩ := hbo b e
        exact ⟨by omega, u, k2, k3, fun j w hj hw hcw => by
          by_cases e2 : j = i
          · subst e2; rw [ht] at hw; cases hw; exact (hc hcw).elim
          · exact k4 j w (by omega) hw hcw⟩, rfl⟩)
    -- one of them
    have take_ : candT x first below t → (bo = none ∨ ∃ b u, bo = some b ∧ T[b]? = some u ∧ klt u.key t.key) → headK I m (v :: .dead :: .bool first :: .dead :: .dead :: .cell [.int .u16 x.1, .int .u32 x.2] :: .dead :: .cell [.int .u64 below.1, .int .u16 below.2.1, .int .u32 below.2.2] :: .dead :: .int .i64 (i : Nat) :: .int .i64 (i + 1 : Nat) :: .dead :: .dead :: .dead :: .dead :: .dead :: .dead :: .dead :: .dead :: .dead :: .dead :: .dead :: .dead :: .dead :: .dead :: .dead :: .dead :: .dead :: .dead :: .dead :: .dead :: .dead :: .dead :: .dead :: .dead :: .dead :: .dead :: .dead :: .dead :: .dead :: .dead :: .dead :: .dead :: .dead :: .dead :: .dead :: .dead :: .dead :: .dead :: .dead :: .dead :: .dead :: .dead :: .dead :: .dead :: .dead :: .dead :: .dead :: []) h' := fun hc hb =>
      .mk (m := m - 1) (by omega) (by rw [hI]; exact ⟨rfl, i + 1, some i, by omega, fun e => (by cases e), fun b e => by
        cases e
        refine ⟨by omega, t, ht, hc, fun j w hj hw hcw => ?_⟩
        by_cases e2 : j = i
        · subst e2; rw [ht] at hw; cases hw; exact klt_irrefl _
        · rcases hb with e3 | ⟨b, u, e3, e4, e5⟩
          · exact (hno e3 j w (by omega) hw hcw).elim
          · obtain ⟨_, u', k2, _, k4⟩ := hbo b e3
            rw [e4] at k2; cases k2
            intro hk
            exact k4 j w (by omega) hw hcw (klt_trans e5 hk), rfl⟩)
    have stay : candT x first below t → (∃ b u, bo = some b ∧ T[b]? = some u ∧ ¬ klt u.key t.key) → headK I m (v :: .dead :: .bool first :: .dead :: .dead :: .cell [.int .u16 x.1, .int .u32 x.2] :: .dead :: .cell [.int .u64 below.1, .int .u16 below.2.1, .int .u32 below.2.2] :: .dead :: .int .i64 (ixI bo) :: .int .i64 (i + 1 : Nat) :: .dead :: .dead :: .dead :: .dead :: .dead :: .dead :: .dead :: .dead :: .dead :: .dead :: .dead :: .dead :: .dead :: .dead :: .dead :: .dead :: .dead :: .dead :: .dead :: .dead :: .dead :: .dead :: .dead :: .dead :: .dead :: .dead :: .dead :: .dead :: .dead :: .dead :: .dead :: .dead :: .dead :: .dead :: .dead :: .dead :: .dead :: .dead :: .dead :: .dead :: .dead :: .dead :: .dead :: .dead :: .dead :: .dead :: .dead :: []) h' := fun hc ⟨b0, u0, e3, e4, e5⟩ =>
      .mk (m := m - 1) (by omega) (by rw [hI]; exact ⟨rfl, i + 1, bo, by omega, fun e => (by rw [e] at e3; cases e3), fun b e => by
        obtain ⟨k1, u, k2, k3, k4⟩ := hbo b e
        rw [e] at e3; cases e3
        rw [e4] at k2; cases k2
        exact ⟨by omega, u0, e4, k3, fun j w hj hw hcw => by
          by_cases e2 : j = i
          · subst e2; rw [ht] at hw; cases hw; exact e5
          · exact k4 j w (by omega) hw hcw⟩, rfl⟩)
    by_cases c1 : t.an = x
    · have : t.an.1 = x.1 ∧ t.an.2 = x.2 := by rw [c1]; exact ⟨rfl, rfl⟩
      rw [decide_eq_true this] at ei
      cases first with
      | true =>
        have hc : candT x true below t := ⟨c1, .inl rfl⟩
        cases hbb : bo with
        | none =>
          simp -implicitDefEqProofs [hL, hlt, E.x, E.o, E.p, En, Ek, ei, eqL56, same_self, w1, ixI]
          exact take_ hc (.inl hbb)
        | some b =>
          obtain ⟨k1, u, k2, k3, k4⟩ := hbo b hbb
          have Eb := E9.of hs k2
          have Ebk := Eb.k
          have db : decide ((b : Int) < 0) = false := decide_eq_false (by omega)
          simp -implicitDefEqProofs [hL, hlt, E.x, E.o, E.p, En, Ek, ei, eqL56, same_self, ixI, db, Eb.x, Eb.o, Eb.p, Ebk]
          refine keyLess_ev (c := u.a.clock) (r := u.a.r) (n := u.a.n) (c' := t.a.clock) (r' := t.a.r) (n' := t.a.n) ?_
          by_cases c4 : klt u.key t.key
          · rw [decide_eq_true (show klt (u.a.clock, u.a.r, u.a.n) (t.a.clock, t.a.r, t.a.n) from c4)]
            simp -implicitDefEqProofs [hL, hlt, E.x, E.o, E.p, En, Ek, ei, eqL56, same_self, ixI, db, Eb.x, Eb.o, Eb.p, Ebk, w1]
            exact take_ hc (.inr ⟨b, u, hbb, k2, c4⟩)
          · rw [decide_eq_false (show ¬ klt (u.a.clock, u.a.r, u.a.n) (t.a.clock, t.a.r, t.a.n) from c4)]
            simp -implicitDefEqProofs [hL, hlt, E.x, E.o, E.p, En, Ek, ei, eqL56, same_self, ixI, db, Eb.x, Eb.o, Eb.p, Ebk, w1]
            have := stay hc ⟨b, u, hbb, k2, c4⟩
            rw [hbb] at this
            exact this
      | false =>
        simp -implicitDefEqProofs [hL, hlt, E.x, E.o, E.p, En, ei, eqL56, same_self]
        by_cases c2 : klt t.key below
        · have hc : candT x false below t := ⟨c1, .inr c2⟩
          simp -implicitDefEqProofs [hL, hlt, E.x, E.o, E.p, En, Ek, ei, eqL56, same_self]
          refine keyLess_ev (c := t.a.clock) (r := t.a.r) (n := t.a.n) (c' := below.1) (r' := below.2.1) (n' := below.2.2) ?_
          rw [decide_eq_true (show klt (t.a.clock, t.a.r, t.a.n) (below.1, below.2.1, below.2.2) from c2)]
          cases hbb : bo with
          | none =>
            simp -implicitDefEqProofs [hL, hlt, E.x, E.o, E.p, En, Ek, ei, eqL56, same_self, w1, ixI]
            exact take_ hc (.inl hbb)
          | some b =>
            obtain ⟨k1, u, k2, k3, k4⟩ := hbo b hbb
            have Eb := E9.of hs k2
            have Ebk := Eb.k
            have db : decide ((b : Int) < 0) = false := decide_eq_false (by omega)
            simp -implicitDefEqProofs [hL, hlt, E.x, E.o, E.p, En, Ek, ei, eqL56, same_self, ixI, db, Eb.x, Eb.o, Eb.p, Ebk]
            refine keyLess_ev (c := u.a.clock) (r := u.a.r) (n := u.a.n) (c' := t.a.clock) (r' := t.a.r) (n' := t.a.n) ?_
            by_cases c4 : klt u.key t.key
            · rw [decide_eq_true (show klt (u.a.clock, u.a.r, u.a.n) (t.a.clock, t.a.r, t.a.n) from c4)]
              simp -implicitDefEqProofs [hL, hlt, E.x, E.o, E.p, En, Ek, ei, eqL56, same_self, ixI, db, Eb.x, Eb.o, Eb.p, Ebk, w1]
              exact take_ hc (.inr ⟨b, u, hbb, k2, c4⟩)
            · rw [decide_eq_false (show ¬ klt (u.a.clock, u.a.r, u.a.n) (t.a.clock, t.a.r, t.a.n) from c4)]
              simp -implicitDefEqProofs [hL, hlt, E.x, E.o, E.p, En, Ek, ei, eqL56, same_self, ixI, db, Eb.x, Eb.o, Eb.p, Ebk, w1]
              have := stay hc ⟨b, u, hbb, k2, c4⟩
              rw [hbb] at this
              exact this
        · have hc : ¬ candT x false below t := fun hh => by
            rcases hh.2 with e | e
            · cases e
            · exact c2 e
          simp -implicitDefEqProofs [hL, hlt, E.x, E.o, E.p, En, Ek, ei, eqL56, same_self]
          refine keyLess_ev (c := t.a.clock) (r := t.a.r) (n := t.a.n) (c' := below.1) (r' := below.2.1) (n' := below.2.2) ?_
          rw [decide_eq_false (show ¬ klt (t.a.clock, t.a.r, t.a.n) (below.1, below.2.1, below.2.2) from c2)]
          simp -implicitDefEqProofs [hL, hlt, E.x, E.o, E.p, En, Ek, ei, eqL56, same_self, w1]
          exact skip hc
    · have : ¬ (t.an.1 = x.1 ∧ t.an.2 = x.2) := fun ⟨h1, h2⟩ => c1 (Prod.ext h1 h2)
      rw [decide_eq_false this] at ei
      simp -implicitDefEqProofs [hL, hlt, E.x, E.o, En, ei, eqL56, same_self, w1]
      exact skip (fun hh => c1 hh.1)
  · simp -implicitDefEqProofs [hL, hlt]
    cases hbb : bo with
    | none =>
      simp only [ixI]
      exact hq2 (fun w hw => by
        obtain ⟨j, hj⟩ := List.mem_iff_getElem?.1 hw
        exact hno hbb j w (by have := (List.getElem?_eq_some_iff.1 hj).1; omega) hj)
    | some b =>
      simp only [ixI]
      obtain ⟨_, u, k2, k3, k4⟩ := hbo b hbb
      exact hq1 b u k2 k3 (fun w hw hcw => by
        obtain ⟨j, hj⟩ := List.mem_iff_getElem?.1 hw
        exact k4 j w (by have := (List.getElem?_eq_some_iff.1 hj).1; omega) hj hcw)
end
end Go.Proofs.YthblmlkkmebciaaDoor
set_option linter.all false
set_option maxRecDepth 100000
set_option maxHeartbeats 4000000
namespace Go.Proofs.YthblmlkkmebciaaDoor
open Go Go.RowKit Go.Proofs
/-- what the atom at a place is anchored at -/
def ancAt (x : IdT) (bs : List AtV) (i : Nat) : IdT := match (bs.take i).getLast? with
  | none => x
  | some b => b.id
theorem tvs_take : ∀ (bs : List AtV) (x : IdT) (i : Nat) (b : AtV), bs[i]? = some b → tvs x (bs.take (i + 1)) = tvs x (bs.take i) ++ [⟨b, ancAt x bs i⟩]
  | [], x, i, b, h => by simp at h
  | c :: bs, x, 0, b, h => by simp at h; subst h; simp [tvs, ancAt]
  | c :: bs, x, i + 1, b, h => by
    have ih := tvs_take bs c.id i b (by simpa using h)
    have e : ancAt x (c :: bs) (i + 1) = ancAt c.id bs i := by
      unfold ancAt
      rw [List.take_succ_cons]
      cases hb : bs.take i with
      | nil => rfl
      | cons d l => rw [List.getLast?_cons_cons]; cases h2 : (d :: l).getLast? <;> simp at h2 ⊢
    rw [List.take_succ_cons, List.take_succ_cons, e]
    show _ :: tvs c.id (bs.take (i + 1)) = _ :: tvs c.id (bs.take i) ++ _
    rw [ih]; rfl
theorem ancAt_succ {x : IdT} {bs : List AtV} {i : Nat} {b : AtV} (h : bs[i]? = some b) : ancAt x bs (i + 1) = b.id := by
  unfold ancAt
  obtain ⟨l, e⟩ := List.getElem?_eq_some_iff.1 h
  rw [List.take_succ_eq_append_getElem l, e, List.getLast?_append]; rfl
/-- an append touches nothing but its own row -/
theorem app_frame {sz b n : Nat} {h h' : AHeap} {v v' : AVal} {new : List AVal} (e : appCore sz b h v n new = .ok (v', h')) (hv : notSlc v) : h.next ≤ h'.next ∧ (∀ o, o < h.next → ¬ vobj v o → h'.get o = h.get o) ∧ ∀ o, vobj v' o → vobj v o ∨ h.next ≤ o := by
  unfold appCore at e
  cases v <;> simp only at e <;> try (cases e; done)
  · split at e
    · cases e; exact ⟨Nat.le_refl _, fun _ _ _ => rfl, fun o ho => ho.elim⟩
    · split at e
      · cases e
      · cases e
        refine ⟨by simp, fun o ho _ => by rw [AHeap.get_push, if_neg (by omega)], fun o ho => ?_⟩
        have : o = h.next := ho
        exact .inr (by omega)
  · rename_i q off len
    split at e
    · rename_i esz fz vs hg
      split at e
      · split at e
        · cases hov : overR vs (off + len * sz) new with
          | err m => rw [hov] at e; cases e
          | ok ws =>
            rw [hov] at e
            cases e
            refine ⟨Nat.le_refl _, fun o ho hn => get_set_ne (fun e2 => hn e2.symm), fun o ho => .inl ho⟩
        · split at e
          · cases e
          · cases htk : takeR vs off (len * sz) with
            | err m => rw [htk] at e; cases e
            | ok ws =>
              rw [htk] at e
              cases e
              refine ⟨by simp, fun o ho hn => ?_, fun o ho => ?_⟩
              · rw [AHeap.get_push, if_neg (by simp; omega), AHeap.get_del, if_neg (fun e2 : o = q => hn e2)]
              · have : o = (h.del q).next := ho
                simp at this
                exact .inr (by omega)
      · cases e
    · cases e
  · exact (hv _ _ _ _ rfl).elim
  · split at e
    · cases e; exact ⟨Nat.le_refl _, fun _ _ _ => rfl, fun o ho => .inl ho⟩
    · cases e
theorem Mine.keepO {h0 h h' : AHeap} {sz : Nat} {es : List (List AVal)} {v : AVal} (m : Mine h0 h sz es v) (k : ∀ o, vobj v o → h'.get o = h.get o) (hn : h.next ≤ h'.next) : Mine h0 h' sz es v := by
  obtain ⟨m1, m2⟩ := m
  refine ⟨m1, m2.imp_right ?_⟩
  rintro ⟨q, fz, rfl, g1, g2, g3⟩
  exact ⟨q, fz, rfl, g1, Nat.lt_of_lt_of_le g2 hn, by rw [k q rfl]; exact g3⟩
theorem Mine.obj {h0 h : AHeap} {sz : Nat} {es : List (List AVal)} {v : AVal} (m : Mine h0 h sz es v) : ∀ o, vobj v o → h0.next ≤ o ∧ o < h.next := by
  obtain ⟨_, ⟨_, rfl⟩ | ⟨q, fz, rfl, g1, g2, _⟩⟩ := m
  · exact fun o ho => ho.elim
  · intro o ho
    have : o = q := ho
    subst this; exact ⟨g1, g2⟩
section
variable {ro : Nat → Option (List AVal)}
theorem put17_ev {h : AHeap} {v : AVal} {T : List TV} {y : IdT} {x : RunV} (hs : Sl (cfgR ro) h 9 v (T.map TV.cells)) (hl : T.length < 2 ^ 30) (hx : RunOk x) {Q : AVal → AHeap → Prop}
    (hq : ∀ v' h', Old h h' → Mine h h' 9 ((T ++ tvs y (atomsOf x)).map TV.cells) v' → Q v' h') : Ev (cfgR ro) 27 [v, idA y.1 y.2, .agg x.cells] h Q := by
  refine Ev.wp rfl rfl Tryd.func27 rfl ?_
  have hal : (T.map TV.cells).length = T.length := List.length_map _
  have q1 := hs.len
  have q2 := hs.read
  obtain ⟨w, h1, e1, m1, o1⟩ := (Mine.nil h h 9).append (bytes := 40) (new := T.map TV.cells) (by decide) (fun e he => by obtain ⟨a, _, rfl⟩ := List.mem_map.1 he; rfl) (by rw [hal]; simp; omega) (Old.refl h)
  rw [List.nil_append] at m1
  rw [hal] at q1 q2 e1
  have hxl := hx.len
  simp -implicitDefEqProofs [Tryd.f27, idA, RunV.cells, q1, q2, e1]
  refine atoms15_ev hx (fun v2 h2 o2 hm2 => ?_)
  have o12 := o1.trans o2
  have hL2 : ∀ h', Mine h1 h' 7 ((atomsOf x).map AtV.cells) v2 → lenR (cfgR ro) h' 32 v2 = .ok (.int .i64 (x.text.length : Nat)) := fun h' m => by have := (m.sl (c := cfgR ro)).lenR (t := 32) un32; simpa [atomsOf_len] using this
  simp -implicitDefEqProofs
  obtain ⟨I, hI⟩ : ∃ I : Nat → List AVal → AHeap → Prop, I = fun m env h' => ∃ (i : Nat) (w : AVal), i + m = x.text.length ∧ Old h h' ∧ Mine h1 h' 7 ((atomsOf x).map AtV.cells) v2 ∧ (∀ o, vobj v2 o → ¬ vobj w o) ∧ Mine h h' 9 ((T ++ tvs y ((atomsOf x).take i)).map TV.cells) w ∧
    env = (.dead :: .dead :: .dead :: .dead :: .cell [.int .u16 (ancAt y (atomsOf x) i).1, .int .u32 (ancAt y (atomsOf x) i).2] :: .dead :: .dead :: w :: v2 :: .int .i64 (i : Nat) :: .dead :: .dead :: .dead :: .dead :: .dead :: .dead :: .dead :: .dead :: .dead :: .dead :: .dead :: .dead :: .dead :: .dead :: .dead :: .dead :: .dead :: .dead :: .dead :: .dead :: .dead :: .dead :: .dead :: .dead :: .dead :: .dead :: []) := ⟨_, rfl⟩
  refine loop_of I ?_ x.text.length (by rw [hI]; exact ⟨0, w, by omega, o12, hm2, fun o ho hw => by have := hm2.obj o ho; have := m1.obj o hw; omega, by simpa [tvs] using m1.keep o2, rfl⟩)
  intro m env h' hi
  rw [hI] at hi
  obtain ⟨i, w, him, oo, mm2, hap, hm, rfl⟩ := hi
  by_cases hlt : i < x.text.length
  · obtain ⟨b, hb⟩ : ∃ b, (atomsOf x)[i]? = some b := ⟨_, List.getElem?_eq_getElem (by rw [atomsOf_len]; exact hlt)⟩
    have E := El.of (mm2.sl (c := cfgR ro)) hb
    have El_ := E.l
    have w1 : IntKind.i64.wrap ((i : Int) + 1) = ((i + 1 : Nat) : Int) := by rw [w64 (by omega) (by omega)]; omega
    have htk := tvs_take _ y i b hb
    have hac := ancAt_succ (x := y) hb
    obtain ⟨z, hz⟩ : ∃ z, z = ancAt y (atomsOf x) i := ⟨_, rfl⟩
    rw [← hz] at htk ⊢
    have hlen : ((T ++ tvs y ((atomsOf x).take i)).map TV.cells).length ≤ T.length + 1024 := by
      have e : (tvs y ((atomsOf x).take i)).length = ((atomsOf x).take i).length := by have := congrArg List.length (tvs_atoms ((atomsOf x).take i) y); simpa using this
      rw [List.length_map, List.length_append, e, List.length_take, atomsOf_len]; omega
    have op : Old h' (h'.push (.row 9 false (TV.cells ⟨b, z⟩))) := (Old.refl h').push _
    obtain ⟨w3, h3, k1, k2, k3⟩ := Mine.append1 (bytes := 40) (e := TV.cells ⟨b, z⟩) (hm.keep op) (by decide) rfl (by omega) (oo.trans op)
    obtain ⟨f1, f2, f3⟩ := app_frame k1 (hm.keep op).notSlc
    have hnp : h'.next < (h'.push (.row 9 false (TV.cells ⟨b, z⟩))).next := by simp
    have mm3 : Mine h1 h3 7 ((atomsOf x).map AtV.cells) v2 := (mm2.keep op).keepO (fun o ho => f2 o (by have := (mm2.obj o ho).2; omega) (hap o ho)) f1
    have hap3 : ∀ o, vobj v2 o → ¬ vobj w3 o := fun o ho hw => by
      rcases f3 o hw with h4 | h4
      · exact hap o ho h4
      · have := (mm2.obj o ho).2; omega
    have E2 := El.of (mm3.sl (c := cfgR ro)) hb
    have E2l := E2.l
    have k1' := k1
    rw [TV.cells_eq] at k1'
    simp only at k1'
    simp -implicitDefEqProofs [hL2 h' mm2, hlt, E.x, El_, same_self, buildSliceR, reps, k1', E2.x, E2l]
    refine id17_ev (a := b) ?_
    simp -implicitDefEqProofs [idA, w1]
    refine .mk (m := m - 1) (by omega) (by
      rw [hI]
      refine ⟨i + 1, w3, by omega, k3, mm3, hap3, ?_, by rw [hac]; simp [AtV.id]⟩
      rw [htk, ← List.append_assoc, List.map_append]
      exact k2)
  · rw [List.take_of_length_le (by rw [atomsOf_len]; omega)] at hm
    simp -implicitDefEqProofs [hL2 h' mm2, hlt]
    exact hq w h' oo hm
theorem order_ev (T : List TV) (hl : T.length < 2 ^ 30) : ∀ (n : Nat) (L : List AtV) (x : IdT) (ks : List TV), L.length ≤ n → L.length < 2 ^ 30 → Kids T x ks → OrdK T ks L → ∀ {h : AHeap} {v : AVal} (hs : Sl (cfgR ro) h 9 v (T.map TV.cells)) {Q : AVal → AHeap → Prop}
    (hq : ∀ w h', Old h h' → Mine h h' 7 (L.map AtV.cells) w → Q w h'), Ev (cfgR ro) 26 [v, idA x.1 x.2] h Q := by
  intro n
  induction n with
  | zero =>
    intro L x ks hn hL2 hk ho h v hs Q hq
    have hL0 : L = [] := List.length_eq_zero_iff.1 (by omega)
    subst hL0
    have hks : ks = [] := by cases ho; rfl
    refine Ev.wp rfl rfl Tryd.func26 rfl ?_
    simp -implicitDefEqProofs [Tryd.f26, idA]
    refine next_ev (x := x) (first := true) (below := (0, 0, 0)) hs (by omega) (fun i u hu hc _ => ?_) (fun _ => ?_)
    · have := (hk.mem u).2 ⟨List.mem_of_getElem? hu, hc.1⟩
      rw [hks] at this; cases this
    · simp -implicitDefEqProofs
      obtain ⟨I, hI⟩ : ∃ I : Nat → List AVal → AHeap → Prop, I = fun m env h' => h' = h ∧ env = (v :: .dead :: .dead :: .cell [.int .u16 x.1, .int .u32 x.2] :: .dead :: .nils :: .int .i64 (-1) :: .dead :: .dead :: .dead :: .dead :: .dead :: .dead :: .dead :: .dead :: .dead :: .dead :: .dead :: .dead :: .dead :: .dead :: .dead :: .dead :: .dead :: .dead :: .dead :: .dead :: .dead :: .dead :: .dead :: .dead :: .dead :: .dead :: .dead :: .dead :: .dead :: .dead :: .dead :: .dead :: .dead :: .dead :: []) := ⟨_, rfl⟩
      refine loop_of I ?_ 0 (by rw [hI]; exact ⟨rfl, rfl⟩)
      intro m env h' hi
      rw [hI] at hi
      obtain ⟨rfl, rfl⟩ := hi
      simp -implicitDefEqProofs
      exact hq .nils h' (Old.refl h') (Mine.nil _ _ _)
  | succ n ih =>
    intro L x ks hn hL2 hk ho h v hs Q hq
    refine Ev.wp rfl rfl Tryd.func26 rfl ?_
    obtain ⟨I, hI⟩ : ∃ I : Nat → List AVal → AHeap → Prop, I = fun m env h' => ∃ (L0 L3 : List AtV) (pre cs : List TV) (w : AVal) (iv : Int), m = cs.length ∧ L = L0 ++ L3 ∧ ks = pre ++ cs ∧ OrdK T cs L3 ∧ Old h h' ∧ Mine h h' 7 (L0.map AtV.cells) w ∧
      ((cs = [] ∧ iv = -1) ∨ ∃ c cs' i, cs = c :: cs' ∧ T[i]? = some c ∧ iv = ((i : Nat) : Int)) ∧
      env = (v :: .dead :: .dead :: .cell [.int .u16 x.1, .int .u32 x.2] :: .dead :: w :: .int .i64 iv :: .dead :: .dead :: .dead :: .dead :: .dead :: .dead :: .dead :: .dead :: .dead :: .dead :: .dead :: .dead :: .dead :: .dead :: .dead :: .dead :: .dead :: .dead :: .dead :: .dead :: .dead :: .dead :: .dead :: .dead :: .dead :: .dead :: .dead :: .dead :: .dead :: .dead :: .dead :: .dead :: .dead :: .dead :: []) := ⟨_, rfl⟩
    -- the next of those that are left
    have nxt : ∀ (h' : AHeap) (pre cs : List TV) (first : Bool) (below : KeyT) (K : AVal → AHeap → Prop), ks = pre ++ cs → Old h h' → (∀ t, (t ∈ ks ∧ (first = true ∨ klt t.key below)) ↔ t ∈ cs) → (∀ iv, ((cs = [] ∧ iv = -1) ∨ ∃ c cs' i, cs = c :: cs' ∧ T[i]? = some c ∧ iv = ((i : Nat) : Int)) → K (.int .i64 iv) h') →
        Ev (cfgR ro) 67 [v, idA x.1 x.2, .bool first, keyA below.1 below.2.1 below.2.2] h' K := by
      intro h' pre cs first below K e1 oo hcs hK
      refine next_ev (hs.old oo) (by omega) (fun i u hu hc hmax => ?_) (fun hnone => ?_)
      · have hum : u ∈ cs := (hcs u).1 ⟨(hk.mem u).2 ⟨List.mem_of_getElem? hu, hc.1⟩, hc.2⟩
        cases cs with
        | nil => cases hum
        | cons d cs' =>
          refine hK _ (.inr ⟨d, cs', i, rfl, ?_, rfl⟩)
          rcases List.mem_cons.1 hum with rfl | hum'
          · exact hu
          · exfalso
            have hd := (hcs d).2 (by simp)
            have hdT := (hk.mem d).1 hd.1
            refine hmax d hdT.1 ⟨hdT.2, hd.2⟩ ?_
            have hord := hk.ord
            rw [e1, List.pairwise_append, List.pairwise_cons] at hord
            exact hord.2.1.1 u hum'
      · refine hK _ (.inl ⟨?_, rfl⟩)
        cases cs with
        | nil => rfl
        | cons d cs' =>
          exfalso
          have hd := (hcs d).2 (by simp)
          have hdT := (hk.mem d).1 hd.1
          exact hnone d hdT.1 ⟨hdT.2, hd.2⟩
    simp -implicitDefEqProofs [Tryd.f26, idA]
    refine nxt h [] ks true (0, 0, 0) _ rfl (Old.refl h) (fun t => ⟨fun hh => hh.1, fun hh => ⟨hh, .inl rfl⟩⟩) (fun iv hiv => ?_)
    simp -implicitDefEqProofs
    refine loop_of I ?_ ks.length (by rw [hI]; exact ⟨[], L, [], ks, .nils, iv, rfl, rfl, rfl, ho, Old.refl h, Mine.nil _ _ _, hiv, rfl⟩)
    intro m env h' hi
    rw [hI] at hi
    obtain ⟨L0, L3, pre, cs, w, iv, rfl, eL, ek, ho3, oo, hm, hiv, rfl⟩ := hi
    rcases hiv with ⟨rfl, rfl⟩ | ⟨c, cs', i, rfl, hi2, rfl⟩
    · have : L3 = [] := by cases ho3; rfl
      subst this
      rw [List.append_nil] at eL
      subst eL
      simp -implicitDefEqProofs
      exact hq w h' oo hm
    · cases ho3 with
      | @cons _ _ kc L1 L4 hkc ho1 ho4 =>
        have dz : decide ((0 : Int) ≤ (i : Int)) = true := decide_eq_true (by omega)
        have hLl : L.length = L0.length + (1 + (L1.length + L4.length)) := by rw [eL]; simp; omega
        have hsT := hs.old oo
        have E := E9.of hsT hi2
        have Ea := E.a
        have op : Old h' (h'.push (.row 7 false c.a.cells)) := (Old.refl h').push _
        obtain ⟨w3, h3, k1, k2, k3⟩ := Mine.append1 (bytes := 32) (e := c.a.cells) (hm.keep op) (by decide) rfl (by rw [List.length_map]; omega) (oo.trans op)
        have k1' := k1
        simp only [AtV.cells] at k1'
        simp -implicitDefEqProofs [dz, E.x, E.o, E.p, Ea, buildSliceR, reps, k1', same_self]
        have E3 := E9.of (hs.old k3) hi2
        have E3a := E3.a
        simp -implicitDefEqProofs [dz, E3.x, E3.o, E3.p, E3a, same_self]
        refine id17_ev (a := c.a) ?_
        simp -implicitDefEqProofs [dz, E3.x, E3.o, E3.p, E3a, same_self, idA]
        refine ih L1 c.id kc (by omega) (by omega) hkc ho1 (hs.old k3) (fun w4 h4 o4 m4 => ?_)
        have q1 := (m4.sl (c := cfgR ro)).len
        have q2 := (m4.sl (c := cfgR ro)).read
        obtain ⟨w5, h5, j1, j2, j3⟩ := (k2.keep o4).append (bytes := 32) (new := L1.map AtV.cells) (by decide) (fun e he => by obtain ⟨a, _, rfl⟩ := List.mem_map.1 he; rfl) (by rw [List.length_append, List.length_map, List.length_map]; simp; omega) (k3.trans o4)
        have hl1 : (L1.map AtV.cells).length = L1.length := List.length_map _
        rw [hl1] at q1 q2 j1
        simp -implicitDefEqProofs [dz, same_self, q1, q2, j1]
        have E5 := E9.of (hs.old j3) hi2
        have E5k := E5.k
        try simp -implicitDefEqProofs [dz, E5.x, E5.o, E5.p, E5k, same_self]
        refine nxt h5 (pre ++ [c]) cs' false c.key _ (by rw [ek]; simp) j3 (fun t => ?_) (fun iv2 hiv2 => ?_)
        · have hord := hk.ord
          rw [ek, List.pairwise_append, List.pairwise_cons] at hord
          constructor
          · rintro ⟨h1, h2⟩
            have h2 := h2.resolve_left (by simp)
            rw [ek] at h1
            rcases List.mem_append.1 h1 with h1 | h1
            · exact (klt_asymm (hord.2.2 t h1 c (by simp)) h2).elim
            · rcases List.mem_cons.1 h1 with rfl | h1
              · exact (klt_irrefl _ h2).elim
              · exact h1
          · intro h1
            exact ⟨by rw [ek]; simp [h1], .inr (hord.2.1.1 t h1)⟩
        · simp -implicitDefEqProofs [dz, E5.x, E5.o, E5.p, E5k, same_self]
          refine .mk (m := cs'.length) (by simp) (by
            rw [hI]
            refine ⟨L0 ++ c.a :: L1, L4, pre ++ [c], cs', w5, iv2, rfl, by rw [eL]; simp, by rw [ek]; simp, ho4, j3, ?_, hiv2, rfl⟩
            have : (L0 ++ c.a :: L1).map AtV.cells = L0.map AtV.cells ++ [c.a.cells] ++ L1.map AtV.cells := by simp
            rw [this]; exact j2)
end
end Go.Proofs.YthblmlkkmebciaaDoor
set_option linter.all false
set_option maxRecDepth 100000
set_option maxHeartbeats 4000000
namespace Go.Proofs.YthblmlkkmebciaaDoor
open Go Go.RowKit Go.Proofs
theorem flat_nd : ∀ {L : List (Nat × RunV)}, Rok L → ((flat (L.map (·.2))).map AtV.id).Nodup
  | [], _ => List.nodup_nil
  | p :: L, R => by
    have ha := R.apart
    rw [List.pairwise_cons] at ha
    have ih := flat_nd (L := L) ⟨fun q hq => R.ok q (by simp [hq]), ha.2⟩
    rw [List.map_cons, flat_cons, List.map_append, List.nodup_append]
    refine ⟨(atF_ids _ _ _ _ _ _ _).1, ih, fun x hx y hy e => ?_⟩
    obtain ⟨a, h1, rfl⟩ := List.mem_map.1 hx
    obtain ⟨b, h2, rfl⟩ := List.mem_map.1 hy
    obtain ⟨l, hl, h3⟩ := List.mem_flatten.1 h2
    obtain ⟨z, hz, rfl⟩ := List.mem_map.1 hl
    obtain ⟨q, hq, rfl⟩ := List.mem_map.1 hz
    have m1 := mem_atomsOf h1
    have m2 := mem_atomsOf h3
    unfold AtV.id at e
    simp only [Prod.mk.injEq] at e
    rw [e.1, e.2] at m1
    exact apart_has (ha.1 q hq) m1 m2
theorem StA.nd {h : AHeap} {s : Nat} {O : Nat → Prop} {A : List AtV} (S : StA h s O A) : (A.map AtV.id).Nodup := by
  obtain ⟨m, t, ix, a1, a2, a3, a4, a5, a6, a7⟩ := S
  rw [← a5]; exact flat_nd a2
theorem StA.pos {h : AHeap} {s : Nat} {O : Nat → Prop} {A : List AtV} (S : StA h s O A) : ∀ a ∈ A, 1 ≤ a.n := by
  obtain ⟨m, t, ix, a1, a2, a3, a4, a5, a6, a7⟩ := S
  intro a ha
  rw [← a5] at ha
  obtain ⟨l, hl, h3⟩ := List.mem_flatten.1 ha
  obtain ⟨z, hz, rfl⟩ := List.mem_map.1 hl
  obtain ⟨q, hq, rfl⟩ := List.mem_map.1 hz
  have := (mem_atomsOf h3).2.1
  have := (a2.ok q hq).n1
  omega
theorem atIx_at' {A : List AtV} (hn : (A.map AtV.id).Nodup) {i : Nat} {a : AtV} (h : A[i]? = some a) : atIx A a.r a.n = some i := by
  refine atIx_some h ⟨rfl, rfl⟩ (fun j b hj hb hh => ?_)
  obtain ⟨l1, e1⟩ := List.getElem?_eq_some_iff.1 h
  obtain ⟨l2, e2⟩ := List.getElem?_eq_some_iff.1 hb
  have := (List.nodup_iff_pairwise_ne.1 hn)
  rw [List.pairwise_iff_getElem] at this
  have := this j i (by simpa using l2) (by simpa using l1) hj
  simp only [List.getElem_map, e1, e2] at this
  exact this (by unfold AtV.id; rw [hh.1, hh.2])
theorem posA_iff {A : List AtV} {x : IdT} {p : Nat} (h : posA A x.1 x.2 = some p) : posT A x p := by
  unfold posA at h
  by_cases c : x.1 = 0 ∧ x.2 = 0
  · rw [if_pos c] at h
    exact .inl ⟨Prod.ext c.1 c.2, (Option.some.inj h).symm⟩
  · rw [if_neg c] at h
    cases hx : atIx A x.1 x.2 with
    | none => rw [hx] at h; cases h
    | some i =>
      rw [hx] at h
      have hp : i + 1 = p := Option.some.inj h
      have hl := atIx_lt hx
      refine .inr ⟨i, A[i], List.getElem?_eq_getElem hl, ?_, hp.symm⟩
      unfold atIx at hx
      rw [List.findIdx?_eq_some_iff_getElem] at hx
      obtain ⟨_, h2, _⟩ := hx
      have h2 := of_decide_eq_true h2
      exact Prod.ext h2.1 h2.2
theorem atoms_key {z : RunV} {a : AtV} (h : a ∈ atomsOf z) {k : KeyT} (hk : klt k (z.clock, z.r, z.n)) : klt k a.key := by
  obtain ⟨i, hi⟩ := List.mem_iff_getElem?.1 h
  rw [atomsOf_get] at hi
  cases hb : z.text[i]? with
  | none => rw [hb] at hi; cases hi
  | some b =>
    rw [hb] at hi
    cases hi
    unfold klt AtV.key at *
    simp only at *
    omega
section
variable {ro : Nat → Option (List AVal)}
theorem shasG_ev {h : AHeap} {s : Nat} {O : Nat → Prop} {A : List AtV} {ar an : Nat} (S : StA h s O A) (ha : an < 2 ^ 32) {Q : AVal → AHeap → Prop} (hq : Q (.bool (atIx A ar an).isSome) h) : Ev (cfgR ro) 31 [.ptr s 0, idA ar an] h Q := by
  obtain ⟨m, t, ix, a1, a2, a3, a4, a5, a6, a7⟩ := S
  refine has_ev a1 a2 ha (fun b hb => ?_)
  have : (atIx A ar an).isSome = b := by
    cases b with
    | true =>
      obtain ⟨p, hp, hh⟩ := hb.1 rfl
      cases e : atIx A ar an with
      | some i => rfl
      | none =>
        rw [← a5] at e
        exact (atIx_none.1 e p.2 (List.mem_map.2 ⟨p, hp, rfl⟩) hh).elim
    | false =>
      have : atIx A ar an = none := by
        rw [← a5]
        refine atIx_none.2 (fun y hy hh => ?_)
        obtain ⟨p, hp, rfl⟩ := List.mem_map.1 hy
        have := hb.2 ⟨p, hp, hh⟩; cases this
      rw [this]; rfl
  rw [← this]; exact hq
theorem where_ev (hro : ro 0 = some [.int .u16 0, .int .u32 0]) {h : AHeap} {s : Nat} {O : Nat → Prop} {A : List AtV} {x : IdT} {k : KeyT} (S : StA h s O A) (hx : x.2 < 2 ^ 32) {Q : AVal → AHeap → Prop}
    (hq1 : x ≠ (0, 0) → atIx A x.1 x.2 = none → Q (.tuple [idA 0 0, .int .i64 40]) h)
    (hq2 : ∀ p0 H R (y : IdT) h', Old h h' → posA A x.1 x.2 = some p0 → A.drop p0 = H ++ R → (∀ z ∈ H, klt k z.key) → (∀ z l, R = z :: l → ¬ klt k z.key) → posA A y.1 y.2 = some (p0 + H.length) → y.2 < 2 ^ 32 → Q (.tuple [idA y.1 y.2, .int .i64 0]) h') :
    Ev (cfgR ro) 19 [.ptr s 0, idA x.1 x.2, keyA k.1 k.2.1 k.2.2] h Q := by
  refine Ev.wp rfl rfl Tryd.func19 rfl ?_
  simp only [idA] at hq1 hq2
  simp -implicitDefEqProofs [Tryd.f19, idA, keyA, same_self]
  refine idRoot_ev hro ?_
  by_cases c : x.1 = 0 ∧ x.2 = 0
  · have hpos : posA A x.1 x.2 = some 0 := by unfold posA; rw [if_pos c]
    rw [decide_eq_true c]
    simp -implicitDefEqProofs [idA, keyA, same_self]
    have hnd := S.nd
    have hps := S.pos
    have hlen := S.len
    have hnum := S.num
    refine scope_loop2 (by simp [findLabel]) (fun m env h' => Old h h' ∧ ∃ (H R : List AtV) (y : IdT), m = R.length ∧ A.drop 0 = H ++ R ∧ (∀ z ∈ H, klt k z.key) ∧ posA A y.1 y.2 = some (0 + H.length) ∧ y.2 < 2 ^ 32 ∧
      env = (.ptr s 0 :: .dead :: .dead :: .dead :: .dead :: .cell [.int .u64 k.1, .int .u16 k.2.1, .int .u32 k.2.2] :: .cell [.int .u16 0, .int .u32 0] :: .dead :: .cell [.int .u16 y.1, .int .u32 y.2] :: .dead :: .dead :: .dead :: .dead :: .dead :: .dead :: .dead :: .dead :: .dead :: .dead :: .dead :: .dead :: .dead :: .dead :: .dead :: .dead :: .dead :: .dead :: .dead :: .dead :: .dead :: .dead :: .dead :: .dead :: .dead :: .dead :: .dead :: .dead :: .dead :: .dead :: [])) ?_ (A.drop 0).length ⟨Old.refl h, [], A.drop 0, x, rfl, rfl, fun z hz => (by cases hz), hpos, hx, rfl⟩
    rintro m env h' ih ⟨oo, H, R, y, rfl, e1, e2, e3, e4, rfl⟩
    have S' := S.keep oo
    have hdr : A.drop (0 + H.length) = R := by rw [← List.drop_drop, e1]; simp
    simp -implicitDefEqProofs [idA, keyA, same_self]
    refine sbehind_ev hro S' (ar := y.1) (an := y.2) e4 (fun kk z rest q1 q2 q3 q4 => ?_) (fun q1 => ?_)
    · have hkk : kk = 0 + H.length := by rw [e3] at q1; exact (Option.some.inj q1).symm
      rw [hkk, hdr] at q2
      have zp := q3.pos
      have zn := q3.n2
      simp -implicitDefEqProofs [idA, keyA, same_self, RunV.cells]
      refine keyCmp_ev (c := z.clock) (r := z.r) (n := z.n) (c' := k.1) (r' := k.2.1) (n' := k.2.2) (fun h2 o2 => ?_)
      have hgt := cmpK_gt (z.clock, z.r, z.n) k
      obtain ⟨cv, hcv⟩ : ∃ cv, cv = cmpK (z.clock, z.r, z.n) (k.1, k.2.1, k.2.2) := ⟨_, rfl⟩
      rw [← hcv] at hgt ⊢
      by_cases ck : 0 < cv
      · have hlt := hgt.1 ck
        have dk : decide (0 < cv) = true := decide_eq_true ck
        simp -implicitDefEqProofs [idA, keyA, same_self, RunV.cells, dk, ck]
        refine rLast_ev (x := z) zp (by omega) ?_
        obtain ⟨ln, hln⟩ : ∃ ln, ln = z.n + (z.text.length - 1) := ⟨_, rfl⟩
        rw [← hln]
        simp -implicitDefEqProofs [idA, keyA, same_self, RunV.cells]
        refine ih rest.length ?_ _ _ ⟨oo.trans o2, H ++ atomsOf z, rest, (z.r, ln), rfl, by rw [e1, q2]; simp, fun w hw => ?_, ?_, by simp only []; omega, rfl⟩
        · rw [q2, List.length_append, atomsOf_len]; omega
        · rcases List.mem_append.1 hw with hw | hw
          · exact e2 w hw
          · exact atoms_key hw hlt
        · have hlast : ∃ b, A[0 + H.length + (z.text.length - 1)]? = some (z.atom (z.text.length - 1) b) := by
            have hb : z.text[z.text.length - 1]? = some (z.text[z.text.length - 1]'(by omega)) := List.getElem?_eq_getElem _
            refine ⟨z.text[z.text.length - 1]'(by omega), ?_⟩
            rw [← List.getElem?_drop, hdr, q2, List.getElem?_append_left (by rw [atomsOf_len]; omega), atomsOf_get, hb]; rfl
          obtain ⟨b, hb⟩ := hlast
          have := atIx_at' hnd hb
          have hne : ¬ (z.r = 0 ∧ ln = 0) := by have := q3.n1; omega
          unfold posA
          rw [if_neg hne]
          have e9 : (z.atom (z.text.length - 1) b).n = ln := by rw [hln]; rfl
          rw [e9] at this
          have e8 : (z.atom (z.text.length - 1) b).r = z.r := rfl
          rw [e8] at this
          rw [this, List.length_append, atomsOf_len]
          simp only [Option.map_some]; congr 1; omega
      · have dk : decide (0 < cv) = false := decide_eq_false ck
        simp -implicitDefEqProofs [idA, keyA, same_self, RunV.cells, dk, ck]
        refine hq2 0 H R y h2 (oo.trans o2) hpos e1 e2 (fun w l e => ?_) e3 e4
        rw [q2] at e
        have hb : z.text[0]? = some (z.text[0]'(by omega)) := List.getElem?_eq_getElem _
        have h0 : (atomsOf z ++ rest)[0]? = some (z.atom 0 (z.text[0]'(by omega))) := by
          rw [List.getElem?_append_left (by rw [atomsOf_len]; omega), atomsOf_get, hb]; rfl
        rw [e] at h0
        have h0 : w = z.atom 0 (z.text[0]'(by omega)) := by simpa using h0
        rw [h0]
        exact fun hh => ck (hgt.2 hh)
    · have hR : R = [] := by
        have := q1 _ e3
        have h2 := congrArg List.length hdr
        rw [List.length_drop] at h2
        exact List.length_eq_zero_iff.1 (by omega)
      simp -implicitDefEqProofs [idA, keyA, same_self, zeroRun]
      exact hq2 0 H R y h' oo hpos e1 e2 (fun w l e => by rw [hR] at e; cases e) e3 e4
  · rw [decide_eq_false c]
    simp -implicitDefEqProofs [idA, keyA, same_self]
    refine shasG_ev S hx ?_
    cases hix : atIx A x.1 x.2 with
    | none =>
      simp -implicitDefEqProofs [idA, keyA, same_self]
      exact hq1 (fun e => c ⟨by rw [e], by rw [e]⟩) hix
    | some i =>
      have hpos : posA A x.1 x.2 = some (i + 1) := by unfold posA; rw [if_neg c, hix]; rfl
      simp -implicitDefEqProofs [idA, keyA, same_self]
      have hnd := S.nd
      have hps := S.pos
      have hlen := S.len
      have hnum := S.num
      refine scope_loop2 (by simp [findLabel]) (fun m env h' => Old h h' ∧ ∃ (H R : List AtV) (y : IdT), m = R.length ∧ A.drop (i + 1) = H ++ R ∧ (∀ z ∈ H, klt k z.key) ∧ posA A y.1 y.2 = some ((i + 1) + H.length) ∧ y.2 < 2 ^ 32 ∧
        env = (.ptr s 0 :: .dead :: .dead :: .dead :: .dead :: .cell [.int .u64 k.1, .int .u16 k.2.1, .int .u32 k.2.2] :: .cell [.int .u16 0, .int .u32 0] :: .dead :: .cell [.int .u16 y.1, .int .u32 y.2] :: .dead :: .dead :: .dead :: .dead :: .dead :: .dead :: .dead :: .dead :: .dead :: .dead :: .dead :: .dead :: .dead :: .dead :: .dead :: .dead :: .dead :: .dead :: .dead :: .dead :: .dead :: .dead :: .dead :: .dead :: .dead :: .dead :: .dead :: .dead :: .dead :: .dead :: [])) ?_ (A.drop (i + 1)).length ⟨Old.refl h, [], A.drop (i + 1), x, rfl, rfl, fun z hz => (by cases hz), hpos, hx, rfl⟩
      rintro m env h' ih ⟨oo, H, R, y, rfl, e1, e2, e3, e4, rfl⟩
      have S' := S.keep oo
      have hdr : A.drop ((i + 1) + H.length) = R := by rw [← List.drop_drop, e1]; simp
      simp -implicitDefEqProofs [idA, keyA, same_self]
      refine sbehind_ev hro S' (ar := y.1) (an := y.2) e4 (fun kk z rest q1 q2 q3 q4 => ?_) (fun q1 => ?_)
      · have hkk : kk = (i + 1) + H.length := by rw [e3] at q1; exact (Option.some.inj q1).symm
        rw [hkk, hdr] at q2
        have zp := q3.pos
        have zn := q3.n2
        simp -implicitDefEqProofs [idA, keyA, same_self, RunV.cells]
        refine keyCmp_ev (c := z.clock) (r := z.r) (n := z.n) (c' := k.1) (r' := k.2.1) (n' := k.2.2) (fun h2 o2 => ?_)
        have hgt := cmpK_gt (z.clock, z.r, z.n) k
        obtain ⟨cv, hcv⟩ : ∃ cv, cv = cmpK (z.clock, z.r, z.n) (k.1, k.2.1, k.2.2) := ⟨_, rfl⟩
        rw [← hcv] at hgt ⊢
        by_cases ck : 0 < cv
        · have hlt := hgt.1 ck
          have dk : decide (0 < cv) = true := decide_eq_true ck
          simp -implicitDefEqProofs [idA, keyA, same_self, RunV.cells, dk, ck]
          refine rLast_ev (x := z) zp (by omega) ?_
          obtain ⟨ln, hln⟩ : ∃ ln, ln = z.n + (z.text.length - 1) := ⟨_, rfl⟩
          rw [← hln]
          simp -implicitDefEqProofs [idA, keyA, same_self, RunV.cells]
          refine ih rest.length ?_ _ _ ⟨oo.trans o2, H ++ atomsOf z, rest, (z.r, ln), rfl, by rw [e1, q2]; simp, fun w hw => ?_, ?_, by simp only []; omega, rfl⟩
          · rw [q2, List.length_append, atomsOf_len]; omega
          · rcases List.mem_append.1 hw with hw | hw
            · exact e2 w hw
            · exact atoms_key hw hlt
          · have hlast : ∃ b, A[(i + 1) + H.length + (z.text.length - 1)]? = some (z.atom (z.text.length - 1) b) := by
              have hb : z.text[z.text.length - 1]? = some (z.text[z.text.length - 1]'(by omega)) := List.getElem?_eq_getElem _
              refine ⟨z.text[z.text.length - 1]'(by omega), ?_⟩
              rw [← List.getElem?_drop, hdr, q2, List.getElem?_append_left (by rw [atomsOf_len]; omega), atomsOf_get, hb]; rfl
            obtain ⟨b, hb⟩ := hlast
            have := atIx_at' hnd hb
            have hne : ¬ (z.r = 0 ∧ ln = 0) := by have := q3.n1; omega
            unfold posA
            rw [if_neg hne]
            have e9 : (z.atom (z.text.length - 1) b).n = ln := by rw [hln]; rfl
            rw [e9] at this
            have e8 : (z.atom (z.text.length - 1) b).r = z.r := rfl
            rw [e8] at this
            rw [this, List.length_append, atomsOf_len]
            simp only [Option.map_some]; congr 1; omega
        · have dk : decide (0 < cv) = false := decide_eq_false ck
          simp -implicitDefEqProofs [idA, keyA, same_self, RunV.cells, dk, ck]
          refine hq2 (i + 1) H R y h2 (oo.trans o2) hpos e1 e2 (fun w l e => ?_) e3 e4
          rw [q2] at e
          have hb : z.text[0]? = some (z.text[0]'(by omega)) := List.getElem?_eq_getElem _
          have h0 : (atomsOf z ++ rest)[0]? = some (z.atom 0 (z.text[0]'(by omega))) := by
            rw [List.getElem?_append_left (by rw [atomsOf_len]; omega), atomsOf_get, hb]; rfl
          rw [e] at h0
          have h0 : w = z.atom 0 (z.text[0]'(by omega)) := by simpa using h0
          rw [h0]
          exact fun hh => ck (hgt.2 hh)
      · have hR : R = [] := by
          have := q1 _ e3
          have h2 := congrArg List.length hdr
          rw [List.length_drop] at h2
          exact List.length_eq_zero_iff.1 (by omega)
        simp -implicitDefEqProofs [idA, keyA, same_self, zeroRun]
        exact hq2 (i + 1) H R y h' oo hpos e1 e2 (fun w l e => by rw [hR] at e; cases e) e3 e4
end
end Go.Proofs.YthblmlkkmebciaaDoor
set_option linter.all false
set_option maxRecDepth 100000
set_option maxHeartbeats 4000000
namespace Go.Proofs.YthblmlkkmebciaaDoor
open Go Go.RowKit Go.Proofs
def RunV.key (x : RunV) : KeyT := (x.clock, x.r, x.n)
section
variable {ro : Nat → Option (List AVal)}
theorem gput_ok_ev (hro : ro 0 = some [.int .u16 0, .int .u32 0]) {h : AHeap} {s p0 : Nat} {O : Nat → Prop} {A : List AtV} {x : IdT} {r : RunV} (S : StA h s O A) (hx : x.2 < 2 ^ 32) (hr : RunOk r) (hp : plain r.text = true) (hpos : posA A x.1 x.2 = some p0) (hhit : hitA A r = false) (hlen : A.length + r.text.length ≤ 65536) {Q : AVal → AHeap → Prop}
    (hq : ∀ H R h' O', A.drop p0 = H ++ R → (∀ z ∈ H, klt r.key z.key) → (∀ z l, R = z :: l → ¬ klt r.key z.key) → StA h' s O' (A.take p0 ++ (H ++ (atomsOf r ++ R))) → Stp h O h' O' → Q (.int .i64 0) h') :
    Ev (cfgR ro) 23 [.ptr s 0, idA x.1 x.2, .agg r.cells] h Q := by
  refine Ev.wp rfl rfl Tryd.func23 rfl ?_
  have hrl := hr.len
  have hrn := hr.n2
  have hre := hr.e2
  have hrp := hr.pos
  simp -implicitDefEqProofs [Tryd.f23, idA, RunV.cells, same_self]
  refine rRight_ev (x := r) (by omega) (by omega) (by omega) (fun h0 b o0 hb => ?_)
  have hbt : b = true := hb.2 ⟨hr, hp⟩
  subst hbt
  have S0 := S.keep o0
  simp -implicitDefEqProofs [same_self]
  refine where_ev hro (x := x) (k := (r.clock, r.r, r.n)) S0 hx (fun h1 h2 => ?_) (fun p H R y h1 o1 e1 e2 e3 e4 e5 e6 => ?_)
  · unfold posA at hpos
    rw [if_neg (fun c => h1 (Prod.ext c.1 c.2)), h2] at hpos; cases hpos
  · have hpp : p = p0 := by rw [e1] at hpos; exact Option.some.inj hpos
    subst hpp
    have S1 := S0.keep o1
    simp -implicitDefEqProofs [same_self, idA]
    refine sput_ev hro (x := r) (ar := y.1) (an := y.2) S1 e6 (by omega) (by omega) (by omega) (fun h2 O2 S2 P2 => ?_)
    have hpl : p ≤ A.length := by
      rcases posA_iff (x := x) hpos with ⟨_, e⟩ | ⟨i, a, e, _, e'⟩
      · omega
      · have := (List.getElem?_eq_some_iff.1 e).1; omega
    have hput : putA A y.1 y.2 r = (A.take p ++ (H ++ (atomsOf r ++ R)), 0) := by
      unfold putA
      rw [if_neg (fun c => c ⟨hr, hp⟩), e5]
      simp only [hhit, Bool.false_eq_true, if_false]
      rw [if_neg (by omega)]
      have t1 : A.take (p + H.length) = A.take p ++ H := by
        have : A = A.take p ++ (H ++ R) := by rw [← e2, List.take_append_drop]
        have hl : (A.take p).length = p := by rw [List.length_take]; omega
        conv => lhs; rw [this]
        rw [show p + H.length = (A.take p).length + H.length by rw [hl], List.take_length_add_append, List.take_left]
      have t2 : A.drop (p + H.length) = R := by rw [← List.drop_drop, e2]; simp
      rw [t1, t2]; simp
    rw [hput] at S2 ⊢
    simp -implicitDefEqProofs
    exact hq H R h2 O2 e2 e3 e4 S2 ((Stp.ofOld O (o0.trans o1)).trans P2)
theorem gput_bad_ev (hro : ro 0 = some [.int .u16 0, .int .u32 0]) {h : AHeap} {s : Nat} {O : Nat → Prop} {A : List AtV} {x : IdT} {r : RunV} (S : StA h s O A) (hx : x.2 < 2 ^ 32) (hrt : r.text.length < 2 ^ 60) (hrn : r.n < 2 ^ 32) (hre : r.en < 2 ^ 32) (hno : x ≠ (0, 0)) (hnone : atIx A x.1 x.2 = none) {Q : AVal → AHeap → Prop}
    (hq : ∀ h', Old h h' → Q (.int .i64 (if RunOk r ∧ plain r.text = true then 40 else 11)) h') :
    Ev (cfgR ro) 23 [.ptr s 0, idA x.1 x.2, .agg r.cells] h Q := by
  refine Ev.wp rfl rfl Tryd.func23 rfl ?_
  simp -implicitDefEqProofs [Tryd.f23, idA, RunV.cells, same_self]
  refine rRight_ev (x := r) hrt hrn hre (fun h0 b o0 hb => ?_)
  have S0 := S.keep o0
  cases b with
  | false =>
    have hq := hq h0 o0
    rw [if_neg (fun c => by have := hb.2 c; cases this)] at hq
    simp -implicitDefEqProofs [same_self]
    exact hq
  | true =>
    have hq := hq h0 o0
    rw [if_pos (hb.1 rfl)] at hq
    simp -implicitDefEqProofs [same_self]
    refine where_ev hro (x := x) (k := (r.clock, r.r, r.n)) S0 hx (fun h1 h2 => ?_) (fun p H R y h1 o1 e1 e2 e3 e4 e5 e6 => ?_)
    · simp -implicitDefEqProofs [same_self, idA]
      exact hq
    · exfalso
      unfold posA at e1
      rw [if_neg (fun c => hno (Prod.ext c.1 c.2)), hnone] at e1; cases e1
theorem ganch_ev (hro : ro 0 = some [.int .u16 0, .int .u32 0]) {h : AHeap} {s : Nat} {O : Nat → Prop} {A : List AtV} {x : IdT} {k : KeyT} (S : StA h s O A) (hx : x.2 < 2 ^ 32) {Q : AVal → AHeap → Prop}
    (hq : ∀ b h', Old h h' → (b = true ↔ (x = (0, 0) ∨ ∃ a ∈ A, a.id = x ∧ klt a.key k)) → Q (.bool b) h') :
    Ev (cfgR ro) 58 [.ptr s 0, idA x.1 x.2, keyA k.1 k.2.1 k.2.2] h Q := by
  refine Ev.wp rfl rfl Tryd.func58 rfl ?_
  have hnd := S.nd
  simp -implicitDefEqProofs [Tryd.f58, idA, keyA, same_self]
  refine sget_ev S hx (fun i a e1 e2 => ?_) (fun hnone => ?_)
  · have hne : x ≠ (0, 0) := fun e => by
      have hp := S.pos a (List.mem_of_getElem? e2)
      unfold atIx at e1
      rw [List.findIdx?_eq_some_iff_getElem] at e1
      obtain ⟨l, h2, _⟩ := e1
      obtain ⟨l2, e3⟩ := List.getElem?_eq_some_iff.1 e2
      rw [e3] at h2
      have h2 := of_decide_eq_true h2
      rw [e] at h2
      simp only at h2
      omega
    have hid : a.id = x := by
      unfold atIx at e1
      rw [List.findIdx?_eq_some_iff_getElem] at e1
      obtain ⟨l, h2, _⟩ := e1
      obtain ⟨l2, e3⟩ := List.getElem?_eq_some_iff.1 e2
      rw [e3] at h2
      have h2 := of_decide_eq_true h2
      exact Prod.ext h2.1 h2.2
    simp -implicitDefEqProofs [idA, keyA, same_self, AtV.cells]
    refine idRoot_ev hro ?_
    rw [decide_eq_false (fun c : x.1 = 0 ∧ x.2 = 0 => hne (Prod.ext c.1 c.2))]
    simp -implicitDefEqProofs [idA, keyA, same_self, AtV.cells]
    refine keyCmp_ev (c := a.clock) (r := a.r) (n := a.n) (c' := k.1) (r' := k.2.1) (n' := k.2.2) (fun h2 o2 => ?_)
    have hlt := cmpK_lt (a.clock, a.r, a.n) k
    obtain ⟨cv, hcv⟩ : ∃ cv, cv = cmpK (a.clock, a.r, a.n) (k.1, k.2.1, k.2.2) := ⟨_, rfl⟩
    rw [← hcv] at hlt ⊢
    simp -implicitDefEqProofs [idA, keyA, same_self, AtV.cells]
    refine hq _ h2 o2 ?_
    rw [decide_eq_true_iff, hlt]
    constructor
    · intro hk; exact .inr ⟨a, List.mem_of_getElem? e2, hid, hk⟩
    · rintro (e | ⟨b, hb, e, hk⟩)
      · exact (hne e).elim
      · have : b = a := by
          obtain ⟨j, hj⟩ := List.mem_iff_getElem?.1 hb
          have h3 := atIx_at' hnd hj
          have h4 := atIx_at' hnd e2
          have e5 : b.r = a.r ∧ b.n = a.n := by
            have := e.trans hid.symm
            unfold AtV.id at this
            simp only [Prod.mk.injEq] at this; exact this
          rw [e5.1, e5.2, h4] at h3
          cases h3
          rw [e2] at hj; exact (Option.some.inj hj).symm
        rw [this] at hk; exact hk
  · simp -implicitDefEqProofs [idA, keyA, same_self, zeroAtom]
    refine idRoot_ev hro ?_
    by_cases c : x.1 = 0 ∧ x.2 = 0
    · rw [decide_eq_true c]
      simp -implicitDefEqProofs [idA, keyA, same_self, zeroAtom]
      exact hq true h (Old.refl h) ⟨fun _ => .inl (Prod.ext c.1 c.2), fun _ => rfl⟩
    · rw [decide_eq_false c]
      simp -implicitDefEqProofs [idA, keyA, same_self, zeroAtom]
      refine hq false h (Old.refl h) ⟨fun e => (nomatch e), fun hh => ?_⟩
      rcases hh with e | ⟨a, ha, e, _⟩
      · exact (c ⟨by rw [e], by rw [e]⟩).elim
      · obtain ⟨j, hj⟩ := List.mem_iff_getElem?.1 ha
        have := atIx_at' hnd hj
        have e5 : a.r = x.1 ∧ a.n = x.2 := by rw [← e]; exact ⟨rfl, rfl⟩
        rw [e5.1, e5.2, hnone] at this; cases this
end
end Go.Proofs.YthblmlkkmebciaaDoor
set_option linter.all false
set_option maxRecDepth 100000
set_option maxHeartbeats 4000000
namespace Go.Proofs.YthblmlkkmebciaaDoor
open Go Go.RowKit Go.Proofs
/-- a run, anchored -/
structure O17 where
  an : IdT
  x : RunV
def O17.cells (o : O17) : List AVal := [.int .u16 o.an.1, .int .u32 o.an.2, .int .u64 o.x.clock, .int .u16 o.x.r, .int .u32 o.x.n, .int .u16 o.x.er, .int .u32 o.x.en, .str o.x.text, .bool o.x.shown]
structure R17 (o : O17) : Prop where
  an : o.an.2 < 2 ^ 32
  x : RunR o.x
/-- one that can be put -/
structure okS (T : List TV) (o : O17) : Prop where
  ok : RunOk o.x
  pl : plain o.x.text = true
  anc : ancT T o.an o.x.key
  free : ∀ a ∈ atomsOf o.x, ∀ t ∈ T, t.id ≠ a.id
def grT (T : List TV) (o : O17) : List TV := T ++ tvs o.an (atomsOf o.x)
inductive Steps : List O17 → List TV → Prop
  | nil : Steps [] []
  | snoc {ds : List O17} {T : List TV} {o : O17} : Steps ds T → okS T o → Steps (ds ++ [o]) (grT T o)
/-- what a run makes of a grown row -/
theorem Grown.put {T : List TV} {A : List AtV} (G : Grown T A) {o : O17} (h : okS T o) {p : Nat} (hp : posA A o.an.1 o.an.2 = some p) {H R : List AtV} (e : A.drop p = H ++ R) (h1 : ∀ z ∈ H, klt o.x.key z.key) (h2 : ∀ z l, R = z :: l → ¬ klt o.x.key z.key) : Grown (grT T o) (A.take p ++ (H ++ (atomsOf o.x ++ R))) := by
  rcases hx : o.x with ⟨c, r, n, er, en, tx, sh⟩
  have hok := h.ok
  rw [hx] at hok
  cases tx with
  | nil => have := hok.pos; simp at this
  | cons b s =>
    have hat : atomsOf o.x = ⟨c, r, n, er, en, b, sh⟩ :: atF c r sh (n + 1) er (en + 1) s := by rw [hx]; rfl
    have hkey : o.x.key = (⟨c, r, n, er, en, b, sh⟩ : AtV).key := by rw [hx]; rfl
    have hids := atF_ids c r sh (b :: s) n er en
    have hn1 := hok.n1
    simp only at hn1
    have hfr := h.free
    rw [hat] at hfr
    have hup : o.an = (0, 0) ∨ ∃ u ∈ T, u.id = o.an ∧ klt u.key (⟨c, r, n, er, en, b, sh⟩ : AtV).key := by
      rw [← hkey]; exact h.anc
    obtain ⟨H', R', g1, g2, g3, g4⟩ := G.run (x := o.an) (b := ⟨c, r, n, er, en, b, sh⟩) (bs := atF c r sh (n + 1) er (en + 1) s) (posA_iff hp) hup (atF_row c r sh s n er en b) hfr hids.1 (fun y hy e => by
      have := hids.2 y hy
      unfold AtV.id at e
      simp only [Prod.mk.injEq] at e
      omega)
    rw [hkey] at h1 h2
    obtain ⟨rfl, rfl⟩ := part_uniq (g1.symm.trans e) g3 g4 h1 h2
    unfold grT
    rw [hat]
    have e9 : atomsOf ⟨c, r, n, er, en, b :: s, sh⟩ = ⟨c, r, n, er, en, b, sh⟩ :: atF c r sh (n + 1) er (en + 1) s := rfl
    rw [e9]
    simpa using g2
section
variable {ro : Nat → Option (List AVal)}
theorem ref17_ev {h : AHeap} {x : RunV} {Q : AVal → AHeap → Prop} (hq : Q (.agg x.cells) h) : Ev (cfgR ro) 28 [.agg x.cells] h Q := by
  refine Ev.wp rfl rfl Tryd.func28 rfl ?_
  simp only [RunV.cells] at hq
  simp -implicitDefEqProofs [Tryd.f28, RunV.cells, same_self]
  exact hq
theorem put17law_ev (hro : ro 0 = some [.int .u16 0, .int .u32 0]) {h : AHeap} {s c n : Nat} {x : IdT} {tx : Str} {Q : AVal → AHeap → Prop} (hq : ∀ K : AVal → AHeap → Prop, (∀ e h', Q (.int .i64 e) h' → K (.int .i64 e) h') → Ev (cfgR ro) 23 [.ptr s 0, idA x.1 x.2, .agg (RunV.cells ⟨c, 0, n, 0, n, tx, true⟩)] h K) : Ev (cfgR ro) 57 [.ptr s 0, idA x.1 x.2, .int .u64 c, .int .u32 n, .str tx] h Q := by
  refine Ev.wp rfl rfl Tryd.func57 rfl ?_
  simp only [idA, RunV.cells] at hq
  simp -implicitDefEqProofs [Tryd.f57, idA, same_self]
  refine hq _ (fun e h' he => ?_)
  simp -implicitDefEqProofs
  exact he
theorem free17_ev {h : AHeap} {v : AVal} {T : List TV} {x : RunV} (hs : Sl (cfgR ro) h 9 v (T.map TV.cells)) (hl : T.length < 2 ^ 60) (hxl : x.text.length < 2 ^ 60) (hn : x.n < 2 ^ 32) (he : x.en < 2 ^ 32) {Q : AVal → AHeap → Prop}
    (hq : ∀ b h', Old h h' → (b = true ↔ RunOk x ∧ plain x.text = true ∧ ∀ a ∈ atomsOf x, ∀ t ∈ T, t.id ≠ a.id) → Q (.bool b) h') : Ev (cfgR ro) 25 [v, .agg x.cells] h Q := by
  refine Ev.wp rfl rfl Tryd.func25 rfl ?_
  simp -implicitDefEqProofs [Tryd.f25, RunV.cells]
  refine ref17_ev (x := x) ?_
  simp -implicitDefEqProofs [RunV.cells]
  refine right15_ev (x := x) hxl hn he (fun b hb => ?_)
  cases b with
  | false =>
    simp -implicitDefEqProofs
    exact hq false h (Old.refl h) ⟨fun e => (nomatch e), fun hh => by have := hb.2 ⟨hh.1, hh.2.1⟩; cases this⟩
  | true =>
    obtain ⟨hx, hp⟩ := hb.1 rfl
    have hxl2 := hx.len
    simp -implicitDefEqProofs
    refine ref17_ev (x := x) ?_
    simp -implicitDefEqProofs [RunV.cells]
    refine atoms15_ev (x := x) hx (fun v2 h1 o1 m2 => ?_)
    have ht := m2.sl (c := cfgR ro)
    have hL2 : lenR (cfgR ro) h1 32 v2 = .ok (.int .i64 (x.text.length : Nat)) := by have := ht.lenR (t := 32) un32; simpa [atomsOf_len] using this
    simp -implicitDefEqProofs [hL2]
    obtain ⟨I, hI⟩ : ∃ I : Nat → List AVal → AHeap → Prop, I = fun m env h' => h' = h1 ∧ ∃ i : Nat, i + m = x.text.length ∧ (∀ j a, j < i → (atomsOf x)[j]? = some a → ∀ t ∈ T, t.id ≠ a.id) ∧
      env = (v :: .dead :: .dead :: .dead :: .dead :: .dead :: .dead :: .dead :: .dead :: .dead :: .dead :: .dead :: .dead :: v2 :: .int .i64 (x.text.length : Nat) :: .int .i64 (i : Nat) :: .dead :: .dead :: .dead :: .dead :: .dead :: .dead :: .dead :: .dead :: .dead :: []) := ⟨_, rfl⟩
    refine loop_of I ?_ x.text.length (by rw [hI]; exact ⟨rfl, 0, by omega, fun j a hj => by omega, rfl⟩)
    intro m env h' hi
    rw [hI] at hi
    obtain ⟨rfl, i, him, hno, rfl⟩ := hi
    by_cases hlt : i < x.text.length
    · obtain ⟨a, ha⟩ : ∃ a, (atomsOf x)[i]? = some a := ⟨_, List.getElem?_eq_getElem (by rw [atomsOf_len]; exact hlt)⟩
      have E := El.of ht ha
      have El_ := E.l
      have w1 : IntKind.i64.wrap ((i : Int) + 1) = ((i + 1 : Nat) : Int) := by rw [w64 (by omega) (by omega)]; omega
      simp -implicitDefEqProofs [hL2, hlt, E.x, El_]
      refine id17_ev (a := a) ?_
      simp -implicitDefEqProofs [idA]
      refine find17_ev (x := (a.r, a.n)) (hs.old o1) hl ?_
      cases hf : fixT T (a.r, a.n) with
      | none =>
        simp -implicitDefEqProofs [ixI, w1]
        exact .mk (m := m - 1) (by omega) (by rw [hI]; exact ⟨rfl, i + 1, by omega, fun j b hj hb => by
          by_cases e : j = i
          · subst e; rw [ha] at hb; cases hb; exact fixT_none.1 hf
          · exact hno j b (by omega) hb, by simp⟩)
      | some z =>
        obtain ⟨t, h3, h4⟩ := fixT_get hf
        have dz : decide ((0 : Int) ≤ (z : Int)) = true := decide_eq_true (by omega)
        simp -implicitDefEqProofs [ixI, dz]
        exact hq false h' o1 ⟨fun e => (nomatch e), fun hh => (hh.2.2 a (List.mem_of_getElem? ha) t (List.mem_of_getElem? h3) h4).elim⟩
    · simp -implicitDefEqProofs [hlt]
      refine hq true h' o1 ⟨fun _ => ⟨hx, hp, fun a ha => ?_⟩, fun _ => rfl⟩
      obtain ⟨j, hj⟩ := List.mem_iff_getElem?.1 ha
      have hjl := (List.getElem?_eq_some_iff.1 hj).1
      rw [atomsOf_len] at hjl
      exact hno j a (by omega) hj
def size17 (l : List O17) : Nat := (l.map fun o => min o.x.text.length 3000).sum
theorem small17_ev {h : AHeap} {v : AVal} {l : List O17} (hs : Sl (cfgR ro) h 9 v (l.map O17.cells)) (hl : l.length < 2 ^ 63) (hr : ∀ o ∈ l, R17 o) {Q : AVal → AHeap → Prop} (hq1 : size17 l ≤ 300 → l.length ≤ 80 → Q (.bool true) h) (hq2 : Q (.bool false) h) : Ev (cfgR ro) 17 [v] h Q := by
  refine Ev.wp rfl rfl Tryd.func17 rfl ?_
  have hL : lenR (cfgR ro) h 49 v = .ok (.int .i64 (l.length : Nat)) := by have := hs.lenR (t := 49) un49; simpa using this
  simp -implicitDefEqProofs [Tryd.f17, hL]
  obtain ⟨I, hI⟩ : ∃ I : Nat → List AVal → AHeap → Prop, I = fun m env h' => h' = h ∧ ∃ i : Nat, i + m = l.length ∧ size17 (l.take i) ≤ 300 ∧
    env = (v :: .dead :: .dead :: .int .i64 (size17 (l.take i) : Nat) :: .dead :: .dead :: v :: .int .i64 (l.length : Nat) :: .int .i64 (i : Nat) :: .dead :: .dead :: .dead :: .dead :: .dead :: .dead :: .dead :: .dead :: .dead :: .dead :: .dead :: .dead :: .dead :: .dead :: .dead :: .dead :: []) := ⟨_, rfl⟩
  refine loop_of I ?_ l.length (by rw [hI]; exact ⟨rfl, 0, by omega, by simp [size17], rfl⟩)
  intro m env h' hi
  rw [hI] at hi
  obtain ⟨rfl, i, him, hsz, rfl⟩ := hi
  by_cases hlt : i < l.length
  · obtain ⟨o, ho⟩ : ∃ o, l[i]? = some o := ⟨_, List.getElem?_eq_getElem hlt⟩
    have he : (l.map O17.cells)[i]? = some o.cells := by rw [List.getElem?_map, ho]; rfl
    have hx : indexAddrR Tryd.prog 49 v (.int .i64 (i : Nat)) = .ok (elp v 9 i) := hs.idx un49 sz51 (by simpa using hlt)
    have hld : loadR (cfgR ro) h' 51 (elp v 9 i) = .ok (.agg o.cells) := hs.load he ag51 sz51
    have w1 : IntKind.i64.wrap ((i : Int) + 1) = ((i + 1 : Nat) : Int) := by rw [w64 (by omega) (by omega)]; omega
    have hsc : size17 (l.take (i + 1)) = size17 (l.take i) + min o.x.text.length 3000 := by
      obtain ⟨l1, e1⟩ := List.getElem?_eq_some_iff.1 ho
      rw [List.take_succ_eq_append_getElem l1, e1]; simp [size17]
    obtain ⟨n, hn⟩ : ∃ n, n = size17 (l.take i) := ⟨_, rfl⟩
    rw [← hn] at hsz hsc ⊢
    simp only [O17.cells] at hld
    have hmin : foldR min2R (.int .i64 (o.x.text.length : Nat)) [.int .i64 3000] = .ok (.int .i64 (min o.x.text.length 3000 : Nat)) := by
      have : min2R (.int .i64 (o.x.text.length : Nat)) (.int .i64 3000) = .ok (.int .i64 (min o.x.text.length 3000 : Nat)) := by
        simp [min2R]; omega
      simp [foldR, this]
    obtain ⟨mn, hmn⟩ : ∃ mn, mn = min o.x.text.length 3000 := ⟨_, rfl⟩
    rw [← hmn] at hmin hsc
    have w2 : IntKind.i64.wrap ((n : Int) + (mn : Int)) = ((n + mn : Nat) : Int) := by rw [w64 (by omega) (by omega)]; omega
    obtain ⟨n2, hn2⟩ : ∃ n2, n2 = n + mn := ⟨_, rfl⟩
    rw [← hn2] at w2 hsc
    by_cases c : 300 < n2
    · have d1 : decide ((300 : Int) < (n2 : Int)) = true := decide_eq_true (by omega)
      simp -implicitDefEqProofs [hlt, hx, hld, hmin, w2, c, d1]
      exact hq2
    · have d1 : decide ((300 : Int) < (n2 : Int)) = false := decide_eq_false (by omega)
      simp -implicitDefEqProofs [hlt, hx, hld, hmin, w1, w2, c, d1]
      exact .mk (m := m - 1) (by omega) (by rw [hI]; exact ⟨rfl, i + 1, by omega, by omega, by rw [hsc]; simp⟩)
  · have : l.take i = l := List.take_of_length_le (by omega)
    rw [this] at hsz ⊢
    simp -implicitDefEqProofs [hlt, hL]
    by_cases c : l.length ≤ 80
    · rw [decide_eq_true (by omega : (l.length : Int) ≤ 80)]
      exact hq1 hsz c
    · rw [decide_eq_false (by omega : ¬ (l.length : Int) ≤ 80)]
      exact hq2
end
end Go.Proofs.YthblmlkkmebciaaDoor
set_option linter.all false
set_option maxRecDepth 100000
set_option maxHeartbeats 4000000
namespace Go.Proofs.YthblmlkkmebciaaDoor
open Go Go.RowKit Go.Proofs
/-- a row of one's own, apart from a store -/
structure Wx (h0 h : AHeap) (O : Nat → Prop) (sz : Nat) (es : List (List AVal)) (v : AVal) : Prop where
  m : Mine h0 h sz es v
  no : ∀ o, vobj v o → ¬ O o
theorem Wx.stp {h0 h h' : AHeap} {O O' : Nat → Prop} {sz : Nat} {es : List (List AVal)} {v : AVal} (W : Wx h0 h O sz es v) (P : Stp h O h' O') : Wx h0 h' O' sz es v := by
  have ob := W.m.obj
  refine ⟨W.m.keepO (fun o ho => P.keep o (ob o ho).2 (W.no o ho)) P.nx, fun o ho hO => ?_⟩
  rcases P.own o hO with h1 | h1
  · exact W.no o ho h1
  · have := (ob o ho).2; omega
theorem Wx.old {h0 h h' : AHeap} {O : Nat → Prop} {sz : Nat} {es : List (List AVal)} {v : AVal} (W : Wx h0 h O sz es v) (o : Old h h') : Wx h0 h' O sz es v := ⟨W.m.keep o, W.no⟩
theorem StA.keepO {h h' : AHeap} {s : Nat} {O : Nat → Prop} {A : List AtV} (S : StA h s O A) (k : ∀ o, O o → h'.get o = h.get o) (hn : h.next ≤ h'.next) : StA h' s O A := by
  obtain ⟨m, t, ix, a1, a2, a3, a4, a5, a6, rfl⟩ := S
  have kk : ∀ q, IObj m h q → h'.get q = h.get q := fun q hq => k q (.inr (.inr hq))
  have kt : ∀ q, q ∈ t.ids → h'.get q = h.get q := fun q hq => k q (.inr (.inl hq))
  obtain ⟨⟨s0, hr⟩, b2, b3, b4, b5, b6⟩ := a1.rp
  refine ⟨m, t, ix, ⟨⟨⟨s0, by rw [k s (.inl rfl)]; exact hr⟩, At.congr kt b2, b3, b4, Nat.lt_of_lt_of_le b5 hn, fun o ho => Nat.lt_of_lt_of_le (b6 o ho) hn⟩, a1.ix.keep kk hn, a1.sub, fun o ho => a1.sep o ((IObj.keep a1 kk o).1 ho)⟩, a2, a3, a4, a5, a6, funext fun q => propext ?_⟩
  unfold SOwn
  rw [IObj.keep a1 kk]
section
variable {ro : Nat → Option (List AVal)}
theorem anchor17_ev (hro : ro 0 = some [.int .u16 0, .int .u32 0]) {h : AHeap} {Q : AVal → AHeap → Prop} (hq : ∀ h', Old h h' → Q (.bool true) h') : Ev (cfgR ro) 16 [] h Q := by
  refine Ev.wp rfl rfl Tryd.func16 rfl ?_
  have S0 := StA.new h
  obtain ⟨H0, hH0⟩ : ∃ H0, H0 = h.push (.row 0 false [.nilp, .int .u64 0, .nilm]) := ⟨_, rfl⟩
  obtain ⟨s, hss⟩ : ∃ s, s = h.next := ⟨_, rfl⟩
  have o0 : Old h H0 := by rw [hH0]; exact (Old.refl h).push _
  rw [← hH0, ← hss] at S0
  have ok1 : ∀ (c n : Nat) (b : UInt8), n = 1 ∨ n = 2 ∨ n = 3 → RunOk (⟨c, 0, n, 0, n, [b], true⟩ : RunV) := fun c n b hn => ⟨by simp, by simp, by simp only []; omega, by simp only [List.length_cons, List.length_nil]; omega, by simp only []; omega, by simp only [List.length_cons, List.length_nil]; omega⟩
  simp -implicitDefEqProofs [Tryd.f16]
  rw [← hH0, ← hss]
  refine put17law_ev hro (x := (0, 0)) (c := 1) (n := 1) (fun K hK => ?_)
  refine gput_ok_ev hro (x := (0, 0)) (r := ⟨1, 0, 1, 0, 1, [97], true⟩) S0 (by decide) (ok1 1 1 97 (by decide)) (by decide) (p0 := 0) rfl rfl (by decide) (fun H R h1 O1 e1 e2 e3 S1 P1 => hK _ _ ?_)
  have hHR : H = [] ∧ R = [] := by simpa using e1.symm
  rw [hHR.1, hHR.2] at S1
  have S1 : StA h1 s O1 [⟨1, 0, 1, 0, 1, 97, true⟩] := S1
  simp -implicitDefEqProofs
  refine put17law_ev hro (x := (0, 1)) (c := 2) (n := 2) (fun K hK => ?_)
  refine gput_ok_ev hro (x := (0, 1)) (r := ⟨2, 0, 2, 0, 2, [98], true⟩) S1 (by decide) (ok1 2 2 98 (by decide)) (by decide) (p0 := 1) (by decide) (by decide) (by decide) (fun H R h2 O2 e1 e2 e3 S2 P2 => hK _ _ ?_)
  have hHR : H = [] ∧ R = [] := by simpa using e1.symm
  rw [hHR.1, hHR.2] at S2
  have S2 : StA h2 s O2 [⟨1, 0, 1, 0, 1, 97, true⟩, ⟨2, 0, 2, 0, 2, 98, true⟩] := S2
  simp -implicitDefEqProofs
  refine put17law_ev hro (x := (0, 1)) (c := 3) (n := 3) (fun K hK => ?_)
  refine gput_ok_ev hro (x := (0, 1)) (r := ⟨3, 0, 3, 0, 3, [99], true⟩) S2 (by decide) (ok1 3 3 99 (by decide)) (by decide) (p0 := 1) (by decide) (by decide) (by decide) (fun H R h3 O3 e1 e2 e3 S3 P3 => hK _ _ ?_)
  obtain ⟨rfl, rfl⟩ := part_uniq (k := (3, 0, 3)) (H' := []) (R' := [⟨2, 0, 2, 0, 2, 98, true⟩]) e1.symm e2 e3 (fun y hy => by cases hy) (fun y l e => by cases e; decide)
  have S3 : StA h3 s O3 [⟨1, 0, 1, 0, 1, 97, true⟩, ⟨3, 0, 3, 0, 3, 99, true⟩, ⟨2, 0, 2, 0, 2, 98, true⟩] := S3
  simp -implicitDefEqProofs
  refine stext_ev S3 (fun h4 o4 => ?_)
  have t4 : shownA [⟨1, 0, 1, 0, 1, 97, true⟩, ⟨3, 0, 3, 0, 3, 99, true⟩, ⟨2, 0, 2, 0, 2, 98, true⟩] = [97, 99, 98] := by decide
  rw [t4]
  simp -implicitDefEqProofs [same_self]
  have PP := (P1.trans P2).trans (P3.trans (Stp.ofOld O3 o4))
  exact hq h4 (PP.toOld o0 (fun o ho => by rw [ho]; omega)).1
theorem grown_ev (hro : ro 0 = some [.int .u16 0, .int .u32 0]) {h : AHeap} {v : AVal} {l : List O17} (hs : Sl (cfgR ro) h 9 v (l.map O17.cells)) (hsz : size17 l ≤ 300) (h80 : l.length ≤ 80) (hr : ∀ o ∈ l, R17 o) {Q : AVal → AHeap → Prop}
    (hq : ∀ h' s O A T ds w d, Old h h' → StA h' s O A → (∀ o, O o → h.next ≤ o) → Grown T A → Steps ds T → A.length = T.length → T.length ≤ 300 → ds.length ≤ 80 → (∀ o ∈ ds, R17 o) → Wx h h' O 9 (T.map TV.cells) w → Wx h h' O 9 (ds.map O17.cells) d → Q (.tuple [.ptr s 0, w, d, .bool true]) h') :
    Ev (cfgR ro) 18 [v] h Q := by
  refine Ev.wp rfl rfl Tryd.func18 rfl ?_
  have S0 := StA.new h
  obtain ⟨H0, hH0⟩ : ∃ H0, H0 = h.push (.row 0 false [.nilp, .int .u64 0, .nilm]) := ⟨_, rfl⟩
  obtain ⟨s, hss⟩ : ∃ s, s = h.next := ⟨_, rfl⟩
  have o0 : Old h H0 := by rw [hH0]; exact (Old.refl h).push _
  rw [← hH0, ← hss] at S0
  have hL := (hs.old o0).lenR (t := 49) un49
  rw [List.length_map] at hL
  have memsz : ∀ o ∈ l, o.x.text.length < 3000 := by
    intro o ho
    have : ∀ l : List O17, o ∈ l → min o.x.text.length 3000 ≤ size17 l := by
      intro l
      induction l with
      | nil => intro h; cases h
      | cons p l ih =>
        intro h
        simp only [size17, List.map_cons, List.sum_cons] at ih ⊢
        rcases List.mem_cons.1 h with rfl | h
        · omega
        · have := ih h; omega
    have := this l ho; omega
  simp -implicitDefEqProofs [Tryd.f18]
  rw [← hH0, ← hss]
  simp -implicitDefEqProofs [hL]
  obtain ⟨I, hI⟩ : ∃ I : Nat → List AVal → AHeap → Prop, I = fun m env h' => ∃ (i : Nat) (O : Nat → Prop) (A : List AtV) (T : List TV) (ds : List O17) (w d : AVal), i + m = l.length ∧ Old h h' ∧ StA h' s O A ∧ (∀ o, O o → h.next ≤ o) ∧ Grown T A ∧ Steps ds T ∧ A.length = T.length ∧ T.length ≤ size17 (l.take i) ∧ ds.length ≤ i ∧ (∀ o ∈ ds, R17 o) ∧ Wx h h' O 9 (T.map TV.cells) w ∧ Wx h h' O 9 (ds.map O17.cells) d ∧ (∀ o, vobj w o → ¬ vobj d o) ∧
    env = (.dead :: .dead :: .dead :: .dead :: .dead :: .dead :: .ptr s 0 :: w :: d :: .dead :: .dead :: .dead :: .dead :: .dead :: v :: .int .i64 (l.length : Nat) :: .int .i64 (i : Nat) :: .dead :: .dead :: .dead :: .dead :: .dead :: .dead :: .dead :: .dead :: .dead :: .dead :: .dead :: .dead :: .dead :: .dead :: .dead :: .dead :: .dead :: .dead :: .dead :: .dead :: .dead :: .dead :: .dead :: .dead :: .dead :: .dead :: .dead :: .dead :: .dead :: .dead :: .dead :: .dead :: .dead :: .dead :: .dead :: .dead :: .dead :: .dead :: .dead :: .dead :: .dead :: .dead :: .dead :: .dead :: .dead :: .dead :: .dead :: .dead :: .dead :: .dead :: .dead :: .dead :: []) := ⟨_, rfl⟩
  refine loop_of I ?_ l.length (by rw [hI]; exact ⟨0, _, [], [], [], .nils, .nils, by omega, o0, S0, fun o ho => by rw [ho]; omega, Grown.nil, .nil, rfl, by simp, by simp, fun o ho => (by cases ho), ⟨Mine.nil _ _ _, fun o ho => ho.elim⟩, ⟨Mine.nil _ _ _, fun o ho => ho.elim⟩, fun o ho => ho.elim, rfl⟩)
  intro m env h' hi
  rw [hI] at hi
  obtain ⟨i, O, A, T, ds, w, d, him, oo, S, hO, G, St_, eAT, hTs, hds, hdr, Ww, Wd, hwd, rfl⟩ := hi
  by_cases hlt : i < l.length
  · obtain ⟨o, ho⟩ : ∃ o, l[i]? = some o := ⟨_, List.getElem?_eq_getElem hlt⟩
    have hom : o ∈ l := List.mem_of_getElem? ho
    have he : (l.map O17.cells)[i]? = some o.cells := by rw [List.getElem?_map, ho]; rfl
    have hsl := hs.old oo
    have hx : indexAddrR Tryd.prog 49 v (.int .i64 (i : Nat)) = .ok (elp v 9 i) := hsl.idx un49 sz51 (by simpa using hlt)
    have hld : loadR (cfgR ro) h' 51 (elp v 9 i) = .ok (.agg o.cells) := hsl.load he ag51 sz51
    have w1 : IntKind.i64.wrap ((i : Int) + 1) = ((i + 1 : Nat) : Int) := by rw [w64 (by omega) (by omega)]; omega
    have htx := memsz o hom
    have hor := hr o hom
    have hsc : size17 (l.take (i + 1)) = size17 (l.take i) + min o.x.text.length 3000 := by
      obtain ⟨l1, e1⟩ := List.getElem?_eq_some_iff.1 ho
      rw [List.take_succ_eq_append_getElem l1, e1]; simp [size17]
    have hle300 : size17 (l.take (i + 1)) ≤ 300 := by
      have : size17 l = size17 (l.take (i + 1)) + size17 (l.drop (i + 1)) := by
        have e9 : size17 (l.take (i + 1) ++ l.drop (i + 1)) = size17 (l.take (i + 1)) + size17 (l.drop (i + 1)) := by unfold size17; rw [List.map_append, List.sum_append]
        rw [List.take_append_drop] at e9; exact e9
      omega
    simp only [O17.cells] at hld
    have eqB : ∀ (h : AHeap) (a b : Bool), eqFlat Tryd.prog h .bool (.bool a) (.bool b) = .ok (a == b) := fun _ _ _ => rfl
    -- the step is none
    have skip : ∀ h2, Old h' h2 → headK I m (.dead :: .dead :: .dead :: .dead :: .dead :: .dead :: .ptr s 0 :: w :: d :: .dead :: .dead :: .dead :: .dead :: .dead :: v :: .int .i64 (l.length : Nat) :: .int .i64 (i + 1 : Nat) :: .dead :: .dead :: .dead :: .dead :: .dead :: .dead :: .dead :: .dead :: .dead :: .dead :: .dead :: .dead :: .dead :: .dead :: .dead :: .dead :: .dead :: .dead :: .dead :: .dead :: .dead :: .dead :: .dead :: .dead :: .dead :: .dead :: .dead :: .dead :: .dead :: .dead :: .dead :: .dead :: .dead :: .dead :: .dead :: .dead :: .dead :: .dead :: .dead :: .dead :: .dead :: .dead :: .dead :: .dead :: .dead :: .dead :: .dead :: .dead :: .dead :: .dead :: .dead :: .dead :: []) h2 := fun h2 o2 =>
      .mk (m := m - 1) (by omega) (by rw [hI]; exact ⟨i + 1, O, A, T, ds, w, d, by omega, oo.trans o2, S.keep o2, hO, G, St_, eAT, by omega, by omega, hdr, Ww.old o2, Wd.old o2, hwd, rfl⟩)
    simp -implicitDefEqProofs [hlt, hx, hld]
    refine anchored17_ev (x := o.an) (k := o.x.key) Ww.m.sl (by omega) G.tree.names (fun b hb => ?_)
    simp -implicitDefEqProofs [same_self]
    refine ganch_ev hro (x := o.an) (k := o.x.key) S hor.an (fun b2 h2 o2 hb2 => ?_)
    have hbb : b2 = b := by
      have : b2 = true ↔ b = true := by
        rw [hb, hb2]
        unfold ancT
        constructor
        · rintro (e | ⟨a, ha, e, hk⟩)
          · exact .inl e
          · obtain ⟨t, ht, rfl⟩ := (G.mem a).1 ha
            exact .inr ⟨t, ht, e, hk⟩
        · rintro (e | ⟨t, ht, e, hk⟩)
          · exact .inl e
          · exact .inr ⟨t.a, (G.mem _).2 ⟨t, ht, rfl⟩, e, hk⟩
      cases b <;> cases b2 <;> simp at this ⊢
    subst hbb
    have S2 := S.keep o2
    have Ww2 := Ww.old o2
    have Wd2 := Wd.old o2
    cases b2 with
    | false =>
      simp -implicitDefEqProofs [same_self, eqB, w1]
      exact skip h2 o2
    | true =>
      simp -implicitDefEqProofs [same_self, eqB]
      refine free17_ev (x := o.x) Ww2.m.sl (by omega) (by omega) hor.x.n hor.x.en (fun b3 h3 o3 hb3 => ?_)
      cases b3 with
      | false =>
        simp -implicitDefEqProofs [same_self, eqB, w1]
        exact skip h3 (o2.trans o3)
      | true =>
        obtain ⟨f1, f2, f3⟩ := hb3.1 rfl
        have hok : okS T o := ⟨f1, f2, hb.1 rfl, f3⟩
        have S3 := S2.keep o3
        have Ww3 := Ww2.old o3
        have Wd3 := Wd2.old o3
        have hhit : hitA A o.x = false := by
          unfold hitA
          rw [List.any_eq_false]
          intro a ha
          have : atIx A a.r a.n = none := atIx_no (fun j b hj hh => by
            obtain ⟨t, ht, e⟩ := (G.mem b).1 (List.mem_of_getElem? hj)
            exact f3 a ha t ht (by unfold TV.id AtV.id; rw [e, hh.1, hh.2]))
          rw [this]; simp
        obtain ⟨p0, hpos⟩ : ∃ p0, posA A o.an.1 o.an.2 = some p0 := by
          rcases hb.1 rfl with e | ⟨t, ht, e, _⟩
          · exact ⟨0, by unfold posA; rw [e]; rfl⟩
          · obtain ⟨j, hj⟩ := List.mem_iff_getElem?.1 ((G.mem t.a).2 ⟨t, ht, rfl⟩)
            have := atIx_at' G.nd hj
            have e5 : t.a.r = o.an.1 ∧ t.a.n = o.an.2 := by rw [← e]; exact ⟨rfl, rfl⟩
            unfold posA
            split
            · exact ⟨0, rfl⟩
            · rw [← e5.1, ← e5.2, this]; exact ⟨_, rfl⟩
        simp -implicitDefEqProofs [same_self, eqB]
        refine gput_ok_ev hro (x := o.an) (r := o.x) S3 hor.an f1 f2 hpos hhit (by omega) (fun H R h4 O4 e1 e2 e3 S4 P4 => ?_)
        have G4 := G.put hok hpos e1 e2 e3
        obtain ⟨oo4, hO4⟩ := P4.toOld ((oo.trans o2).trans o3) hO
        have Ww4 := Ww3.stp P4
        have Wd4 := Wd3.stp P4
        simp -implicitDefEqProofs [same_self, eqB]
        refine ref17_ev (x := o.x) ?_
        simp -implicitDefEqProofs [same_self, eqB, RunV.cells]
        refine put17_ev (y := o.an) (x := o.x) Ww4.m.sl (by omega) f1 (fun w5 h5 o5 m5 => ?_)
        have S5 := S4.keep o5
        have Wd5 := Wd4.old o5
        have m5o := m5.obj
        have hap5 : ∀ o, vobj w5 o → ¬ vobj d o := fun q hq hd => by have := (m5o q hq).1; have := (Wd4.m.obj q hd).2; omega
        have hno5 : ∀ q, vobj w5 q → ¬ O4 q := fun q hq ho => by have := (m5o q hq).1; have := S4.lt q ho; omega
        have op : Old h5 (h5.push (.row 9 false o.cells)) := (Old.refl h5).push _
        obtain ⟨d6, h6, k1, k2, k3⟩ := Mine.append1 (bytes := 56) (e := o.cells) (Wd5.m.keep op) (by decide) rfl (by rw [List.length_map]; omega) ((oo4.trans o5).trans op)
        obtain ⟨g1, g2, g3⟩ := app_frame k1 (Wd5.m.keep op).notSlc
        have hpn : (h5.push (.row 9 false o.cells)).next = h5.next + 1 := rfl
        have k1' := k1
        simp only [O17.cells] at k1'
        simp -implicitDefEqProofs [same_self, eqB, buildSliceR, reps, k1', w1]
        refine .mk (m := m - 1) (by omega) (by
          rw [hI]
          refine ⟨i + 1, O4, _, grT T o, ds ++ [o], w5, d6, by omega, k3, ?_, hO4, G4, .snoc St_ hok, ?_, ?_, by simp; omega, fun q hq => ?_, ?_, ⟨by rw [List.map_append]; exact k2, fun q hq ho => ?_⟩, fun q hq hd => ?_, rfl⟩
          · refine (S5.keep op).keepO (fun q hq => g2 q (by have := S5.lt q hq; omega) (fun hv => Wd5.no q hv hq)) g1
          · have e7 : (tvs o.an (atomsOf o.x)).length = (atomsOf o.x).length := by have := congrArg List.length (tvs_atoms (atomsOf o.x) o.an); simpa using this
            have e8 := congrArg List.length e1
            rw [List.length_drop, List.length_append] at e8
            have hpl : p0 ≤ A.length := by
              rcases posA_iff (x := o.an) hpos with ⟨_, e⟩ | ⟨i, a, e, _, e'⟩
              · omega
              · have := (List.getElem?_eq_some_iff.1 e).1; omega
            unfold grT
            simp only [List.length_append, List.length_take, e7, atomsOf_len]; omega
          · have e7 : (tvs o.an (atomsOf o.x)).length = (atomsOf o.x).length := by have := congrArg List.length (tvs_atoms (atomsOf o.x) o.an); simpa using this
            unfold grT
            rw [List.length_append, e7, atomsOf_len]; omega
          · rcases List.mem_append.1 hq with hq | hq
            · exact hdr q hq
            · rw [List.mem_singleton] at hq; rw [hq]; exact hor
          · have mm : Mine h4 h6 9 ((grT T o).map TV.cells) w5 := (m5.keep op).keepO (fun q hq => g2 q (by have := (m5o q hq).2; omega) (hap5 q hq)) g1
            obtain ⟨z1, z2⟩ := mm
            exact ⟨⟨z1, z2.imp_right (fun ⟨q, fz, y1, y2, y3, y4⟩ => ⟨q, fz, y1, Nat.le_trans oo4.1 y2, y3, y4⟩)⟩, hno5⟩
          · rcases g3 q hq with h7 | h7
            · exact Wd5.no q h7 ho
            · have := S5.lt q ho; omega
          · rcases g3 q hd with h7 | h7
            · exact hap5 q hq h7
            · have := (m5o q hq).2; omega)
  · have hii : i = l.length := by omega
    have : l.take i = l := List.take_of_length_le (by omega)
    rw [this] at hTs
    simp -implicitDefEqProofs [hlt]
    exact hq h' s O A T ds w d oo S hO G St_ eAT (by omega) (by omega) hdr Ww Wd
end
end Go.Proofs.YthblmlkkmebciaaDoor
set_option linter.all false
set_option maxRecDepth 100000
set_option maxHeartbeats 4000000
namespace Go.Proofs.YthblmlkkmebciaaDoor
open Go Go.RowKit Go.Proofs Go.ChangeShapes Go.WideShapes Go.ChangeAt
theorem own : ownKnob Tryd.prog.godebug = none := by kernel_rfl
theorem laidOut : laidOutB Tryd.prog = true := by kernel_rfl
abbrev laidL : List (String × DataW Unit) := [("copyist/ident.root", YthblmlkkmebciaaDoor.Rows.laid_copyist_ident_root)]
theorem laid_plain (W : World) : laidMetH Tryd.prog laidL W = laidMet Tryd.prog laidL W := by unfold laidMetH; rfl
theorem root_of {W : World} (h : laidMetH Tryd.prog laidL W) : roW W 0 = some [.int .u16 0, .int .u32 0] := by
  rw [laid_plain] at h
  obtain ⟨ps, ⟨g, t, cs, fuel, p, q, e1, e2, e3, e4, e5, e6⟩, _, _⟩ := h
  have hg : Tryd.prog.globalNamed "copyist/ident.root" = some 0 := by kernel_rfl
  rw [hg] at e1
  cases e1
  have ht : (Tryd.prog.globals[(0 : Nat)]?).map (·.type) = some 36 := by kernel_rfl
  rw [ht] at e2
  cases e2
  obtain ⟨xs, n, _, hx, hl, hxl, hp⟩ := DataW.trod_struct Tryd.underlying36 e4
  rw [co36] at hl
  obtain ⟨a, b, hab⟩ : ∃ a b, cs.toList = [a, b] := by
    match cs.toList, hl with
    | [a, b], _ => exact ⟨a, b, rfl⟩
  rw [hab] at hp
  have h0 := hp 0 { name := "R", type := 33, offset := 0, embedded := false, tag := "", pkgPath := "", byteOffset := 0 } rfl
  have h1 := hp 1 { name := "N", type := 34, offset := 1, embedded := false, tag := "", pkgPath := "", byteOffset := 4 } rfl
  simp only [co33, co34, List.drop_zero, List.drop_succ_cons, List.take_succ_cons, List.take_zero] at h0 h1
  have hxs : xs.length = 2 := by rw [hxl]; rfl
  have hx0 : xs[0]? = some (xs[0]'(by omega)) := List.getElem?_eq_getElem _
  have hx1 : xs[1]? = some (xs[1]'(by omega)) := List.getElem?_eq_getElem _
  rw [hx0] at h0
  rw [hx1] at h1
  obtain ⟨n0, k0, k1, _⟩ := DataW.trod_int Tryd.underlying33 h0
  obtain ⟨n1, l0, l1, _⟩ := DataW.trod_int Tryd.underlying34 h1
  have hd : xs.map (·.1) = [.lit (.int .u16 0), .lit (.int .u32 0)] := by
    have := congrArg (·.1) hx
    simp only [YthblmlkkmebciaaDoor.Rows.laid_copyist_ident_root, DataW.agg.injEq] at this
    exact this.symm
  have hd0 := congrArg (·[0]?) hd
  have hd1 := congrArg (·[1]?) hd
  simp only [List.getElem?_map, hx0, hx1, k1, l1, Option.map_some, List.getElem?_cons_zero, List.getElem?_cons_succ, Option.some.injEq, DataW.lit.injEq, Lit.int.injEq, true_and] at hd0 hd1
  have ha : a = .int .u16 0 := by have := List.cons.inj k0; rw [this.1, hd0]
  have hb : b = .int .u32 0 := by have := List.cons.inj l0; rw [this.1, hd1]
  unfold World.var? at e3
  rw [hg] at e3
  simp only [Option.bind_some] at e3
  unfold roW
  have hpl : placeW (0 : Nat) = (0, 0) := by
    unfold placeW roBase
    rw [if_pos (by decide)]
  rw [hpl]
  split at e3
  · rename_i c _ _ hh
    cases e3
    simp only [hh, List.drop_zero]
    rw [hab, ha, hb]
    rfl
  · cases e3
noncomputable def w0 (os : Os) : World := World.holding Tryd.prog os ⟨#[], #[], []⟩
theorem w0_met (os : Os) (args : Array Value) : laidMetH Tryd.prog laidL ((w0 os).forCall (fun _ _ => 0) ⟨#[], args, []⟩).memory := by
  rw [laid_plain]
  exact laidMet_of_run (ps := [.cell 0 0, .cell 0 1]) 8 (by kernel_rfl) (by kernel_rfl) (by kernel_rfl)
theorem op17_of {ro n} {x : List AVal} (h : Rdg Tryd.prog ro n 51 x) : ∃ o : O17, x = o.cells ∧ R17 o := by
  obtain ⟨hl, m, hf⟩ := rdg_struct Tryd.underlying51 h
  rw [co51] at hl
  obtain ⟨b, c, d, e, f, g, i, j, k, rfl⟩ : ∃ b c d e f g i j k, x = [b, c, d, e, f, g, i, j, k] := by
    match x, hl with
    | [b, c, d, e, f, g, i, j, k], _ => exact ⟨b, c, d, e, f, g, i, j, k, rfl⟩
  obtain ⟨l1, m1, hf1⟩ := rdg_struct Tryd.underlying36 (hf 0 _ rfl)
  obtain ⟨l2, m2, hf2⟩ := rdg_struct Tryd.underlying40 (hf 1 _ rfl)
  obtain ⟨n1, h11, a11, b11⟩ := rdg_int Tryd.underlying33 (hf1 0 _ rfl)
  obtain ⟨n2, h12, a12, b12⟩ := rdg_int Tryd.underlying34 (hf1 1 _ rfl)
  obtain ⟨_, m3, hf3⟩ := rdg_struct Tryd.underlying38 (hf2 0 _ rfl)
  obtain ⟨_, m4, hf4⟩ := rdg_struct Tryd.underlying36 (hf2 1 _ rfl)
  obtain ⟨s, h22, hs⟩ := rdg_str Tryd.underlying9 (hf2 2 _ rfl)
  obtain ⟨z, h23⟩ := rdg_bool Tryd.underlying4 (hf2 3 _ rfl)
  obtain ⟨c0, h30, a30, b30⟩ := rdg_int Tryd.underlying26 (hf3 0 _ rfl)
  obtain ⟨c1, h31, a31, b31⟩ := rdg_int Tryd.underlying33 (hf3 1 _ rfl)
  obtain ⟨c2, h32, a32, b32⟩ := rdg_int Tryd.underlying34 (hf3 2 _ rfl)
  obtain ⟨d0, h40, a40, b40⟩ := rdg_int Tryd.underlying33 (hf4 0 _ rfl)
  obtain ⟨d1, h41, a41, b41⟩ := rdg_int Tryd.underlying34 (hf4 1 _ rfl)
  simp at h11 h12 h22 h23 h30 h31 h32 h40 h41
  have u16 : IntKind.u16.min = 0 := by decide
  have u32 : IntKind.u32.min = 0 := by decide
  have u64 : IntKind.u64.min = 0 := by decide
  have v32 : IntKind.u32.max = 4294967295 := by decide
  rw [u16] at a11 a31 a40
  rw [u32] at a12 a32 a41
  rw [u64] at a30
  rw [v32] at b12 b32 b41
  refine ⟨⟨(n1.toNat, n2.toNat), ⟨c0.toNat, c1.toNat, c2.toNat, d0.toNat, d1.toNat, s, z⟩⟩, ?_, ⟨by simp only []; omega, ⟨by simp only []; omega, by simp only []; omega, hs⟩⟩⟩
  simp only [O17.cells, Int.toNat_of_nonneg a11, Int.toNat_of_nonneg a12, Int.toNat_of_nonneg a30, Int.toNat_of_nonneg a31, Int.toNat_of_nonneg a32, Int.toNat_of_nonneg a40, Int.toNat_of_nonneg a41]
  simp [h11, h12, h22, h23, h30, h31, h32, h40, h41]
theorem ops17_of : ∀ {ess : List (List AVal)}, (∀ x ∈ ess, ∃ o : O17, x = o.cells ∧ R17 o) → ∃ l : List O17, ess = l.map O17.cells ∧ ∀ o ∈ l, R17 o
  | [], _ => ⟨[], rfl, fun o h => (by cases h)⟩
  | x :: ess, h => by
    obtain ⟨e, rfl, he⟩ := h x (by simp)
    obtain ⟨l, rfl, hl⟩ := ops17_of (ess := ess) (fun y hy => h y (by simp [hy]))
    exact ⟨e :: l, rfl, fun o ho => (by
      rcases List.mem_cons.1 ho with h1 | h1
      · rw [h1]; exact he
      · exact hl o h1)⟩
end Go.Proofs.YthblmlkkmebciaaDoor
set_option linter.all false
set_option maxRecDepth 100000
set_option maxHeartbeats 4000000
namespace Go.Proofs.YthblmlkkmebciaaDoor
open Go Go.RowKit Go.Proofs
/-! any order that the anchors allow -/
def ownT (o : O17) : List TV := tvs o.an (atomsOf o.x)
theorem grT_mem {T : List TV} {o : O17} {t : TV} : t ∈ grT T o ↔ t ∈ T ∨ t ∈ ownT o := by unfold grT ownT; rw [List.mem_append]
theorem ownT_a {o : O17} {t : TV} (h : t ∈ ownT o) : t.a ∈ atomsOf o.x := by
  rw [← tvs_atoms (atomsOf o.x) o.an]; exact List.mem_map.2 ⟨t, h, rfl⟩
theorem ownT_of {o : O17} {a : AtV} (h : a ∈ atomsOf o.x) : ∃ t ∈ ownT o, t.a = a := by
  rw [← tvs_atoms (atomsOf o.x) o.an] at h
  obtain ⟨t, ht, e⟩ := List.mem_map.1 h
  exact ⟨t, ht, e⟩
theorem ancT_mono {T T' : List TV} (hs : ∀ t ∈ T, t ∈ T') {x : IdT} {k : KeyT} (h : ancT T x k) : ancT T' x k := by
  rcases h with e | ⟨t, ht, e⟩
  · exact .inl e
  · exact .inr ⟨t, hs t ht, e⟩
/-- what can be put, in this order -/
inductive Todo : List TV → List O17 → Prop
  | nil {T : List TV} : Todo T []
  | cons {T : List TV} {o : O17} {l : List O17} : okS T o → Todo (grT T o) l → Todo T (o :: l)
theorem okS.same {T T' : List TV} (e : ∀ t, t ∈ T ↔ t ∈ T') {o : O17} (h : okS T o) : okS T' o :=
  ⟨h.ok, h.pl, ancT_mono (fun t ht => (e t).1 ht) h.anc, fun a ha t ht => h.free a ha t ((e t).2 ht)⟩
theorem Todo.same : ∀ {l : List O17} {T T' : List TV}, (∀ t, t ∈ T ↔ t ∈ T') → Todo T l → Todo T' l
  | [], _, _, _, _ => .nil
  | o :: l, T, T', e, .cons h1 h2 => .cons (h1.same e) (Todo.same (fun t => by rw [grT_mem, grT_mem, e]) h2)
/-- one whose anchor is there already may come first -/
theorem Todo.pick : ∀ {pre post : List O17} {T : List TV} {o : O17}, Todo T (pre ++ o :: post) → ancT T o.an o.x.key → okS T o ∧ Todo (grT T o) (pre ++ post)
  | [], post, T, o, .cons h1 h2, _ => ⟨h1, h2⟩
  | p :: pre, post, T, o, .cons h1 h2, ha => by
    obtain ⟨g1, g2⟩ := Todo.pick h2 (ancT_mono (fun t ht => grT_mem.2 (.inl ht)) ha)
    refine ⟨⟨g1.ok, g1.pl, ha, fun a haa t ht => g1.free a haa t (grT_mem.2 (.inl ht))⟩, .cons ⟨h1.ok, h1.pl, ancT_mono (fun t ht => grT_mem.2 (.inl ht)) h1.anc, fun a haa t ht => ?_⟩ (g2.same (fun t => by simp only [grT_mem]; constructor <;> (intro h; rcases h with (h | h) | h <;> simp [h])))⟩
    rcases grT_mem.1 ht with ht | ht
    · exact h1.free a haa t ht
    · obtain ⟨u, hu, e⟩ := ownT_of haa
      intro e2
      refine g1.free t.a (ownT_a ht) u (grT_mem.2 (.inr hu)) ?_
      unfold TV.id at e2 ⊢
      rw [e]; exact e2.symm
theorem Steps.todo {ds : List O17} {T : List TV} (h : Steps ds T) : ∀ l, Todo T l → Todo [] (ds ++ l) := by
  induction h with
  | nil => exact fun l hl => hl
  | snoc h1 h2 ih =>
    intro l hl
    have := ih _ (.cons h2 hl)
    simpa using this
theorem Steps.mem {ds : List O17} {T : List TV} (h : Steps ds T) : ∀ t, t ∈ T ↔ ∃ o ∈ ds, t ∈ ownT o := by
  induction h with
  | nil => intro t; simp
  | @snoc ds T o h1 h2 ih =>
    intro t
    rw [grT_mem, ih]
    constructor
    · rintro (⟨p, hp, h⟩ | h)
      · exact ⟨p, by simp [hp], h⟩
      · exact ⟨o, by simp, h⟩
    · rintro ⟨p, hp, h⟩
      rcases List.mem_append.1 hp with hp | hp
      · exact .inl ⟨p, hp, h⟩
      · rw [List.mem_singleton] at hp; rw [hp] at h; exact .inr h
theorem Steps.anc {ds : List O17} {T : List TV} (h : Steps ds T) : ∀ o ∈ ds, ancT T o.an o.x.key := by
  induction h with
  | nil => intro o h; cases h
  | @snoc ds T o h1 h2 ih =>
    intro p hp
    rcases List.mem_append.1 hp with hp | hp
    · exact ancT_mono (fun t ht => grT_mem.2 (.inl ht)) (ih p hp)
    · rw [List.mem_singleton] at hp; rw [hp]; exact ancT_mono (fun t ht => grT_mem.2 (.inl ht)) h2.anc
def lens (l : List O17) : Nat := (l.map fun o => o.x.text.length).sum
theorem Steps.lens {ds : List O17} {T : List TV} (h : Steps ds T) : lens ds = T.length := by
  induction h with
  | nil => rfl
  | @snoc ds T o h1 h2 ih =>
    have e7 : (tvs o.an (atomsOf o.x)).length = (atomsOf o.x).length := by have := congrArg List.length (tvs_atoms (atomsOf o.x) o.an); simpa using this
    unfold grT
    rw [List.length_append, e7, atomsOf_len, ← ih]
    unfold YthblmlkkmebciaaDoor.lens
    simp
theorem lens_pick (pre post : List O17) (o : O17) : lens (pre ++ o :: post) = o.x.text.length + lens (pre ++ post) := by
  unfold lens; simp; omega
theorem Grown.uniq {T T' : List TV} {A A' : List AtV} (e : ∀ t, t ∈ T ↔ t ∈ T') (G : Grown T A) (G' : Grown T' A') : A = A' := by
  obtain ⟨ks, k1, k2⟩ := G.ord
  obtain ⟨ks', k1', k2'⟩ := G'.ord
  have := (k1.same e).uniq k1'
  subst this
  exact (k2.same e).uniq k2'
section
variable {ro : Nat → Option (List AVal)}
theorem eqSA (h : AHeap) (a : AtV) : eqIn (cfgR ro) h 10000 82 (.agg [.int .u64 a.clock, .int .u16 a.r, .int .u32 a.n, .int .u16 a.er, .int .u32 a.en, .int .u8 a.b.toNat, .bool a.shown]) (.agg [.int .u64 a.clock, .int .u16 a.r, .int .u32 a.n, .int .u16 a.er, .int .u32 a.en, .int .u8 a.b.toNat, .bool a.shown]) = .ok true := by
  have e0 : ∀ (c r n er en b : Nat) (sh : Bool), eqIn (cfgR ro) h 10000 82 (.agg [.int .u64 c, .int .u16 r, .int .u32 n, .int .u16 er, .int .u32 en, .int .u8 b, .bool sh]) (.agg [.int .u64 c, .int .u16 r, .int .u32 n, .int .u16 er, .int .u32 en, .int .u8 b, .bool sh]) =
  Res.bind (match (c : Int) == (c : Int) with | true => (match (r : Int) == (r : Int) with | true => (match (n : Int) == (n : Int) with | true => Res.ok true | false => .ok false) | false => .ok false) | false => .ok false) (fun x => match x with
   | true => Res.bind (match (er : Int) == (er : Int) with | true => (match (en : Int) == (en : Int) with | true => Res.ok true | false => .ok false) | false => .ok false) (fun x => match x with
     | true => (match (b : Int) == (b : Int) with | true => (match sh == sh with | true => Res.ok true | false => .ok false) | false => .ok false)
     | false => .ok false)
   | false => .ok false) := by intros; kernel_rfl
  rw [e0]
  simp
theorem eqLSA : eqL 82 = true := by decide
theorem same17_ev {h : AHeap} {s t : Nat} {O O' : Nat → Prop} {A : List AtV} (S : StA h s O A) (S' : StA h t O' A) {Q : AVal → AHeap → Prop} (hq : ∀ h', Old h h' → Q (.bool true) h') : Ev (cfgR ro) 33 [.ptr s 0, .ptr t 0] h Q := by
  refine Ev.wp rfl rfl Tryd.func33 rfl ?_
  have hlen := S.len
  simp -implicitDefEqProofs [Tryd.f33]
  refine satoms_ev S (fun v h1 o1 m1 => ?_)
  simp -implicitDefEqProofs
  refine satoms_ev (S'.keep o1) (fun w h2 o2 m2 => ?_)
  have s1 := (m1.keep o2).sl (c := cfgR ro)
  have s2 := m2.sl (c := cfgR ro)
  have hL1 : lenR (cfgR ro) h2 109 v = .ok (.int .i64 (A.length : Nat)) := by have := s1.lenR (t := 109) un109; simpa using this
  have hL2 : lenR (cfgR ro) h2 109 w = .ok (.int .i64 (A.length : Nat)) := by have := s2.lenR (t := 109) un109; simpa using this
  simp -implicitDefEqProofs [hL1, hL2, same_self]
  obtain ⟨I, hI⟩ : ∃ I : Nat → List AVal → AHeap → Prop, I = fun m env h' => h' = h2 ∧ ∃ i : Nat, i + m = A.length ∧
    env = (.dead :: .dead :: .dead :: .dead :: .dead :: v :: w :: .dead :: .dead :: .dead :: .dead :: .dead :: .dead :: .dead :: .dead :: .dead :: .dead :: .dead :: .int .i64 (A.length : Nat) :: .int .i64 (i : Nat) :: .dead :: .dead :: .dead :: .dead :: .dead :: .dead :: .dead :: .dead :: .dead :: .dead :: .dead :: .dead :: []) := ⟨_, rfl⟩
  refine loop_of I ?_ A.length (by rw [hI]; exact ⟨rfl, 0, by omega, rfl⟩)
  intro n env h' hi
  rw [hI] at hi
  obtain ⟨rfl, i, him, rfl⟩ := hi
  by_cases hlt : i < A.length
  · obtain ⟨a, ha⟩ : ∃ a, A[i]? = some a := ⟨_, List.getElem?_eq_getElem hlt⟩
    have he : (A.map AtV.cells)[i]? = some a.cells := by rw [List.getElem?_map, ha]; rfl
    have x1 : indexAddrR Tryd.prog 109 v (.int .i64 (i : Nat)) = .ok (elp v 7 i) := s1.idx un109 sz82 (by simpa using hlt)
    have x2 : indexAddrR Tryd.prog 109 w (.int .i64 (i : Nat)) = .ok (elp w 7 i) := s2.idx un109 sz82 (by simpa using hlt)
    have l1 : loadR (cfgR ro) h' 82 (elp v 7 i) = .ok (.agg a.cells) := s1.load he ag82 sz82
    have l2 : loadR (cfgR ro) h' 82 (elp w 7 i) = .ok (.agg a.cells) := s2.load he ag82 sz82
    have w1 : IntKind.i64.wrap ((i : Int) + 1) = ((i + 1 : Nat) : Int) := by rw [w64 (by omega) (by omega)]; omega
    have ee := eqSA (ro := ro) h' a
    simp only [AtV.cells] at l1 l2
    simp -implicitDefEqProofs [hlt, x1, x2, l1, l2, ee, eqLSA, same_self, w1]
    exact .mk (m := n - 1) (by omega) (by rw [hI]; exact ⟨rfl, i + 1, by omega, by simp⟩)
  · simp -implicitDefEqProofs [hlt]
    exact hq h' (o1.trans o2)
end
end Go.Proofs.YthblmlkkmebciaaDoor
set_option linter.all false
set_option maxRecDepth 100000
set_option maxHeartbeats 8000000
namespace Go.Proofs.YthblmlkkmebciaaDoor
open Go Go.RowKit Go.Proofs
theorem Mine.empty (h : AHeap) (sz : Nat) : Mine h (h.push (.row sz false [])) sz [] (.sl h.next 0 0) := ⟨by simp, .inr ⟨h.next, false, rfl, Nat.le_refl _, Nat.lt_succ_self _, get_push_next _ _⟩⟩
section
variable {ro : Nat → Option (List AVal)}
structure E17 (h : AHeap) (v : AVal) (i : Nat) (t : O17) : Prop where
  x : indexAddrR Tryd.prog 49 v (.int .i64 (i : Nat)) = .ok (elp v 9 i)
  o : ∀ d, addOff (elp v 9 i) d = .ok (elpo v 9 i d)
  p : ∀ d e, addOff (elpo v 9 i d) e = .ok (elpo v 9 i (d + e))
  n : loadR (cfgR ro) h 36 (elpo v 9 i 0) = .ok (.agg [.int .u16 t.an.1, .int .u32 t.an.2])
  k : loadR (cfgR ro) h 40 (elpo v 9 i 2) = .ok (.agg [.int .u64 t.x.clock, .int .u16 t.x.r, .int .u32 t.x.n, .int .u16 t.x.er, .int .u32 t.x.en, .str t.x.text, .bool t.x.shown])
theorem E17.of {h : AHeap} {v : AVal} {l : List O17} (hs : Sl (cfgR ro) h 9 v (l.map O17.cells)) {i : Nat} {t : O17} (ht : l[i]? = some t) : E17 (ro := ro) h v i t := by
  have hi : i < (l.map O17.cells).length := by have := (List.getElem?_eq_some_iff.1 ht).1; simpa using this
  have he : (l.map O17.cells)[i]? = some t.cells := by rw [List.getElem?_map, ht]; rfl
  exact ⟨hs.idx un49 sz51 hi, fun d => elp_off hs hi, fun d e => elpo_off hs hi, hs.loadA he (by decide) ag36 sz36, hs.loadA he (by decide) ag40 sz40⟩
theorem GraftTurns_ev (hro : ro 0 = some [.int .u16 0, .int .u32 0]) {h : AHeap} {v tv : AVal} {l : List O17} {tr : List Int} (hs : Sl (cfgR ro) h 9 v (l.map O17.cells)) (hl : l.length < 2 ^ 63) (hr : ∀ o ∈ l, R17 o) (ht : Sl (cfgR ro) h 1 tv (tr.map fun i => [.int .i64 i])) (hm : tr.length < 2 ^ 63) : Ev (cfgR ro) 7 [v, tv] h (fun x _ => x = .bool true) := by
  refine Ev.wp rfl rfl Tryd.func7 rfl ?_
  simp -implicitDefEqProofs [Tryd.f7]
  refine anchor17_ev hro (fun h1 o1 => ?_)
  have hLt : ∀ h', Old h h' → lenR (cfgR ro) h' 74 tv = .ok (.int .i64 (tr.length : Nat)) := fun h' o => by have := (ht.old o).lenR (t := 74) un74; simpa using this
  have hLt1 := hLt h1 o1
  simp -implicitDefEqProofs
  refine small17_ev (hs.old o1) hl hr (fun hsz h80 => ?_) (by simp -implicitDefEqProofs)
  by_cases c100 : 100 < tr.length
  · have d1 : decide ((100 : Int) < (tr.length : Int)) = true := decide_eq_true (by omega)
    simp -implicitDefEqProofs [hLt1, c100, d1]
  have d1 : decide ((100 : Int) < (tr.length : Int)) = false := decide_eq_false (by omega)
  simp -implicitDefEqProofs [hLt1, c100, d1]
  refine grown_ev hro (hs.old o1) hsz h80 hr (fun h2 s O A T ds w d o2 S hO G St_ eAT hT hd hdr Ww Wd => ?_)
  -- the second store
  have S0 := StA.new h2
  obtain ⟨H0, hH0⟩ : ∃ H0, H0 = h2.push (.row 0 false [.nilp, .int .u64 0, .nilm]) := ⟨_, rfl⟩
  obtain ⟨t, htt⟩ : ∃ t, t = h2.next := ⟨_, rfl⟩
  have o20 : Old h2 H0 := by rw [hH0]; exact (Old.refl h2).push _
  rw [← hH0, ← htt] at S0
  have hdl : (ds.map O17.cells).length = ds.length := List.length_map _
  obtain ⟨H1, hH1⟩ : ∃ H1, H1 = H0.push (.row 9 false []) := ⟨_, rfl⟩
  have o21 : Old H0 H1 := by rw [hH1]; exact (Old.refl H0).push _
  have m21 : Mine H0 H1 9 [] (.sl H0.next 0 0) := by rw [hH1]; exact Mine.empty H0 9
  have Wd0 := (Wd.m.keep (o20.trans o21)).sl (c := cfgR ro)
  have q1 := Wd0.len
  have q2 := Wd0.read
  obtain ⟨lv0, h3, e3, m3, o3⟩ := m21.append (bytes := 56) (new := ds.map O17.cells) (by decide) (fun e he => by obtain ⟨a, _, rfl⟩ := List.mem_map.1 he; rfl) (by rw [hdl]; simp; omega) o21
  rw [List.nil_append] at m3
  rw [hdl] at q1 q2 e3
  simp -implicitDefEqProofs [same_self]
  rw [← hH0, ← htt]
  simp -implicitDefEqProofs [same_self, buildSliceR, reps, q1]
  rw [← hH1]
  simp -implicitDefEqProofs [same_self, q2, e3]
  have St0 := S0.keep o3
  have hds2 : lens ds = T.length := St_.lens
  obtain ⟨I, hI⟩ : ∃ I : Nat → List AVal → AHeap → Prop, I = fun m env h' => ∃ (k : Int) (lf : List O17) (T2 : List TV) (A2 : List AtV) (O2 : Nat → Prop) (lv : AVal), m = lf.length ∧ Old h2 h' ∧ StA h' t O2 A2 ∧ (∀ o, O2 o → h2.next ≤ o) ∧ Grown T2 A2 ∧ Todo T2 lf ∧ (∀ t, t ∈ T ↔ t ∈ T2 ∨ ∃ o ∈ lf, t ∈ ownT o) ∧ (∀ o ∈ lf, o ∈ ds) ∧ A2.length + lens lf = T.length ∧ lf.length ≤ ds.length ∧ (∃ hb, Mine hb h' 9 (lf.map O17.cells) lv) ∧ 0 ≤ k ∧ k < 2 ^ 62 ∧ k + lf.length ≤ 80 ∧ (∀ o, vobj lv o → ¬ O2 o) ∧
    env = (.dead :: tv :: .dead :: .dead :: .dead :: .ptr s 0 :: .dead :: .dead :: .dead :: .ptr t 0 :: lv :: .int .i64 k :: .dead :: .dead :: .dead :: .dead :: .dead :: .dead :: .dead :: .dead :: .dead :: .dead :: .dead :: .dead :: .dead :: .dead :: .dead :: .dead :: .dead :: .dead :: .dead :: .dead :: .dead :: .dead :: .dead :: .dead :: .dead :: .dead :: .dead :: .dead :: .dead :: .dead :: .dead :: .dead :: .dead :: .dead :: .dead :: .dead :: .dead :: .dead :: .dead :: .dead :: .dead :: .dead :: .dead :: .dead :: .dead :: .dead :: .dead :: .dead :: .dead :: .dead :: .dead :: .dead :: .dead :: .dead :: .dead :: .dead :: .dead :: .dead :: .dead :: .dead :: .dead :: .dead :: .dead :: .dead :: .dead :: .dead :: .dead :: .dead :: .dead :: .dead :: .dead :: .dead :: .dead :: .dead :: .dead :: .dead :: .dead :: .dead :: .dead :: .dead :: .dead :: .dead :: .dead :: .dead :: .dead :: .dead :: .dead :: .dead :: .dead :: .dead :: .dead :: .dead :: .dead :: .dead :: .dead :: .dead :: .dead :: .dead :: .dead :: .dead :: .dead :: .dead :: .dead :: .dead :: .dead :: .dead :: .dead :: .dead :: []) := ⟨_, rfl⟩
  refine loop_of I ?_ ds.length (by
    rw [hI]
    exact ⟨0, ds, [], [], _, lv0, rfl, o20.trans o3, St0, fun o ho => by rw [ho]; omega, Grown.nil, by simpa using St_.todo [] .nil, fun t => by simpa using St_.mem t, fun o h => h, by simpa using hds2, Nat.le_refl _, ⟨_, m3⟩, by omega, by omega, by omega, fun o ho hh => by have := (m3.obj o ho).1; rw [hh] at this; subst hH0; have : (h2.push (.row 0 false [.nilp, .int .u64 0, .nilm])).next = h2.next + 1 := rfl; omega, rfl⟩)
  intro m env h' hi
  rw [hI] at hi
  obtain ⟨k, lf, T2, A2, O2, lv, rfl, oo, S2, hO2, G2, td, hmem, hsub, hsum, hlf, ⟨hb, mlv⟩, hk0, hk1, hk2, hno, rfl⟩ := hi
  have slv := mlv.sl (c := cfgR ro)
  have hL : lenR (cfgR ro) h' 49 lv = .ok (.int .i64 (lf.length : Nat)) := by have := slv.lenR (t := 49) un49; simpa using this
  have hLt2 := hLt h' ((o1.trans o2).trans oo)
  by_cases hlf1 : lf = []
  · subst hlf1
    have eA : A2 = A := Grown.uniq (fun t => by rw [hmem t]; simp) G2 G
    subst eA
    have SS := S.keep oo
    simp -implicitDefEqProofs [hL]
    refine stext_ev S2 (fun h4 o4 => ?_)
    simp -implicitDefEqProofs
    refine stext_ev (SS.keep o4) (fun h5 o5 => ?_)
    simp -implicitDefEqProofs [same_self]
    refine same17_ev ((S2.keep o4).keep o5) ((SS.keep o4).keep o5) (fun h6 o6 => ?_)
    simp -implicitDefEqProofs
  · obtain ⟨o0, lf', hlf0⟩ : ∃ o0 lf', lf = o0 :: lf' := by
      cases lf with
      | nil => exact (hlf1 rfl).elim
      | cons a b => exact ⟨a, b, rfl⟩
    have hpos : 0 < lf.length := by rw [hlf0]; simp
    have dpos : decide ((0 : Int) < (lf.length : Int)) = true := decide_eq_true (by omega)
    have anc0 : ancT T2 o0.an o0.x.key := by
      rw [hlf0] at td
      cases td with
      | cons h1 h2 => exact h1.anc
    -- the start
    have hst : ∃ st : Nat, st < lf.length ∧ ((tr = [] ∧ st = 0) ∨ ∃ (y : Int) (j : Nat), tr ≠ [] ∧ tr[j]? = some y ∧ k.tmod (tr.length : Int) = (j : Int) ∧ (IntKind.u64.wrap y).tmod (lf.length : Int) = (st : Int)) := by
      by_cases c : tr = []
      · exact ⟨0, hpos, .inl ⟨c, rfl⟩⟩
      · have hp : 0 < tr.length := List.length_pos_iff.2 c
        have hj : k.toNat % tr.length < tr.length := Nat.mod_lt _ hp
        obtain ⟨y, hy⟩ : ∃ y, tr[k.toNat % tr.length]? = some y := ⟨_, List.getElem?_eq_getElem hj⟩
        obtain ⟨u, hu⟩ : ∃ u : Nat, IntKind.u64.wrap y = (u : Int) := ⟨(IntKind.u64.wrap y).toNat, by rw [wrap64]; omega⟩
        refine ⟨u % lf.length, Nat.mod_lt _ hpos, .inr ⟨y, k.toNat % tr.length, c, hy, ?_, ?_⟩⟩
        · rw [Int.tmod_eq_emod_of_nonneg hk0]
          have : k = (k.toNat : Int) := by omega
          rw [this]; simp
        · rw [hu, Int.tmod_eq_emod_of_nonneg (by omega)]; simp
    obtain ⟨st, hstl, hcase⟩ := hst
    have i80 : lf.length ≤ 80 := by omega
    rcases hcase with ⟨rfl, hst0⟩ | ⟨y, j, hne, hy, hkj, hys⟩
    · have hL0 : lenR (cfgR ro) h' 74 tv = .ok (.int .i64 0) := by simpa using hLt2
      simp -implicitDefEqProofs [hL, hpos, dpos, hL0]
      obtain ⟨J, hJ⟩ : ∃ J : Nat → List AVal → AHeap → Prop, J = fun m env h'' => h'' = h' ∧ ∃ i : Nat, i + m = lf.length ∧ i ≤ (lf.length - st) % lf.length ∧
        env = (.dead :: tv :: .dead :: .dead :: .dead :: .ptr s 0 :: .dead :: .dead :: .dead :: .ptr t 0 :: lv :: .int .i64 k :: .int .i64 (st : Nat) :: .int .i64 (-1) :: .dead :: .dead :: .dead :: .dead :: .dead :: .dead :: .dead :: .dead :: .dead :: .dead :: .dead :: .dead :: .dead :: .dead :: .dead :: .dead :: .dead :: .dead :: .dead :: .dead :: .dead :: .dead :: .dead :: .dead :: .dead :: .dead :: .dead :: .dead :: .dead :: .dead :: .dead :: .dead :: .dead :: .dead :: .dead :: .dead :: .dead :: .dead :: .dead :: .dead :: .dead :: .dead :: .dead :: .dead :: .dead :: .dead :: .int .i64 (lf.length : Nat) :: .int .i64 (i : Nat) :: .dead :: .dead :: .dead :: .dead :: .dead :: .dead :: .dead :: .dead :: .dead :: .dead :: .dead :: .dead :: .dead :: .dead :: .dead :: .dead :: .dead :: .dead :: .dead :: .dead :: .dead :: .dead :: .dead :: .dead :: .dead :: .dead :: .dead :: .dead :: .dead :: .dead :: .dead :: .dead :: .dead :: .dead :: .dead :: .dead :: .dead :: .dead :: .dead :: .dead :: .dead :: .dead :: .dead :: .dead :: .dead :: .dead :: .dead :: .dead :: .dead :: .dead :: .dead :: .dead :: .dead :: .dead :: .dead :: .dead :: .dead :: .dead :: []) := ⟨_, rfl⟩
      refine loop_of J ?_ lf.length (by rw [hJ]; exact ⟨rfl, 0, by omega, Nat.zero_le _, by first | rfl | (rw [hst0]; rfl)⟩)
      intro m env h'' hi
      rw [hJ] at hi
      obtain ⟨rfl, i, him, hiP, rfl⟩ := hi
      have hi0 : (lf.length - st) % lf.length < lf.length := Nat.mod_lt _ hpos
      have hlt : i < lf.length := by omega
      obtain ⟨jj, hjj⟩ : ∃ jj, jj = (st + i) % lf.length := ⟨_, rfl⟩
      have hjl : jj < lf.length := by rw [hjj]; exact Nat.mod_lt _ hpos
      have w1 : IntKind.i64.wrap ((st : Int) + (i : Int)) = (st : Int) + (i : Int) := w64 (by omega) (by omega)
      have w2 : ((st : Int) + (i : Int)).tmod (lf.length : Int) = (jj : Int) := by rw [hjj, Int.tmod_eq_emod_of_nonneg (by omega)]; simp
      have w3 : IntKind.i64.wrap ((i : Int) + 1) = ((i + 1 : Nat) : Int) := by rw [w64 (by omega) (by omega)]; omega
      have hl0 : ¬ lf.length = 0 := by omega
      obtain ⟨o, ho⟩ : ∃ o, lf[jj]? = some o := ⟨_, List.getElem?_eq_getElem hjl⟩
      have E := E17.of slv ho
      have En := E.n
      have hod : o ∈ ds := hsub o (List.mem_of_getElem? ho)
      have hoR := hdr o hod
      simp -implicitDefEqProofs [hL, hlt, w1, w2, hl0, E.x, E.o, E.p, En, same_self]
      refine idRoot_ev hro (r := o.an.1) (n := o.an.2) ?_
      have hget : ancT T2 o.an o.x.key ∨ (¬ (o.an.1 = 0 ∧ o.an.2 = 0) ∧ atIx A2 o.an.1 o.an.2 = none) := by
        by_cases c1 : o.an.1 = 0 ∧ o.an.2 = 0
        · exact .inl (.inl (Prod.ext c1.1 c1.2))
        · cases c2 : atIx A2 o.an.1 o.an.2 with
          | none => exact .inr ⟨c1, rfl⟩
          | some q =>
            left
            obtain ⟨q', a, ha, hid⟩ : ∃ (q' : Nat) (a : AtV), A2[q']? = some a ∧ a.id = o.an := by
              have hp : posA A2 o.an.1 o.an.2 = some (q + 1) := by unfold posA; rw [if_neg c1, c2]; rfl
              rcases posA_iff (x := o.an) hp with ⟨e, _⟩ | ⟨q', a, ha, hid, _⟩
              · exact (c1 ⟨by rw [e], by rw [e]⟩).elim
              · exact ⟨q', a, ha, hid⟩
            obtain ⟨u, hu, e⟩ := (G2.mem a).1 (List.mem_of_getElem? ha)
            rcases St_.anc o hod with e2 | ⟨u', hu', e2, hk⟩
            · exact .inl e2
            · have : u = u' := G.tree.names u ((hmem u).2 (.inl hu)) u' hu' (by rw [e2]; unfold TV.id; rw [e, hid])
              rw [← this] at hk e2
              exact .inr ⟨u, hu, e2, hk⟩
      rcases hget with hanc | ⟨hnr, hnone⟩
      · have hsplit : lf = lf.take jj ++ o :: lf.drop (jj + 1) := by
          obtain ⟨l1, e1⟩ := List.getElem?_eq_some_iff.1 ho
          rw [← e1, ← List.drop_eq_getElem_cons l1]
          exact (List.take_append_drop jj lf).symm
        obtain ⟨pre, hpre⟩ : ∃ pre, pre = lf.take jj := ⟨_, rfl⟩
        obtain ⟨post, hpost⟩ : ∃ post, post = lf.drop (jj + 1) := ⟨_, rfl⟩
        have hprel : pre.length = jj := by rw [hpre, List.length_take]; omega
        have hpostl : post.length = lf.length - (jj + 1) := by rw [hpost, List.length_drop]
        rw [← hpre, ← hpost] at hsplit
        have td' := td
        rw [hsplit] at td'
        obtain ⟨hok, td2⟩ := td'.pick hanc
        have hsm : lens lf = o.x.text.length + lens (pre ++ post) := by rw [← lens_pick, ← hsplit]
        have hhit : hitA A2 o.x = false := by
          unfold hitA
          rw [List.any_eq_false]
          intro a ha
          have : atIx A2 a.r a.n = none := atIx_no (fun j b hj hh => by
            obtain ⟨t, ht, e⟩ := (G2.mem b).1 (List.mem_of_getElem? hj)
            exact hok.free a ha t ht (by unfold TV.id AtV.id; rw [e, hh.1, hh.2]))
          rw [this]; simp
        have hjj0 : decide ((jj : Int) < 0) = false := decide_eq_false (by omega)
        have Ek := E.k
        have wj : IntKind.i64.wrap ((jj : Int) + 1) = ((jj + 1 : Nat) : Int) := by rw [w64 (by omega) (by omega)]; omega
        have wk : IntKind.i64.wrap (k + 1) = k + 1 := w64 (by omega) (by omega)
        have hposA : (∃ p0, posA A2 o.an.1 o.an.2 = some p0) ∧ (¬ (o.an.1 = 0 ∧ o.an.2 = 0) → (atIx A2 o.an.1 o.an.2).isSome = true) := by
          by_cases c1 : o.an.1 = 0 ∧ o.an.2 = 0
          · exact ⟨⟨0, by unfold posA; rw [if_pos c1]⟩, fun c => (c c1).elim⟩
          · rcases hanc with e2 | ⟨u, hu, e2, _⟩
            · exact (c1 ⟨by rw [e2], by rw [e2]⟩).elim
            · obtain ⟨q, hq⟩ := List.mem_iff_getElem?.1 ((G2.mem u.a).2 ⟨u, hu, rfl⟩)
              have := atIx_at' G2.nd hq
              have e5 : u.a.r = o.an.1 ∧ u.a.n = o.an.2 := by rw [← e2]; exact ⟨rfl, rfl⟩
              rw [e5.1, e5.2] at this
              exact ⟨⟨q + 1, by unfold posA; rw [if_neg c1, this]; rfl⟩, fun _ => by rw [this]; rfl⟩
        obtain ⟨⟨p0, hp0⟩, hsome⟩ := hposA
        -- what follows the choice
        by_cases c1 : o.an.1 = 0 ∧ o.an.2 = 0
        · rw [decide_eq_true c1]
          simp -implicitDefEqProofs [E.x, E.o, E.p, En, Ek, same_self, hjj0]
          refine gput_ok_ev hro (x := o.an) (r := o.x) S2 hoR.an hok.ok hok.pl hp0 hhit (by omega) (fun H R h4 O4 e1 e2 e3 S4 P4 => ?_)
          have G4 := G2.put hok hp0 e1 e2 e3
          obtain ⟨oo4, hO4⟩ := P4.toOld oo hO2
          have mlv4 : Mine hb h4 9 (lf.map O17.cells) lv := mlv.keepO (fun q hq => P4.keep q (mlv.obj q hq).2 (hno q hq)) P4.nx
          obtain ⟨H1, hH1⟩ : ∃ H1, H1 = h4.push (.row 9 false []) := ⟨_, rfl⟩
          have o41 : Old h4 H1 := by rw [hH1]; exact (Old.refl h4).push _
          have m41 : Mine h4 H1 9 [] (.sl h4.next 0 0) := by rw [hH1]; exact Mine.empty h4 9
          have s41 := (mlv4.keep o41).sl (c := cfgR ro)
          obtain ⟨y1, _, _⟩ := (mlv4.sl (c := cfgR ro)).upto (at_ := jj) (by decide) mlv4.notSlc (by rw [List.length_map]; omega) .i64
          obtain ⟨u1, u2, u3⟩ := s41.upto (at_ := jj) (by decide) mlv4.notSlc (by rw [List.length_map]; omega) .i64
          rw [← List.map_take, ← hpre] at u2
          have l1 := u2.len
          have r1 := u2.read
          rw [List.length_map, hprel] at l1 r1
          obtain ⟨v5, h5, a1, m5, o5⟩ := m41.append (bytes := 56) (new := pre.map O17.cells) (by decide) (fun e he => by obtain ⟨a, _, rfl⟩ := List.mem_map.1 he; rfl) (by rw [List.length_map, hprel]; simp; omega) o41
          rw [List.nil_append] at m5
          rw [List.length_map, hprel] at a1
          have mlv5 : Mine hb h5 9 (lf.map O17.cells) lv := mlv4.keep o5
          have s51 := mlv5.sl (c := cfgR ro)
          obtain ⟨x1, x2, x3⟩ := s51.from_ (at_ := jj + 1) (by decide) mlv4.notSlc (by rw [List.length_map]; omega) .i64
          obtain ⟨z1, _, _⟩ := (mlv4.sl (c := cfgR ro)).from_ (at_ := jj + 1) (by decide) mlv4.notSlc (by rw [List.length_map]; omega) .i64
          rw [List.length_map] at z1
          rw [Int.natCast_add, Int.natCast_one] at x1 z1
          rw [← List.map_drop, ← hpost] at x2
          rw [List.length_map] at x1 x2
          have l2 := x2.len
          have r2 := x2.read
          rw [List.length_map] at l2 r2
          obtain ⟨v6, h6, a2, m6, o6⟩ := m5.append (bytes := 56) (new := post.map O17.cells) (by decide) (fun e he => by obtain ⟨a, _, rfl⟩ := List.mem_map.1 he; rfl) (by rw [List.length_map, List.length_map, hprel, hpostl]; simp; omega) o5
          rw [List.length_map] at a2
          rw [← List.map_append] at m6
          simp -implicitDefEqProofs [same_self, buildSliceR, reps, l1, r1, l2, r2, wj]
          rw [← hH1]
          refine ⟨⟨.inl (by decide +kernel), .inl (by decide +kernel)⟩, ?_⟩
          simp -implicitDefEqProofs [same_self, y1, z1, u1, l1, r1, a1, x1, l2, r2, a2, wj, wk]
          refine ⟨.inl (by decide +kernel), ?_⟩
          have hppl : (pre ++ post).length + 1 = lf.length := by rw [List.length_append]; omega
          have hAl : (A2.take p0 ++ (H ++ (atomsOf o.x ++ R))).length = A2.length + o.x.text.length := by
            have e8 := congrArg List.length e1
            rw [List.length_drop, List.length_append] at e8
            have hpl : p0 ≤ A2.length := by
              rcases posA_iff (x := o.an) hp0 with ⟨_, e⟩ | ⟨i, a, e, _, e'⟩
              · omega
              · have := (List.getElem?_eq_some_iff.1 e).1; omega
            simp only [List.length_append, List.length_take, atomsOf_len]; omega
          refine ⟨⟨.inl (by decide +kernel), .inl (by decide +kernel)⟩, .mk (m := (pre ++ post).length) (by omega) ?_⟩
          rw [hI]
          refine ⟨k + 1, pre ++ post, grT T2 o, _, O4, v6, rfl, oo4.trans o6, S4.keep o6, hO4, G4, td2, fun t => ?_, fun p hp => ?_, by omega, by omega, ⟨_, m6⟩, by omega, by omega, by omega, fun q hq ho => ?_, rfl⟩
          · rw [hmem t, grT_mem, hsplit]
            simp only [List.mem_append, List.mem_cons]
            constructor
            · rintro (h | ⟨p, hp | rfl | hp, h⟩)
              · exact .inl (.inl h)
              · exact .inr ⟨p, .inl hp, h⟩
              · exact .inl (.inr h)
              · exact .inr ⟨p, .inr hp, h⟩
            · rintro ((h | h) | ⟨p, hp | hp, h⟩)
              · exact .inl h
              · exact .inr ⟨o, .inr (.inl rfl), h⟩
              · exact .inr ⟨p, .inl hp, h⟩
              · exact .inr ⟨p, .inr (.inr hp), h⟩
          · refine hsub p ?_
            rw [hsplit]
            simp only [List.mem_append, List.mem_cons] at hp ⊢
            rcases hp with hp | hp
            · exact .inl hp
            · exact .inr (.inr hp)
          · have := (m6.obj q hq).1
            have := S4.lt q ho
            omega
        · rw [decide_eq_false c1]
          simp -implicitDefEqProofs [E.x, E.o, E.p, En, same_self]
          refine shasG_ev S2 (ar := o.an.1) (an := o.an.2) hoR.an ?_
          rw [hsome c1]
          simp -implicitDefEqProofs [E.x, E.o, E.p, En, Ek, same_self, hjj0]
          refine gput_ok_ev hro (x := o.an) (r := o.x) S2 hoR.an hok.ok hok.pl hp0 hhit (by omega) (fun H R h4 O4 e1 e2 e3 S4 P4 => ?_)
          have G4 := G2.put hok hp0 e1 e2 e3
          obtain ⟨oo4, hO4⟩ := P4.toOld oo hO2
          have mlv4 : Mine hb h4 9 (lf.map O17.cells) lv := mlv.keepO (fun q hq => P4.keep q (mlv.obj q hq).2 (hno q hq)) P4.nx
          obtain ⟨H1, hH1⟩ : ∃ H1, H1 = h4.push (.row 9 false []) := ⟨_, rfl⟩
          have o41 : Old h4 H1 := by rw [hH1]; exact (Old.refl h4).push _
          have m41 : Mine h4 H1 9 [] (.sl h4.next 0 0) := by rw [hH1]; exact Mine.empty h4 9
          have s41 := (mlv4.keep o41).sl (c := cfgR ro)
          obtain ⟨y1, _, _⟩ := (mlv4.sl (c := cfgR ro)).upto (at_ := jj) (by decide) mlv4.notSlc (by rw [List.length_map]; omega) .i64
          obtain ⟨u1, u2, u3⟩ := s41.upto (at_ := jj) (by decide) mlv4.notSlc (by rw [List.length_map]; omega) .i64
          rw [← List.map_take, ← hpre] at u2
          have l1 := u2.len
          have r1 := u2.read
          rw [List.length_map, hprel] at l1 r1
          obtain ⟨v5, h5, a1, m5, o5⟩ := m41.append (bytes := 56) (new := pre.map O17.cells) (by decide) (fun e he => by obtain ⟨a, _, rfl⟩ := List.mem_map.1 he; rfl) (by rw [List.length_map, hprel]; simp; omega) o41
          rw [List.nil_append] at m5
          rw [List.length_map, hprel] at a1
          have mlv5 : Mine hb h5 9 (lf.map O17.cells) lv := mlv4.keep o5
          have s51 := mlv5.sl (c := cfgR ro)
          obtain ⟨x1, x2, x3⟩ := s51.from_ (at_ := jj + 1) (by decide) mlv4.notSlc (by rw [List.length_map]; omega) .i64
          obtain ⟨z1, _, _⟩ := (mlv4.sl (c := cfgR ro)).from_ (at_ := jj + 1) (by decide) mlv4.notSlc (by rw [List.length_map]; omega) .i64
          rw [List.length_map] at z1
          rw [Int.natCast_add, Int.natCast_one] at x1 z1
          rw [← List.map_drop, ← hpost] at x2
          rw [List.length_map] at x1 x2
          have l2 := x2.len
          have r2 := x2.read
          rw [List.length_map] at l2 r2
          obtain ⟨v6, h6, a2, m6, o6⟩ := m5.append (bytes := 56) (new := post.map O17.cells) (by decide) (fun e he => by obtain ⟨a, _, rfl⟩ := List.mem_map.1 he; rfl) (by rw [List.length_map, List.length_map, hprel, hpostl]; simp; omega) o5
          rw [List.length_map] at a2
          rw [← List.map_append] at m6
          simp -implicitDefEqProofs [same_self, buildSliceR, reps, l1, r1, l2, r2, wj]
          rw [← hH1]
          refine ⟨⟨.inl (by decide +kernel), .inl (by decide +kernel)⟩, ?_⟩
          simp -implicitDefEqProofs [same_self, y1, z1, u1, l1, r1, a1, x1, l2, r2, a2, wj, wk]
          refine ⟨.inl (by decide +kernel), ?_⟩
          have hppl : (pre ++ post).length + 1 = lf.length := by rw [List.length_append]; omega
          have hAl : (A2.take p0 ++ (H ++ (atomsOf o.x ++ R))).length = A2.length + o.x.text.length := by
            have e8 := congrArg List.length e1
            rw [List.length_drop, List.length_append] at e8
            have hpl : p0 ≤ A2.length := by
              rcases posA_iff (x := o.an) hp0 with ⟨_, e⟩ | ⟨i, a, e, _, e'⟩
              · omega
              · have := (List.getElem?_eq_some_iff.1 e).1; omega
            simp only [List.length_append, List.length_take, atomsOf_len]; omega
          refine ⟨⟨.inl (by decide +kernel), .inl (by decide +kernel)⟩, .mk (m := (pre ++ post).length) (by omega) ?_⟩
          rw [hI]
          refine ⟨k + 1, pre ++ post, grT T2 o, _, O4, v6, rfl, oo4.trans o6, S4.keep o6, hO4, G4, td2, fun t => ?_, fun p hp => ?_, by omega, by omega, ⟨_, m6⟩, by omega, by omega, by omega, fun q hq ho => ?_, rfl⟩
          · rw [hmem t, grT_mem, hsplit]
            simp only [List.mem_append, List.mem_cons]
            constructor
            · rintro (h | ⟨p, hp | rfl | hp, h⟩)
              · exact .inl (.inl h)
              · exact .inr ⟨p, .inl hp, h⟩
              · exact .inl (.inr h)
              · exact .inr ⟨p, .inr hp, h⟩
            · rintro ((h | h) | ⟨p, hp | hp, h⟩)
              · exact .inl h
              · exact .inr ⟨o, .inr (.inl rfl), h⟩
              · exact .inr ⟨p, .inl hp, h⟩
              · exact .inr ⟨p, .inr (.inr hp), h⟩
          · refine hsub p ?_
            rw [hsplit]
            simp only [List.mem_append, List.mem_cons] at hp ⊢
            rcases hp with hp | hp
            · exact .inl hp
            · exact .inr (.inr hp)
          · have := (m6.obj q hq).1
            have := S4.lt q ho
            omega
      · have hne0 : i ≠ (lf.length - st) % lf.length := fun e => by
          have : jj = 0 := by
            rw [hjj, e, Nat.add_mod_mod, show st + (lf.length - st) = lf.length by omega, Nat.mod_self]
          subst this
          rw [hlf0] at ho
          have : o0 = o := Option.some.inj ho
          rw [this] at anc0
          rcases anc0 with e2 | ⟨u, hu, e2, _⟩
          · exact hnr ⟨by rw [e2], by rw [e2]⟩
          · obtain ⟨q, hq⟩ := List.mem_iff_getElem?.1 ((G2.mem u.a).2 ⟨u, hu, rfl⟩)
            have := atIx_at' G2.nd hq
            have e5 : u.a.r = o.an.1 ∧ u.a.n = o.an.2 := by rw [← e2]; exact ⟨rfl, rfl⟩
            rw [e5.1, e5.2, hnone] at this; cases this
        rw [decide_eq_false hnr]
        simp -implicitDefEqProofs [E.x, E.o, E.p, En, same_self]
        refine shasG_ev S2 (ar := o.an.1) (an := o.an.2) hoR.an ?_
        rw [hnone]
        simp -implicitDefEqProofs [w3, same_self]
        exact .mk (m := m - 1) (by omega) (by rw [hJ]; exact ⟨rfl, i + 1, by omega, by omega, rfl⟩)
    · have hp : 0 < tr.length := List.length_pos_iff.2 hne
      have hp2 : ¬ tr.length = 0 := by omega
      have dp : decide ((0 : Int) < (tr.length : Int)) = true := decide_eq_true (by omega)
      have hjl : j < tr.length := (List.getElem?_eq_some_iff.1 hy).1
      have htt2 := ht.old ((o1.trans o2).trans oo)
      have ix : indexAddrR Tryd.prog 74 tv (.int .i64 (j : Nat)) = .ok (elp tv 1 j) := htt2.idx un74 sz3 (by simpa using hjl)
      have ld : loadR (cfgR ro) h' 3 (elp tv 1 j) = .ok (.int .i64 y) := htt2.load1 (e := [.int .i64 y]) (by rw [List.getElem?_map, hy]; rfl) rfl ag3
      have wl : IntKind.u64.wrap (lf.length : Int) = ((lf.length : Nat) : Int) := by rw [wrap64]; omega
      have ws : IntKind.i64.wrap (st : Int) = ((st : Nat) : Int) := by rw [w64 (by omega) (by omega)]
      have hl0 : ¬ lf.length = 0 := by omega
      obtain ⟨n, hn⟩ : ∃ n, n = lf.length := ⟨_, rfl⟩
      simp -implicitDefEqProofs [hL, hpos, dpos, hLt2, hp, hp2, dp, hkj, ix, ld, wl, hys, ws, hl0]
      obtain ⟨J, hJ⟩ : ∃ J : Nat → List AVal → AHeap → Prop, J = fun m env h'' => h'' = h' ∧ ∃ i : Nat, i + m = lf.length ∧ i ≤ (lf.length - st) % lf.length ∧
        env = (.dead :: tv :: .dead :: .dead :: .dead :: .ptr s 0 :: .dead :: .dead :: .dead :: .ptr t 0 :: lv :: .int .i64 k :: .int .i64 (st : Nat) :: .int .i64 (-1) :: .dead :: .dead :: .dead :: .dead :: .dead :: .dead :: .dead :: .dead :: .dead :: .dead :: .dead :: .dead :: .dead :: .dead :: .dead :: .dead :: .dead :: .dead :: .dead :: .dead :: .dead :: .dead :: .dead :: .dead :: .dead :: .dead :: .dead :: .dead :: .dead :: .dead :: .dead :: .dead :: .dead :: .dead :: .dead :: .dead :: .dead :: .dead :: .dead :: .dead :: .dead :: .dead :: .dead :: .dead :: .dead :: .dead :: .int .i64 (lf.length : Nat) :: .int .i64 (i : Nat) :: .dead :: .dead :: .dead :: .dead :: .dead :: .dead :: .dead :: .dead :: .dead :: .dead :: .dead :: .dead :: .dead :: .dead :: .dead :: .dead :: .dead :: .dead :: .dead :: .dead :: .dead :: .dead :: .dead :: .dead :: .dead :: .dead :: .dead :: .dead :: .dead :: .dead :: .dead :: .dead :: .dead :: .dead :: .dead :: .dead :: .dead :: .dead :: .dead :: .dead :: .dead :: .dead :: .dead :: .dead :: .dead :: .dead :: .dead :: .dead :: .dead :: .dead :: .dead :: .dead :: .dead :: .dead :: .dead :: .dead :: .dead :: .dead :: []) := ⟨_, rfl⟩
      refine loop_of J ?_ lf.length (by rw [hJ]; exact ⟨rfl, 0, by omega, Nat.zero_le _, by first | rfl | (rw [hst0]; rfl)⟩)
      intro m env h'' hi
      rw [hJ] at hi
      obtain ⟨rfl, i, him, hiP, rfl⟩ := hi
      have hi0 : (lf.length - st) % lf.length < lf.length := Nat.mod_lt _ hpos
      have hlt : i < lf.length := by omega
      obtain ⟨jj, hjj⟩ : ∃ jj, jj = (st + i) % lf.length := ⟨_, rfl⟩
      have hjl : jj < lf.length := by rw [hjj]; exact Nat.mod_lt _ hpos
      have w1 : IntKind.i64.wrap ((st : Int) + (i : Int)) = (st : Int) + (i : Int) := w64 (by omega) (by omega)
      have w2 : ((st : Int) + (i : Int)).tmod (lf.length : Int) = (jj : Int) := by rw [hjj, Int.tmod_eq_emod_of_nonneg (by omega)]; simp
      have w3 : IntKind.i64.wrap ((i : Int) + 1) = ((i + 1 : Nat) : Int) := by rw [w64 (by omega) (by omega)]; omega
      have hl0 : ¬ lf.length = 0 := by omega
      obtain ⟨o, ho⟩ : ∃ o, lf[jj]? = some o := ⟨_, List.getElem?_eq_getElem hjl⟩
      have E := E17.of slv ho
      have En := E.n
      have hod : o ∈ ds := hsub o (List.mem_of_getElem? ho)
      have hoR := hdr o hod
      simp -implicitDefEqProofs [hL, hlt, w1, w2, hl0, E.x, E.o, E.p, En, same_self]
      refine idRoot_ev hro (r := o.an.1) (n := o.an.2) ?_
      have hget : ancT T2 o.an o.x.key ∨ (¬ (o.an.1 = 0 ∧ o.an.2 = 0) ∧ atIx A2 o.an.1 o.an.2 = none) := by
        by_cases c1 : o.an.1 = 0 ∧ o.an.2 = 0
        · exact .inl (.inl (Prod.ext c1.1 c1.2))
        · cases c2 : atIx A2 o.an.1 o.an.2 with
          | none => exact .inr ⟨c1, rfl⟩
          | some q =>
            left
            obtain ⟨q', a, ha, hid⟩ : ∃ (q' : Nat) (a : AtV), A2[q']? = some a ∧ a.id = o.an := by
              have hp : posA A2 o.an.1 o.an.2 = some (q + 1) := by unfold posA; rw [if_neg c1, c2]; rfl
              rcases posA_iff (x := o.an) hp with ⟨e, _⟩ | ⟨q', a, ha, hid, _⟩
              · exact (c1 ⟨by rw [e], by rw [e]⟩).elim
              · exact ⟨q', a, ha, hid⟩
            obtain ⟨u, hu, e⟩ := (G2.mem a).1 (List.mem_of_getElem? ha)
            rcases St_.anc o hod with e2 | ⟨u', hu', e2, hk⟩
            · exact .inl e2
            · have : u = u' := G.tree.names u ((hmem u).2 (.inl hu)) u' hu' (by rw [e2]; unfold TV.id; rw [e, hid])
              rw [← this] at hk e2
              exact .inr ⟨u, hu, e2, hk⟩
      rcases hget with hanc | ⟨hnr, hnone⟩
      · have hsplit : lf = lf.take jj ++ o :: lf.drop (jj + 1) := by
          obtain ⟨l1, e1⟩ := List.getElem?_eq_some_iff.1 ho
          rw [← e1, ← List.drop_eq_getElem_cons l1]
          exact (List.take_append_drop jj lf).symm
        obtain ⟨pre, hpre⟩ : ∃ pre, pre = lf.take jj := ⟨_, rfl⟩
        obtain ⟨post, hpost⟩ : ∃ post, post = lf.drop (jj + 1) := ⟨_, rfl⟩
        have hprel : pre.length = jj := by rw [hpre, List.length_take]; omega
        have hpostl : post.length = lf.length - (jj + 1) := by rw [hpost, List.length_drop]
        rw [← hpre, ← hpost] at hsplit
        have td' := td
        rw [hsplit] at td'
        obtain ⟨hok, td2⟩ := td'.pick hanc
        have hsm : lens lf = o.x.text.length + lens (pre ++ post) := by rw [← lens_pick, ← hsplit]
        have hhit : hitA A2 o.x = false := by
          unfold hitA
          rw [List.any_eq_false]
          intro a ha
          have : atIx A2 a.r a.n = none := atIx_no (fun j b hj hh => by
            obtain ⟨t, ht, e⟩ := (G2.mem b).1 (List.mem_of_getElem? hj)
            exact hok.free a ha t ht (by unfold TV.id AtV.id; rw [e, hh.1, hh.2]))
          rw [this]; simp
        have hjj0 : decide ((jj : Int) < 0) = false := decide_eq_false (by omega)
        have Ek := E.k
        have wj : IntKind.i64.wrap ((jj : Int) + 1) = ((jj + 1 : Nat) : Int) := by rw [w64 (by omega) (by omega)]; omega
        have wk : IntKind.i64.wrap (k + 1) = k + 1 := w64 (by omega) (by omega)
        have hposA : (∃ p0, posA A2 o.an.1 o.an.2 = some p0) ∧ (¬ (o.an.1 = 0 ∧ o.an.2 = 0) → (atIx A2 o.an.1 o.an.2).isSome = true) := by
          by_cases c1 : o.an.1 = 0 ∧ o.an.2 = 0
          · exact ⟨⟨0, by unfold posA; rw [if_pos c1]⟩, fun c => (c c1).elim⟩
          · rcases hanc with e2 | ⟨u, hu, e2, _⟩
            · exact (c1 ⟨by rw [e2], by rw [e2]⟩).elim
            · obtain ⟨q, hq⟩ := List.mem_iff_getElem?.1 ((G2.mem u.a).2 ⟨u, hu, rfl⟩)
              have := atIx_at' G2.nd hq
              have e5 : u.a.r = o.an.1 ∧ u.a.n = o.an.2 := by rw [← e2]; exact ⟨rfl, rfl⟩
              rw [e5.1, e5.2] at this
              exact ⟨⟨q + 1, by unfold posA; rw [if_neg c1, this]; rfl⟩, fun _ => by rw [this]; rfl⟩
        obtain ⟨⟨p0, hp0⟩, hsome⟩ := hposA
        -- what follows the choice
        by_cases c1 : o.an.1 = 0 ∧ o.an.2 = 0
        · rw [decide_eq_true c1]
          simp -implicitDefEqProofs [E.x, E.o, E.p, En, Ek, same_self, hjj0]
          refine gput_ok_ev hro (x := o.an) (r := o.x) S2 hoR.an hok.ok hok.pl hp0 hhit (by omega) (fun H R h4 O4 e1 e2 e3 S4 P4 => ?_)
          have G4 := G2.put hok hp0 e1 e2 e3
          obtain ⟨oo4, hO4⟩ := P4.toOld oo hO2
          have mlv4 : Mine hb h4 9 (lf.map O17.cells) lv := mlv.keepO (fun q hq => P4.keep q (mlv.obj q hq).2 (hno q hq)) P4.nx
          obtain ⟨H1, hH1⟩ : ∃ H1, H1 = h4.push (.row 9 false []) := ⟨_, rfl⟩
          have o41 : Old h4 H1 := by rw [hH1]; exact (Old.refl h4).push _
          have m41 : Mine h4 H1 9 [] (.sl h4.next 0 0) := by rw [hH1]; exact Mine.empty h4 9
          have s41 := (mlv4.keep o41).sl (c := cfgR ro)
          obtain ⟨y1, _, _⟩ := (mlv4.sl (c := cfgR ro)).upto (at_ := jj) (by decide) mlv4.notSlc (by rw [List.length_map]; omega) .i64
          obtain ⟨u1, u2, u3⟩ := s41.upto (at_ := jj) (by decide) mlv4.notSlc (by rw [List.length_map]; omega) .i64
          rw [← List.map_take, ← hpre] at u2
          have l1 := u2.len
          have r1 := u2.read
          rw [List.length_map, hprel] at l1 r1
          obtain ⟨v5, h5, a1, m5, o5⟩ := m41.append (bytes := 56) (new := pre.map O17.cells) (by decide) (fun e he => by obtain ⟨a, _, rfl⟩ := List.mem_map.1 he; rfl) (by rw [List.length_map, hprel]; simp; omega) o41
          rw [List.nil_append] at m5
          rw [List.length_map, hprel] at a1
          have mlv5 : Mine hb h5 9 (lf.map O17.cells) lv := mlv4.keep o5
          have s51 := mlv5.sl (c := cfgR ro)
          obtain ⟨x1, x2, x3⟩ := s51.from_ (at_ := jj + 1) (by decide) mlv4.notSlc (by rw [List.length_map]; omega) .i64
          obtain ⟨z1, _, _⟩ := (mlv4.sl (c := cfgR ro)).from_ (at_ := jj + 1) (by decide) mlv4.notSlc (by rw [List.length_map]; omega) .i64
          rw [List.length_map] at z1
          rw [Int.natCast_add, Int.natCast_one] at x1 z1
          rw [← List.map_drop, ← hpost] at x2
          rw [List.length_map] at x1 x2
          have l2 := x2.len
          have r2 := x2.read
          rw [List.length_map] at l2 r2
          obtain ⟨v6, h6, a2, m6, o6⟩ := m5.append (bytes := 56) (new := post.map O17.cells) (by decide) (fun e he => by obtain ⟨a, _, rfl⟩ := List.mem_map.1 he; rfl) (by rw [List.length_map, List.length_map, hprel, hpostl]; simp; omega) o5
          rw [List.length_map] at a2
          rw [← List.map_append] at m6
          simp -implicitDefEqProofs [same_self, buildSliceR, reps, l1, r1, l2, r2, wj]
          rw [← hH1]
          refine ⟨⟨.inl (by decide +kernel), .inl (by decide +kernel)⟩, ?_⟩
          simp -implicitDefEqProofs [same_self, y1, z1, u1, l1, r1, a1, x1, l2, r2, a2, wj, wk]
          refine ⟨.inl (by decide +kernel), ?_⟩
          have hppl : (pre ++ post).length + 1 = lf.length := by rw [List.length_append]; omega
          have hAl : (A2.take p0 ++ (H ++ (atomsOf o.x ++ R))).length = A2.length + o.x.text.length := by
            have e8 := congrArg List.length e1
            rw [List.length_drop, List.length_append] at e8
            have hpl : p0 ≤ A2.length := by
              rcases posA_iff (x := o.an) hp0 with ⟨_, e⟩ | ⟨i, a, e, _, e'⟩
              · omega
              · have := (List.getElem?_eq_some_iff.1 e).1; omega
            simp only [List.length_append, List.length_take, atomsOf_len]; omega
          refine ⟨⟨.inl (by decide +kernel), .inl (by decide +kernel)⟩, .mk (m := (pre ++ post).length) (by omega) ?_⟩
          rw [hI]
          refine ⟨k + 1, pre ++ post, grT T2 o, _, O4, v6, rfl, oo4.trans o6, S4.keep o6, hO4, G4, td2, fun t => ?_, fun p hp => ?_, by omega, by omega, ⟨_, m6⟩, by omega, by omega, by omega, fun q hq ho => ?_, rfl⟩
          · rw [hmem t, grT_mem, hsplit]
            simp only [List.mem_append, List.mem_cons]
            constructor
            · rintro (h | ⟨p, hp | rfl | hp, h⟩)
              · exact .inl (.inl h)
              · exact .inr ⟨p, .inl hp, h⟩
              · exact .inl (.inr h)
              · exact .inr ⟨p, .inr hp, h⟩
            · rintro ((h | h) | ⟨p, hp | hp, h⟩)
              · exact .inl h
              · exact .inr ⟨o, .inr (.inl rfl), h⟩
              · exact .inr ⟨p, .inl hp, h⟩
              · exact .inr ⟨p, .inr (.inr hp), h⟩
          · refine hsub p ?_
            rw [hsplit]
            simp only [List.mem_append, List.mem_cons] at hp ⊢
            rcases hp with hp | hp
            · exact .inl hp
            · exact .inr (.inr hp)
          · have := (m6.obj q hq).1
            have := S4.lt q ho
            omega
        · rw [decide_eq_false c1]
          simp -implicitDefEqProofs [E.x, E.o, E.p, En, same_self]
          refine shasG_ev S2 (ar := o.an.1) (an := o.an.2) hoR.an ?_
          rw [hsome c1]
          simp -implicitDefEqProofs [E.x, E.o, E.p, En, Ek, same_self, hjj0]
          refine gput_ok_ev hro (x := o.an) (r := o.x) S2 hoR.an hok.ok hok.pl hp0 hhit (by omega) (fun H R h4 O4 e1 e2 e3 S4 P4 => ?_)
          have G4 := G2.put hok hp0 e1 e2 e3
          obtain ⟨oo4, hO4⟩ := P4.toOld oo hO2
          have mlv4 : Mine hb h4 9 (lf.map O17.cells) lv := mlv.keepO (fun q hq => P4.keep q (mlv.obj q hq).2 (hno q hq)) P4.nx
          obtain ⟨H1, hH1⟩ : ∃ H1, H1 = h4.push (.row 9 false []) := ⟨_, rfl⟩
          have o41 : Old h4 H1 := by rw [hH1]; exact (Old.refl h4).push _
          have m41 : Mine h4 H1 9 [] (.sl h4.next 0 0) := by rw [hH1]; exact Mine.empty h4 9
          have s41 := (mlv4.keep o41).sl (c := cfgR ro)
          obtain ⟨y1, _, _⟩ := (mlv4.sl (c := cfgR ro)).upto (at_ := jj) (by decide) mlv4.notSlc (by rw [List.length_map]; omega) .i64
          obtain ⟨u1, u2, u3⟩ := s41.upto (at_ := jj) (by decide) mlv4.notSlc (by rw [List.length_map]; omega) .i64
          rw [← List.map_take, ← hpre] at u2
          have l1 := u2.len
          have r1 := u2.read
          rw [List.length_map, hprel] at l1 r1
          obtain ⟨v5, h5, a1, m5, o5⟩ := m41.append (bytes := 56) (new := pre.map O17.cells) (by decide) (fun e he => by obtain ⟨a, _, rfl⟩ := List.mem_map.1 he; rfl) (by rw [List.length_map, hprel]; simp; omega) o41
          rw [List.nil_append] at m5
          rw [List.length_map, hprel] at a1
          have mlv5 : Mine hb h5 9 (lf.map O17.cells) lv := mlv4.keep o5
          have s51 := mlv5.sl (c := cfgR ro)
          obtain ⟨x1, x2, x3⟩ := s51.from_ (at_ := jj + 1) (by decide) mlv4.notSlc (by rw [List.length_map]; omega) .i64
          obtain ⟨z1, _, _⟩ := (mlv4.sl (c := cfgR ro)).from_ (at_ := jj + 1) (by decide) mlv4.notSlc (by rw [List.length_map]; omega) .i64
          rw [List.length_map] at z1
          rw [Int.natCast_add, Int.natCast_one] at x1 z1
          rw [← List.map_drop, ← hpost] at x2
          rw [List.length_map] at x1 x2
          have l2 := x2.len
          have r2 := x2.read
          rw [List.length_map] at l2 r2
          obtain ⟨v6, h6, a2, m6, o6⟩ := m5.append (bytes := 56) (new := post.map O17.cells) (by decide) (fun e he => by obtain ⟨a, _, rfl⟩ := List.mem_map.1 he; rfl) (by rw [List.length_map, List.length_map, hprel, hpostl]; simp; omega) o5
          rw [List.length_map] at a2
          rw [← List.map_append] at m6
          simp -implicitDefEqProofs [same_self, buildSliceR, reps, l1, r1, l2, r2, wj]
          rw [← hH1]
          refine ⟨⟨.inl (by decide +kernel), .inl (by decide +kernel)⟩, ?_⟩
          simp -implicitDefEqProofs [same_self, y1, z1, u1, l1, r1, a1, x1, l2, r2, a2, wj, wk]
          refine ⟨.inl (by decide +kernel), ?_⟩
          have hppl : (pre ++ post).length + 1 = lf.length := by rw [List.length_append]; omega
          have hAl : (A2.take p0 ++ (H ++ (atomsOf o.x ++ R))).length = A2.length + o.x.text.length := by
            have e8 := congrArg List.length e1
            rw [List.length_drop, List.length_append] at e8
            have hpl : p0 ≤ A2.length := by
              rcases posA_iff (x := o.an) hp0 with ⟨_, e⟩ | ⟨i, a, e, _, e'⟩
              · omega
              · have := (List.getElem?_eq_some_iff.1 e).1; omega
            simp only [List.length_append, List.length_take, atomsOf_len]; omega
          refine ⟨⟨.inl (by decide +kernel), .inl (by decide +kernel)⟩, .mk (m := (pre ++ post).length) (by omega) ?_⟩
          rw [hI]
          refine ⟨k + 1, pre ++ post, grT T2 o, _, O4, v6, rfl, oo4.trans o6, S4.keep o6, hO4, G4, td2, fun t => ?_, fun p hp => ?_, by omega, by omega, ⟨_, m6⟩, by omega, by omega, by omega, fun q hq ho => ?_, rfl⟩
          · rw [hmem t, grT_mem, hsplit]
            simp only [List.mem_append, List.mem_cons]
            constructor
            · rintro (h | ⟨p, hp | rfl | hp, h⟩)
              · exact .inl (.inl h)
              · exact .inr ⟨p, .inl hp, h⟩
              · exact .inl (.inr h)
              · exact .inr ⟨p, .inr hp, h⟩
            · rintro ((h | h) | ⟨p, hp | hp, h⟩)
              · exact .inl h
              · exact .inr ⟨o, .inr (.inl rfl), h⟩
              · exact .inr ⟨p, .inl hp, h⟩
              · exact .inr ⟨p, .inr (.inr hp), h⟩
          · refine hsub p ?_
            rw [hsplit]
            simp only [List.mem_append, List.mem_cons] at hp ⊢
            rcases hp with hp | hp
            · exact .inl hp
            · exact .inr (.inr hp)
          · have := (m6.obj q hq).1
            have := S4.lt q ho
            omega
      · have hne0 : i ≠ (lf.length - st) % lf.length := fun e => by
          have : jj = 0 := by
            rw [hjj, e, Nat.add_mod_mod, show st + (lf.length - st) = lf.length by omega, Nat.mod_self]
          subst this
          rw [hlf0] at ho
          have : o0 = o := Option.some.inj ho
          rw [this] at anc0
          rcases anc0 with e2 | ⟨u, hu, e2, _⟩
          · exact hnr ⟨by rw [e2], by rw [e2]⟩
          · obtain ⟨q, hq⟩ := List.mem_iff_getElem?.1 ((G2.mem u.a).2 ⟨u, hu, rfl⟩)
            have := atIx_at' G2.nd hq
            have e5 : u.a.r = o.an.1 ∧ u.a.n = o.an.2 := by rw [← e2]; exact ⟨rfl, rfl⟩
            rw [e5.1, e5.2, hnone] at this; cases this
        rw [decide_eq_false hnr]
        simp -implicitDefEqProofs [E.x, E.o, E.p, En, same_self]
        refine shasG_ev S2 (ar := o.an.1) (an := o.an.2) hoR.an ?_
        rw [hnone]
        simp -implicitDefEqProofs [w3, same_self]
        exact .mk (m := m - 1) (by omega) (by rw [hJ]; exact ⟨rfl, i + 1, by omega, by omega, rfl⟩)
end
end Go.Proofs.YthblmlkkmebciaaDoor
set_option linter.all false
set_option maxRecDepth 100000
set_option maxHeartbeats 4000000
namespace Go.Proofs.YthblmlkkmebciaaDoor
open Go Go.RowKit Go.Proofs Go.ChangeShapes Go.WideShapes Go.ChangeAt
theorem int_of {ro n} {x : List AVal} (h : Rdg Tryd.prog ro n 3 x) : ∃ i : Int, x = [.int .i64 i] := by
  obtain ⟨i, h1, _⟩ := rdg_int Tryd.underlying3 h
  exact ⟨i, h1⟩
theorem ints_of : ∀ {ess : List (List AVal)}, (∀ x ∈ ess, ∃ i : Int, x = [.int .i64 i]) → ∃ l : List Int, ess = l.map fun i => [.int .i64 i]
  | [], _ => ⟨[], rfl⟩
  | x :: ess, h => by
    obtain ⟨e, rfl⟩ := h x (by simp)
    obtain ⟨l, rfl⟩ := ints_of (ess := ess) (fun y hy => h y (by simp [hy]))
    exact ⟨e :: l, rfl⟩

theorem graftTurns_lifted (os : Os) (started : os.Started) (H : Type) (enc : TypeId × Value → H) :
    ReturnsInHanded {} Tryd.checked os 7 .any (fun w args => (YthblmlkkmebciaaDoor.Rows.graftTurnsSpec.pre enc Tryd.prog Tryd.f7 [] false w args ∧ laidMetH Tryd.prog laidL w) ∧ sizedMet enc Tryd.prog Tryd.f7 (OpenSpec.ofChange YthblmlkkmebciaaDoor.Rows.graftTurnsSpec) false w args) (YthblmlkkmebciaaDoor.Rows.graftTurnsSpec.post enc Tryd.prog Tryd.f7 false true false false) := by
  refine returnsInHanded_of_change_and (C := Tryd.checked) (X := fun w _ => laidMetH Tryd.prog laidL w) (fun _ _ _ hh h => h.of_heap hh) own started (by kernel_rfl) Tryd.func7
    (ChangeSpec.witness_at (enc := enc) (C := Tryd.checked) (os := os) (X := fun w _ => laidMetH Tryd.prog laidL w) false (w0 os) #[.slice none 0 0, .slice none 0 0] 8 rfl (by kernel_rfl) (by kernel_rfl) (by kernel_rfl) (by kernel_rfl) (by kernel_rfl) (w0_met os _)) ?_
  intro W base args ds gs before hval0 hW hcnd hsz hL _
  have hval : ∀ (j : Nat) t v, Tryd.f7.params[j]? = some t → args[j]? = some v → Value.okWide Tryd.prog W .any base t v := hval0
  have hW' := hW
  have hlt := hW.lt
  obtain ⟨p, q, hA0, hV, rfl, hfz, hnd⟩ := hW
  have hA : DataW.TrodAll enc Tryd.prog W 0 (fun _ => true) true Tryd.f7.params.toList args.toList ds p := hA0
  have hA1 := hA
  rw [Tryd.params7] at hA hval
  obtain ⟨v0, v1, d0, d1, p0, p1, rfl, rfl, rfl, h0, h1⟩ := trodAll_two hA
  obtain ⟨rfl, rfl⟩ := trodVars_none hV
  have hro := root_of hL
  obtain ⟨ess, n, hx, hn, hsl⟩ := argSlice covAll (of_decide_eq_true (by kernel_rfl)) Tryd.underlying49 (by rw [co51]; decide) (hval 0 49 v0 rfl rfl) h0
  obtain ⟨l, rfl, hr⟩ := ops17_of (fun x hm => op17_of (hx x hm).2)
  have hS : Sl (cfgR (roW W)) heap0 9 (absV v0) (l.map O17.cells) := by
    have := hsl (cfgR (roW W)) heap0 rfl
    rw [co51] at this
    exact this
  obtain ⟨ess2, n2, hx2, hm, hsl2⟩ := argSlice covAll (of_decide_eq_true (by kernel_rfl)) Tryd.underlying74 (by rw [co3]; decide) (hval 1 74 v1 rfl rfl) h1
  obtain ⟨tr, rfl⟩ := ints_of (fun x hm => int_of (hx2 x hm).2)
  have hT : Sl (cfgR (roW W)) heap0 1 (absV v1) (tr.map fun i => [.int .i64 i]) := by
    have := hsl2 (cfgR (roW W)) heap0 rfl
    rw [co3] at this
    exact this
  obtain ⟨k, v, h', hq, rfl⟩ := GraftTurns_ev hro hS (by simpa using hn) hr hT (by simpa using hm)
  refine (entry (c := cfg) sureC (W := W) (args := #[v0, v1]) (k := k) (v := .bool true) (h' := h') Tryd.func7 rfl rfl (by rw [show (#[v0, v1] : Array Value).toList.map absV = [absV v0, absV v1] from rfl]; exact hq)).mono fun e W' ⟨u, ι, he, hv, hb⟩ => ?_
  have hu : u = .bool true := hv
  subst hu
  refine ⟨_, he, post_below hW' (fun b sp hd => trodAll_mk1 (shut_bool Tryd.underlying4 true)) (trodAll_below laidOut hb (by kernel_rfl) hA1 (fun x hx => hlt x (by simpa using hx))) (by exact rfl) hb⟩
theorem graftTurns_said : YthblmlkkmebciaaDoor.Rows.GraftTurnsSaid :=
  OpenClaim.holds_of_wide 7 Tryd.f7 rfl rfl rfl rfl rfl rfl rfl ⟨rfl, rfl, rfl, rfl, rfl⟩ rfl rfl rfl rfl rfl (by kernel_rfl) Tryd.func7 (by kernel_rfl)
    (of_decide_eq_true (by kernel_rfl)) (by unfold Func.isWrapper; first | (rw [if_pos (by decide +kernel)]; kernel_rfl) | (rw [if_neg (by decide +kernel)]; exact ⟨rfl, rfl⟩))
    (fun os started H enc _ => graftTurns_lifted os started H enc)
theorem graftTurns_holds : YthblmlkkmebciaaDoor.Rows.GraftTurnsCardSaid :=
  Claim7.holds_tied_plain_at .later [] [.data] true (true, "83f94d69712dfd6e68caaf37ce9d9b9959291105dd6f8a28de6672e500c755ab") false
    graftTurns_said (fun _ h => by cases h) (by kernel_rfl) (fun _ h => by cases h) YthblmlkkmebciaaDoor.graftTurns_row_tie rfl ⟨rfl, rfl⟩ (by kernel_rfl) rfl
    (fun f fn hf hfn => by
      obtain rfl : f = 7 := Option.some.inj ((show Tryd.prog.funcNamed "copyist/copyistlaw17.GraftTurns" = some 7 by kernel_rfl).symm.trans hf) |>.symm
      obtain rfl : fn = Tryd.f7 := (Option.some.inj (Tryd.func7.symm.trans hfn)).symm
      exact ⟨by kernel_rfl, fun j t ht => by
        rw [Tryd.params7] at ht
        rcases j with _ | _ | j
        · obtain rfl : 49 = t := by simpa using ht
          exact (show Tryd.prog.wantsStandIn 49 = false by kernel_rfl)
        · obtain rfl : 74 = t := by simpa using ht
          exact (show Tryd.prog.wantsStandIn 74 = false by kernel_rfl)
        · simp at ht⟩)
    (by kernel_rfl)
end Go.Proofs.YthblmlkkmebciaaDoor
