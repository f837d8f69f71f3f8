/-
  A part of the proof of RopePlays, over the seat Ytbnlhhfobgjeaaa: for every input the law returns true, and the input reads as it did.
-/
import Derived.Test.YtbnlhhfobgjeaaaRa
set_option linter.all false
set_option linter.all false
set_option maxRecDepth 100000
set_option maxHeartbeats 4000000
namespace Go.Proofs.Ytbnlhhfobgjeaaa
open Go Go.RowKit Go.Proofs

abbrev Str := List UInt8
def TS : Sig Str := ⟨fun s => [.str s], fun l => [.str l.flatten]⟩
/-- all texts of a tree, one behind the other -/
def Rt.tx (t : Rt Str) : Str := (t.items.map (·.2)).flatten
theorem tx_node (o ht : Nat) (x : Str) (l r : Rt Str) : (Rt.node o ht x l r).tx = l.tx ++ x ++ r.tx := by simp [Rt.tx, Rt.items]
/-- a place, as it stands -/
def nrow (up l r : AVal) (ht sz : Nat) (x all : Str) : AObj := .row 0 false [up, l, r, .int .u64 ht, .int .i64 sz, .str x, .str all]
theorem nobj_row (up l r : AVal) (ht sz : Nat) (x all : Str) : nobj TS up l r ht sz x [.str all] = nrow up l r ht sz x all := rfl
theorem at_node {h : AHeap} {up : AVal} {o ht : Nat} {x : Str} {l r : Rt Str} : At TS h up (.node o ht x l r) ↔ h.get o = some (nrow up l.ptr r.ptr ht (l.items.length + 1 + r.items.length) x (l.tx ++ x ++ r.tx)) ∧ At TS h (.ptr o 0) l ∧ At TS h (.ptr o 0) r := by
  have : (Rt.node o ht x l r).sum TS = [.str (l.tx ++ x ++ r.tx)] := by simp [Rt.sum, TS, Rt.tx, Rt.items]
  show (h.get o = some (nobj TS up l.ptr r.ptr ht (l.items.length + 1 + r.items.length) x ((Rt.node o ht x l r).sum TS)) ∧ At TS h (.ptr o 0) l ∧ At TS h (.ptr o 0) r) ↔ _
  rw [this, nobj_row]

theorem meth31 : methodR Try.prog 31 "Measure" = .ok 57 := by kernel_rfl
theorem meth32 : methodR Try.prog 32 "Plus" = .ok 58 := by kernel_rfl
section
variable {ro : Nat → Option (List AVal)}

theorem len26 {h : AHeap} {up : AVal} {t : Rt Str} (ha : At TS h up t) {Q : AVal → AHeap → Prop} (hq : Q (.int .i64 t.items.length) h) : Ev (cfgR ro) 26 [t.ptr] h Q := by
  refine Ev.wp rfl rfl Try.func26 rfl ?_
  cases t with
  | nil => simp [Try.f26, Rt.ptr]; simpa [Rt.items] using hq
  | node o ht x l r =>
    rw [at_node] at ha
    have hl : (Rt.node o ht x l r).items.length = l.items.length + 1 + r.items.length := by simp [Rt.items]; omega
    rw [hl] at hq
    obtain ⟨n, hn⟩ : ∃ n, n = l.items.length + 1 + r.items.length := ⟨_, rfl⟩
    rw [← hn] at ha hq
    simp [Try.f26, Rt.ptr, ha.1, nrow]
    exact hq

theorem sum27 {h : AHeap} {up : AVal} {t : Rt Str} (ha : At TS h up t) {Q : AVal → AHeap → Prop} (hq : Q (.agg [.str t.tx]) h) : Ev (cfgR ro) 27 [t.ptr] h Q := by
  refine Ev.wp rfl rfl Try.func27 rfl ?_
  cases t with
  | nil => simp [Try.f27, Rt.ptr]; simpa [Rt.tx, Rt.items] using hq
  | node o ht x l r =>
    rw [at_node] at ha
    rw [tx_node] at hq
    obtain ⟨n, hn⟩ : ∃ n, n = l.tx ++ x ++ r.tx := ⟨_, rfl⟩
    rw [← hn] at ha hq
    simp [Try.f27, Rt.ptr, ha.1, nrow]
    exact hq

theorem meas57 {h : AHeap} {x : Str} {Q : AVal → AHeap → Prop} (hq : Q (.agg [.str x]) h) : Ev (cfgR ro) 57 [.agg [.str x]] h Q := by
  refine Ev.wp rfl rfl Try.func57 rfl ?_
  simp [Try.f57]
  exact hq
theorem plus58 {h : AHeap} {x y : Str} (hl : x.length + y.length < 2 ^ 62) {Q : AVal → AHeap → Prop} (hq : Q (.agg [.str (x ++ y)]) h) : Ev (cfgR ro) 58 [.agg [.str x], .agg [.str y]] h Q := by
  refine Ev.wp rfl rfl Try.func58 rfl ?_
  simp [Try.f58]
  exact ⟨by omega, hq⟩

theorem renew37 {h : AHeap} {up u1 u2 : AVal} {n ht sz : Nat} {x all : Str} {l r : Rt Str} (hn : h.get n = some (nrow up l.ptr r.ptr ht sz x all)) (hl : At TS h u1 l) (hr : At TS h u2 r)
    (hnl : n ∉ l.ids) (hnr : n ∉ r.ids) (hlen : l.items.length + r.items.length < 2 ^ 60) (htx : l.tx.length + x.length + r.tx.length < 2 ^ 60) {Q : AVal → AHeap → Prop}
    (hq : ∀ h', h'.get n = some (nrow up l.ptr r.ptr ht (l.items.length + 1 + r.items.length) x (l.tx ++ x ++ r.tx)) → (∀ o, o ≠ n → h'.get o = h.get o) → h'.next = h.next → Q (.tuple []) h') : Ev (cfgR ro) 37 [.ptr n 0] h Q := by
  refine Ev.wp rfl rfl Try.func37 rfl ?_
  simp [Try.f37, hn, nrow]
  refine len26 hl ?_
  simp [hn, nrow]
  refine len26 hr ?_
  have e1 : IntKind.i64.wrap ((l.items.length : Int) + 1) = (l.items.length : Int) + 1 := w64 (by omega) (by omega)
  have e2 : IntKind.i64.wrap ((l.items.length : Int) + 1 + r.items.length) = ((l.items.length + 1 + r.items.length : Nat) : Int) := by rw [w64 (by omega) (by omega)]; omega
  obtain ⟨m, hm⟩ : ∃ m, m = l.items.length + 1 + r.items.length := ⟨_, rfl⟩
  rw [← hm] at e2
  simp only [← hm] at hq
  simp [hn, nrow, e1, e2]
  have h1 : (h.set n (.row 0 false [up, l.ptr, r.ptr, .int .u64 ht, .int .i64 m, .str x, .str all])).get n = some (.row 0 false [up, l.ptr, r.ptr, .int .u64 ht, .int .i64 m, .str x, .str all]) := get_set_self _ _ _
  have hl1 : At TS (h.set n (.row 0 false [up, l.ptr, r.ptr, .int .u64 ht, .int .i64 m, .str x, .str all])) u1 l := At.congr (fun o ho => get_set_ne (fun e => hnl (by rw [e]; exact ho))) hl
  have hr1 : At TS (h.set n (.row 0 false [up, l.ptr, r.ptr, .int .u64 ht, .int .i64 m, .str x, .str all])) u2 r := At.congr (fun o ho => get_set_ne (fun e => hnr (by rw [e]; exact ho))) hr
  obtain ⟨h2, hh2⟩ : ∃ h2, h2 = h.set n (.row 0 false [up, l.ptr, r.ptr, .int .u64 ht, .int .i64 m, .str x, .str all]) := ⟨_, rfl⟩
  rw [← hh2] at h1 hl1 hr1 ⊢
  refine sum27 hl1 ?_
  simp [h1, undR, Try.underlying31, Try.underlying32, meth31, meth32]
  refine meas57 ?_
  simp [h1, meth32]
  refine plus58 (by omega) ?_
  simp [h1, undR, Try.underlying32, meth32]
  refine sum27 hr1 ?_
  simp [h1, undR, Try.underlying32, meth32]
  refine plus58 (by simp; omega) ?_
  obtain ⟨tx, htx'⟩ : ∃ tx, tx = l.tx ++ x ++ r.tx := ⟨_, rfl⟩
  simp only [← htx'] at hq ⊢
  simp [h1, undR, Try.underlying32, meth32]
  exact hq _ (get_set_self _ _ _) (fun o ho => by rw [get_set_ne (fun e => ho e.symm), hh2, get_set_ne (fun e => ho e.symm)]) (by rw [hh2]; rfl)

/-- a place whose own sums, and those above, may be stale -/
def Stl (h : AHeap) (c : List (Frm Str)) (n ht : Nat) (x : Str) (l r : Rt Str) : Prop :=
  (∃ sz all, h.get n = some (nrow (upOf c) l.ptr r.ptr ht sz x all)) ∧ At TS h (.ptr n 0) l ∧ At TS h (.ptr n 0) r ∧ CA TS h c (.ptr n 0)
theorem Stl.up {h : AHeap} {f : Frm Str} {c : List (Frm Str)} {t : Rt Str} (ha : At TS h (.ptr f.o 0) t) (hc : CA TS h (f :: c) t.ptr) : ∃ l r, plug1 f t = .node f.o f.ht f.x l r ∧ Stl h c f.o f.ht f.x l r := by
  obtain ⟨⟨sz, all, ⟨q, hq⟩, h1⟩, h2, h3⟩ := hc
  have hall : all = [.str q.flatten] := hq
  rw [hall, nobj_row] at h1
  unfold plug1
  cases hf : f.left with
  | true =>
    have e1 : lptr f t.ptr = t.ptr := by simp only [lptr, hf]
    have e2 : rptr' f t.ptr = f.sib.ptr := by simp only [rptr', hf]
    rw [e1, e2] at h1
    exact ⟨_, _, rfl, ⟨sz, _, h1⟩, ha, h2, h3⟩
  | false =>
    have e1 : lptr f t.ptr = f.sib.ptr := by simp only [lptr, hf]
    have e2 : rptr' f t.ptr = t.ptr := by simp only [rptr', hf]
    rw [e1, e2] at h1
    exact ⟨_, _, rfl, ⟨sz, _, h1⟩, h2, ha, h3⟩

theorem plug_tx (c : List (Frm Str)) (t : Rt Str) : (plug c t).tx = ((bef c).map (·.2)).flatten ++ t.tx ++ ((aft c).map (·.2)).flatten := by simp [Rt.tx, plug_items]

/-- not too great -/
def Fit (t : Rt Str) : Prop := t.items.length < 2 ^ 60 ∧ t.tx.length < 2 ^ 60
theorem Fit.sub {c : List (Frm Str)} {t : Rt Str} (h : Fit (plug c t)) : Fit t := by
  unfold Fit at *
  rw [plug_items, plug_tx] at h
  simp at h
  exact ⟨by omega, by omega⟩
theorem Fit.node {o ht : Nat} {x : Str} {l r : Rt Str} (h : Fit (.node o ht x l r)) : l.items.length + r.items.length < 2 ^ 60 ∧ l.tx.length + x.length + r.tx.length < 2 ^ 60 := by
  unfold Fit at h
  rw [tx_node, items_node] at h
  simp at h
  exact ⟨by omega, by omega⟩

theorem climb24 {h : AHeap} {c : List (Frm Str)} {n ht : Nat} {x : Str} {l r : Rt Str} (hs : Stl h c n ht x l r) (hnd : (plug c (.node n ht x l r)).ids.Nodup) (hfit : Fit (plug c (.node n ht x l r))) {Q : AVal → AHeap → Prop}
    (hq : ∀ h', At TS h' .nilp (plug c (.node n ht x l r)) → (∀ o, o ∉ (plug c (.node n ht x l r)).ids → h'.get o = h.get o) → h'.next = h.next → Q (.tuple []) h') : Ev (cfgR ro) 24 [.ptr n 0] h Q := by
  obtain ⟨W, hW⟩ : ∃ W, W = plug c (.node n ht x l r) := ⟨_, rfl⟩
  rw [← hW] at hq hnd hfit
  refine Ev.wp rfl rfl Try.func24 rfl ?_
  simp [Try.f24]
  obtain ⟨I, hI⟩ : ∃ I : Nat → List AVal → AHeap → Prop, I = fun m env h' => (∀ o, o ∉ W.ids → h'.get o = h.get o) ∧ h'.next = h.next ∧
      ((m = 0 ∧ At TS h' .nilp W ∧ env = [.nilp, .dead, .dead, .dead, .dead, .dead, .dead, .dead, .dead, .dead]) ∨ ∃ c n ht x l r, m = c.length + 1 ∧ W = plug c (.node n ht x l r) ∧ Stl h' c n ht x l r ∧ env = [.ptr n 0, .dead, .dead, .dead, .dead, .dead, .dead, .dead, .dead, .dead]) := ⟨_, rfl⟩
  refine loop_of I ?_ (c.length + 1) (by rw [hI]; exact ⟨fun _ _ => rfl, rfl, .inr ⟨c, n, ht, x, l, r, rfl, hW, hs, rfl⟩⟩)
  rintro m env h' hi
  rw [hI] at hi
  obtain ⟨hfr, hnx, ⟨rfl, hat, rfl⟩ | ⟨c, n, ht, x, l, r, rfl, hW, hs, rfl⟩⟩ := hi
  · simp
    exact hq _ hat hfr hnx
  · simp
    obtain ⟨⟨sz, all, hn⟩, hl, hr, hc⟩ := hs
    rw [hW] at hnd hfit
    obtain ⟨nd1, nd2⟩ := apart_tree hnd
    obtain ⟨_, _, hnl, hnr, hlr⟩ := apart_node nd1
    obtain ⟨f1, f2⟩ := hfit.sub.node
    refine renew37 hn hl hr hnl hnr f1 f2 (fun h2 g1 g2 g3 => ?_)
    have hat : At TS h2 (upOf c) (.node n ht x l r) := at_node.2 ⟨g1, At.congr (fun o ho => g2 o (fun e => hnl (by rw [← e]; exact ho))) hl, At.congr (fun o ho => g2 o (fun e => hnr (by rw [← e]; exact ho))) hr⟩
    have hca : CA TS h2 c (.ptr n 0) := CA.congr (fun o ho => g2 o (fun e => nd2 n (by rw [ids_node]; simp) (by rw [← e]; exact ho))) hc
    have hfr2 : ∀ o, o ∉ W.ids → h2.get o = h.get o := fun o ho => by
      rw [g2 o (fun e => ho (by rw [hW, plug_mem, ids_node, e]; simp)), hfr o ho]
    simp [g1, nrow]
    cases c with
    | nil =>
      simp [upOf]
      exact .mk (m := 0) (by simp) (by rw [hI]; exact ⟨hfr2, by rw [g3, hnx], .inl ⟨rfl, by rw [hW]; exact hat, rfl⟩⟩)
    | cons f c =>
      obtain ⟨l2, r2, e1, e2⟩ := Stl.up (t := .node n ht x l r) hat hca
      simp [upOf]
      exact .mk (m := c.length + 1) (by simp) (by rw [hI]; exact ⟨hfr2, by rw [g3, hnx], .inr ⟨c, f.o, f.ht, f.x, l2, r2, rfl, by rw [hW, plug, e1], e2, rfl⟩⟩)
end
end Go.Proofs.Ytbnlhhfobgjeaaa
set_option linter.all false
set_option maxRecDepth 100000
set_option maxHeartbeats 4000000
namespace Go.Proofs.Ytbnlhhfobgjeaaa
open Go Go.RowKit Go.Proofs
/-- what stands in and below a frame's place, with `it` in its hole -/
def itf (f : Frm Str) (it : List (Nat × Str)) : List (Nat × Str) := match f.left with
  | true => it ++ (f.o, f.x) :: f.sib.items
  | false => f.sib.items ++ (f.o, f.x) :: it
/-- a way up whose sums are those of `it` in the hole -/
def CX (h : AHeap) : List (Frm Str) → List (Nat × Str) → AVal → Prop
  | [], _, _ => True
  | f :: c, it, p => h.get f.o = some (nrow (upOf c) (lptr f p) (rptr' f p) f.ht (itf f it).length f.x ((itf f it).map (·.2)).flatten) ∧ At TS h (.ptr f.o 0) f.sib ∧ CX h c (itf f it) (.ptr f.o 0)
theorem CX.congr {h h' : AHeap} : ∀ {c : List (Frm Str)} {it : List (Nat × Str)} {p : AVal}, (∀ o ∈ cids c, h'.get o = h.get o) → CX h c it p → CX h' c it p
  | [], _, _, _, _ => trivial
  | f :: c, it, p, hg, ha => by
    obtain ⟨h1, h2, h3⟩ := ha
    exact ⟨by rw [hg f.o (cids_cons.2 (.inl rfl))]; exact h1, At.congr (fun q hq => hg q (cids_cons.2 (.inr (.inl hq)))) h2, CX.congr (fun q hq => hg q (cids_cons.2 (.inr (.inr hq)))) h3⟩
theorem CX.ca {h : AHeap} : ∀ {c : List (Frm Str)} {it : List (Nat × Str)} {p : AVal}, CX h c it p → CA TS h c p
  | [], _, _, _ => trivial
  | f :: c, it, p, ⟨h1, h2, h3⟩ => ⟨⟨_, _, ⟨(itf f it).map (fun x => x.2), rfl⟩, by rw [h1]; rfl⟩, h2, CX.ca h3⟩
theorem itf_items (f : Frm Str) (t : Rt Str) : itf f t.items = (plug1 f t).items := by
  unfold itf plug1
  cases f.left <;> rfl
theorem CX.join {h : AHeap} : ∀ {c : List (Frm Str)} {t : Rt Str}, At TS h (upOf c) t → CX h c t.items t.ptr → At TS h .nilp (plug c t)
  | [], t, ha, _ => ha
  | f :: c, t, ha, ⟨h1, h2, h3⟩ => by
    rw [itf_items] at h1 h3
    unfold plug
    refine CX.join (c := c) (t := plug1 f t) ?_ ?_
    · unfold plug1 at h1 ⊢
      cases hf : f.left with
      | true =>
        have e1 : lptr f t.ptr = t.ptr := by simp only [lptr, hf]
        have e2 : rptr' f t.ptr = f.sib.ptr := by simp only [rptr', hf]
        rw [hf] at h1
        simp only at h1 ⊢
        rw [e1, e2] at h1
        refine at_node.2 ⟨?_, ha, h2⟩
        rw [h1, Rt.items, List.length_append, List.length_cons]
        simp [nrow, Rt.tx]
        omega
      | false =>
        have e1 : lptr f t.ptr = f.sib.ptr := by simp only [lptr, hf]
        have e2 : rptr' f t.ptr = t.ptr := by simp only [rptr', hf]
        rw [hf] at h1
        simp only at h1 ⊢
        rw [e1, e2] at h1
        refine at_node.2 ⟨?_, h2, ha⟩
        rw [h1, Rt.items, List.length_append, List.length_cons]
        simp [nrow, Rt.tx]
        omega
    · have hp : (plug1 f t).ptr = .ptr f.o 0 := by unfold plug1; cases f.left <;> rfl
      rw [hp]; exact h3
theorem CX.split {h : AHeap} : ∀ {c : List (Frm Str)} {t : Rt Str}, At TS h .nilp (plug c t) → At TS h (upOf c) t ∧ CX h c t.items t.ptr
  | [], t, ha => ⟨ha, trivial⟩
  | f :: c, t, ha => by
    obtain ⟨h1, h2⟩ := CX.split (c := c) (t := plug1 f t) ha
    have hp : (plug1 f t).ptr = .ptr f.o 0 := by unfold plug1; cases f.left <;> rfl
    rw [hp] at h2
    rw [← itf_items] at h2
    unfold plug1 at h1
    cases hf : f.left with
    | true =>
      have e1 : lptr f t.ptr = t.ptr := by simp only [lptr, hf]
      have e2 : rptr' f t.ptr = f.sib.ptr := by simp only [rptr', hf]
      rw [hf] at h1
      obtain ⟨a1, a2, a3⟩ := at_node.1 h1
      refine ⟨a2, ?_, a3, h2⟩
      rw [e1, e2, a1, itf_items]
      unfold plug1
      rw [hf]
      simp [Rt.items, nrow, Rt.tx]
      omega
    | false =>
      have e1 : lptr f t.ptr = f.sib.ptr := by simp only [lptr, hf]
      have e2 : rptr' f t.ptr = t.ptr := by simp only [rptr', hf]
      rw [hf] at h1
      obtain ⟨a1, a2, a3⟩ := at_node.1 h1
      refine ⟨a3, ?_, a2, h2⟩
      rw [e1, e2, a1, itf_items]
      unfold plug1
      rw [hf]
      simp [Rt.items, nrow, Rt.tx]
      omega
end Go.Proofs.Ytbnlhhfobgjeaaa
set_option linter.all false
set_option maxRecDepth 100000
set_option maxHeartbeats 4000000
namespace Go.Proofs.Ytbnlhhfobgjeaaa
open Go Go.RowKit Go.Proofs

def rrow (p : AVal) (s : Int) : AObj := .row 0 false [p, .int .u64 s]
/-- the place above, if there is one -/
def topO : List (Frm Str) → List Nat
  | [] => []
  | f :: _ => [f.o]
/-- a pointer to a place, or nil -/
def PtrTo (h : AHeap) (q : AVal) : Prop := q = .nilp ∨ ∃ n u l r ht sz x all, q = .ptr n 0 ∧ h.get n = some (nrow u l r ht sz x all)
theorem At.ptrTo {h : AHeap} {up : AVal} {t : Rt Str} (ha : At TS h up t) : PtrTo h t.ptr := by
  cases t with
  | nil => exact .inl rfl
  | node o ht x l r => exact .inr ⟨o, _, _, _, _, _, _, _, rfl, (at_node.1 ha).1⟩
theorem ptrEq_ne {h : AHeap} {o f o' f' : Nat} {e e' : Nat} {vs vs' : List AVal} (hne : o ≠ o') (h1 : h.get o = some (.row e false vs)) (h2 : h.get o' = some (.row e' false vs')) : ptrEq h o f o' f' = .ok false := by
  unfold ptrEq; rw [if_neg hne, h1, h2]
theorem ptrEq_self {h : AHeap} {o f : Nat} : ptrEq h o f o f = .ok true := by unfold ptrEq; simp

section
variable {ro : Nat → Option (List AVal)}
/-- is a pointer that of a place? -/
theorem eq_place {h : AHeap} {t : Rt Str} {up : AVal} {o e : Nat} {vs : List AVal} (ha : At TS h up t) (ho : o ∉ t.ids) (hg : h.get o = some (.row e false vs)) : eqIn (cfgR ro) h 10000 24 t.ptr (.ptr o 0) = .ok false := by
  cases t with
  | nil => exact eq24_np h o 0
  | node q ht x l r =>
    have hq := (at_node.1 ha).1
    show eqIn (cfgR ro) h 10000 24 (.ptr q 0) (.ptr o 0) = _
    rw [eq24_pp]
    exact ptrEq_ne (fun e => ho (by rw [ids_node, e]; simp)) hq hg

theorem hang38 {h : AHeap} {c : List (Frm Str)} {rr n old : Nat} {s : Int} {nu nl nr ol or_ : AVal} {nht nsz oht osz : Nat} {nx nall ox oall : Str} {it : List (Nat × Str)}
    (hroot : h.get rr = some (rrow (rootOf c (.ptr old 0)) s)) (hold : h.get old = some (nrow (upOf c) ol or_ oht osz ox oall)) (hn : h.get n = some (nrow nu nl nr nht nsz nx nall)) (hc : CX h c it (.ptr old 0))
    (d1 : n ≠ old) (d2 : old ∉ cids c) (d3 : n ∉ cids c) (d4 : rr ∉ cids c) (d5 : rr ≠ n) (d6 : rr ≠ old) (d7 : (plug c (Rt.nil : Rt Str)).ids.Nodup) {Q : AVal → AHeap → Prop}
    (hq : ∀ h', h'.get n = some (nrow (upOf c) nl nr nht nsz nx nall) → h'.get rr = some (rrow (rootOf c (.ptr n 0)) s) → CX h' c it (.ptr n 0) → (∀ o, o ≠ n → o ≠ rr → o ∉ cids c → h'.get o = h.get o) → h'.next = h.next → Q (.tuple []) h') :
    Ev (cfgR ro) 38 [.ptr rr 0, .ptr old 0, .ptr n 0] h Q := by
  refine Ev.wp rfl rfl Try.func38 rfl ?_
  cases c with
  | nil =>
    simp only [upOf, rootOf] at *
    simp [Try.f38, hold, nrow, hn, d5, hroot, rrow, get_set_ne (Ne.symm d5)]
    refine hq _ ?_ ?_ trivial (fun o a b _ => ?_) rfl
    · rw [get_set_ne d5, get_set_self]; rfl
    · rw [get_set_self]; rfl
    · rw [get_set_ne (Ne.symm b), get_set_ne (Ne.symm a)]
  | cons f c =>
    simp only [upOf, rootOf] at *
    obtain ⟨h1, h2, h3⟩ := hc
    obtain ⟨J, hJ⟩ : ∃ J, J = itf f it := ⟨_, rfl⟩
    obtain ⟨sz, hsz⟩ : ∃ sz, sz = J.length := ⟨_, rfl⟩
    obtain ⟨all, hall⟩ : ∃ all, all = (J.map (·.2)).flatten := ⟨_, rfl⟩
    rw [← hJ, ← hsz, ← hall] at h1
    rw [← hJ] at h3
    have df : f.o ∈ cids (f :: c) := cids_cons.2 (.inl rfl)
    have n1 : n ≠ f.o := fun e => d3 (by rw [e]; exact df)
    have n2 : old ≠ f.o := fun e => d2 (by rw [e]; exact df)
    have n3 : rr ≠ f.o := fun e => d4 (by rw [e]; exact df)
    have hsibn : n ∉ f.sib.ids := fun hm => d3 (cids_cons.2 (.inr (.inl hm)))
    have hsibo : old ∉ f.sib.ids := fun hm => d2 (cids_cons.2 (.inr (.inl hm)))
    have hsibr : rr ∉ f.sib.ids := fun hm => d4 (cids_cons.2 (.inr (.inl hm)))
    have dd : f.o ∉ f.sib.ids ∧ f.o ∉ cids c := by
      rw [plug] at d7
      obtain ⟨q1, q2⟩ := apart_tree d7
      unfold plug1 at q1 q2
      cases hl : f.left with
      | true =>
        rw [hl] at q1 q2
        obtain ⟨_, _, _, q3, _⟩ := apart_node q1
        exact ⟨q3, q2 _ (by rw [ids_node]; simp)⟩
      | false =>
        rw [hl] at q1 q2
        obtain ⟨_, _, q3, _, _⟩ := apart_node q1
        exact ⟨q3, q2 _ (by rw [ids_node]; simp)⟩
    obtain ⟨hA, hhA⟩ : ∃ hA, hA = h.set n (nrow (.ptr f.o 0) nl nr nht nsz nx nall) := ⟨_, rfl⟩
    have gA : ∀ o, o ≠ n → hA.get o = h.get o := fun o ho => by rw [hhA, get_set_ne (Ne.symm ho)]
    have h1' := h1
    rw [← gA _ (Ne.symm n1)] at h1'
    have hold' := hold
    rw [← gA _ (Ne.symm d1)] at hold'
    have hsib' : At TS hA (.ptr f.o 0) f.sib := At.congr (fun o ho => gA o (fun e => hsibn (by rw [← e]; exact ho))) h2
    have fin : ∀ h', h'.get f.o = some (nrow (upOf c) (lptr f (.ptr n 0)) (rptr' f (.ptr n 0)) f.ht sz f.x all) → (∀ o, o ≠ f.o → h'.get o = hA.get o) → h'.next = h.next → Q (.tuple []) h' := by
      intro h' g1 g2 g3
      refine hq h' ?_ ?_ ⟨by rw [← hJ, ← hsz, ← hall, g1], ?_, hJ ▸ ?_⟩ (fun o a b hcd => ?_) g3
      · rw [g2 n n1, hhA, get_set_self]
      · rw [g2 rr n3, gA rr d5]; exact hroot
      · exact At.congr (fun o ho => by rw [g2 o (fun e => dd.1 (by rw [← e]; exact ho)), gA o (fun e => hsibn (by rw [← e]; exact ho))]) h2
      · exact CX.congr (fun o ho => by rw [g2 o (fun e => dd.2 (by rw [← e]; exact ho)), gA o (fun e => d3 (cids_cons.2 (.inr (.inr (by rw [← e]; exact ho)))))]) h3
      · rw [g2 o (fun e => hcd (by rw [e]; exact df)), gA o a]
    have hnA : hA.next = h.next := by rw [hhA]; rfl
    simp [Try.f38, hold, nrow, hn]
    simp only [nrow] at hhA
    rw [← hhA]
    cases hl : f.left with
    | true =>
      have e1 : lptr f (.ptr old 0) = .ptr old 0 := by simp only [lptr, hl]
      have e2 : rptr' f (.ptr old 0) = f.sib.ptr := by simp only [rptr', hl]
      rw [e1, e2, nrow] at h1'
      simp [h1', ptrEq_self]
      exact fin _ (by rw [get_set_self, lptr, rptr', hl]; rfl) (fun o ho => get_set_ne (Ne.symm ho)) hnA
    | false =>
      have e1 : lptr f (.ptr old 0) = f.sib.ptr := by simp only [lptr, hl]
      have e2 : rptr' f (.ptr old 0) = .ptr old 0 := by simp only [rptr', hl]
      rw [e1, e2, nrow] at h1'
      have heq := eq_place (ro := ro) hsib' hsibo hold'
      simp [h1', heq]
      refine ⟨by cases f.sib <;> simp [Rt.ptr], ?_⟩
      exact fin _ (by rw [get_set_self, lptr, rptr', hl]; rfl) (fun o ho => get_set_ne (Ne.symm ho)) hnA
end
end Go.Proofs.Ytbnlhhfobgjeaaa
set_option linter.all false
set_option maxRecDepth 100000
set_option maxHeartbeats 4000000
namespace Go.Proofs.Ytbnlhhfobgjeaaa
open Go Go.RowKit Go.Proofs

/-- the tree behind a turn -/
def turned (f : Frm Str) (n ht : Nat) (x : Str) (l r : Rt Str) : Rt Str := match f.left with
  | true => .node n ht x l (.node f.o f.ht f.x r f.sib)
  | false => .node n ht x (.node f.o f.ht f.x f.sib l) r
theorem plug1_mem {f : Frm Str} {t : Rt Str} {o : Nat} : o ∈ (plug1 f t).ids ↔ o = f.o ∨ o ∈ f.sib.ids ∨ o ∈ t.ids := by
  have h := plug_mem (c := [f]) (t := t) (o := o)
  rw [cids_cons] at h
  have h0 : cids ([] : List (Frm Str)) = [] := rfl
  rw [h0] at h
  have h1 : plug [f] t = plug1 f t := rfl
  rw [h1] at h
  rw [h]
  constructor
  · rintro (h | h | h | h)
    · exact .inr (.inr h)
    · exact .inl h
    · exact .inr (.inl h)
    · cases h
  · rintro (h | h | h)
    · exact .inr (.inl h)
    · exact .inr (.inr (.inl h))
    · exact .inl h
theorem turned_items (f : Frm Str) (n ht : Nat) (x : Str) (l r : Rt Str) : (turned f n ht x l r).items = (plug1 f (.node n ht x l r)).items := by
  unfold turned plug1
  cases f.left <;> simp [Rt.items]
theorem plug_nd {c : List (Frm Str)} {t : Rt Str} (h : (plug c t).ids.Nodup) : (plug c (Rt.nil : Rt Str)).ids.Nodup := by
  rw [plug_ids] at h ⊢
  refine h.sublist ?_
  refine List.Sublist.append (List.Sublist.append (List.Sublist.refl _) ?_) (List.Sublist.refl _)
  exact List.nil_sublist _
theorem plug_items_congr {c : List (Frm Str)} {t u : Rt Str} (h : t.items = u.items) : (plug c t).items = (plug c u).items := by rw [plug_items, plug_items, h]

theorem At.reup {h h' : AHeap} {up up' : AVal} {m mt : Nat} {x : Str} {l r : Rt Str} (ha : At TS h up (.node m mt x l r)) (hnd : (Rt.node m mt x l r).ids.Nodup)
    (h1 : h'.get m = some (nrow up' l.ptr r.ptr mt (l.items.length + 1 + r.items.length) x (l.tx ++ x ++ r.tx))) (h2 : ∀ o ∈ (Rt.node m mt x l r).ids, o ≠ m → h'.get o = h.get o) : At TS h' up' (.node m mt x l r) := by
  obtain ⟨a1, a2, a3⟩ := at_node.1 ha
  obtain ⟨_, _, b1, b2, _⟩ := apart_node hnd
  exact at_node.2 ⟨h1, At.congr (fun o ho => h2 o (by rw [ids_node]; simp [ho]) (fun e => b1 (by rw [← e]; exact ho))) a2, At.congr (fun o ho => h2 o (by rw [ids_node]; simp [ho]) (fun e => b2 (by rw [← e]; exact ho))) a3⟩


structure RiseF (c : List (Frm Str)) (f : Frm Str) (rr n ht : Nat) (x : Str) (l r : Rt Str) : Prop where
  ndl : l.ids.Nodup
  ndr : r.ids.Nodup
  dl : n ∉ l.ids
  dr : n ∉ r.ids
  ndc : (plug c (Rt.nil : Rt Str)).ids.Nodup
  dnp : n ≠ f.o
  dpc : f.o ∉ cids c
  dnc : n ∉ cids c
  rc : rr ∉ cids c
  rn : rr ≠ n
  rp : rr ≠ f.o
  sib : ∀ o ∈ f.sib.ids, o ≠ n ∧ o ∉ l.ids ∧ o ∉ r.ids ∧ o ≠ f.o ∧ o ∉ cids c ∧ o ≠ rr
  subl : ∀ o ∈ l.ids, o ≠ n ∧ o ∉ r.ids ∧ o ≠ f.o ∧ o ∉ cids c ∧ o ≠ rr
  subr : ∀ o ∈ r.ids, o ≠ n ∧ o ≠ f.o ∧ o ∉ cids c ∧ o ≠ rr

theorem riseF {c : List (Frm Str)} {f : Frm Str} {rr n ht : Nat} {x : Str} {l r : Rt Str} (hnd : (plug (f :: c) (.node n ht x l r)).ids.Nodup) (hrr : rr ∉ (plug (f :: c) (.node n ht x l r)).ids) : RiseF c f rr n ht x l r := by
  obtain ⟨nd1, nd2⟩ := apart_tree hnd
  obtain ⟨ndl, ndr, dl, dr, dlr⟩ := apart_node nd1
  have hnd' : (plug c (plug1 f (.node n ht x l r))).ids.Nodup := hnd
  obtain ⟨ndp, ndp2⟩ := apart_tree hnd'
  have mem : ∀ o, o ∈ (plug1 f (.node n ht x l r)).ids ↔ o = f.o ∨ o ∈ f.sib.ids ∨ o ∈ (Rt.node n ht x l r).ids := fun o => plug1_mem
  have hmemn : n ∈ (Rt.node n ht x l r).ids := by rw [ids_node]; simp
  have inl : ∀ o ∈ l.ids, o ∈ (Rt.node n ht x l r).ids := fun o ho => by rw [ids_node]; simp [ho]
  have inr : ∀ o ∈ r.ids, o ∈ (Rt.node n ht x l r).ids := fun o ho => by rw [ids_node]; simp [ho]
  have fo : f.o ∈ cids (f :: c) := cids_cons.2 (.inl rfl)
  have fs : ∀ o ∈ f.sib.ids, o ∈ cids (f :: c) := fun o ho => cids_cons.2 (.inr (.inl ho))
  have fc : ∀ o ∈ cids c, o ∈ cids (f :: c) := fun o ho => cids_cons.2 (.inr (.inr ho))
  rw [plug_mem] at hrr
  have r1 : ∀ o ∈ (Rt.node n ht x l r).ids, o ≠ rr := fun o ho e => hrr (.inl (by rw [← e]; exact ho))
  have r2 : ∀ o ∈ cids (f :: c), o ≠ rr := fun o ho e => hrr (.inr (by rw [← e]; exact ho))
  have sf : f.o ∉ f.sib.ids := by
    intro hm
    unfold plug1 at ndp
    cases hl : f.left with
    | true => rw [hl] at ndp; exact (apart_node ndp).2.2.2.1 hm
    | false => rw [hl] at ndp; exact (apart_node ndp).2.2.1 hm
  exact {
    ndl := ndl, ndr := ndr, dl := dl, dr := dr, ndc := plug_nd hnd'
    dnp := fun e => nd2 n hmemn (by rw [e]; exact fo)
    dpc := ndp2 _ ((mem _).2 (.inl rfl))
    dnc := ndp2 _ ((mem _).2 (.inr (.inr hmemn)))
    rc := fun h => r2 _ (fc _ h) rfl
    rn := fun e => r1 n hmemn e.symm
    rp := fun e => r2 _ fo e.symm
    sib := fun o ho => ⟨fun e => nd2 n hmemn (by rw [← e]; exact fs o ho), fun h => nd2 o (inl o h) (fs o ho), fun h => nd2 o (inr o h) (fs o ho), fun e => sf (by rw [← e]; exact ho), ndp2 _ ((mem _).2 (.inr (.inl ho))), r2 _ (fs o ho)⟩
    subl := fun o ho => ⟨fun e => dl (by rw [← e]; exact ho), dlr o ho, fun e => nd2 o (inl o ho) (by rw [e]; exact fo), ndp2 _ ((mem _).2 (.inr (.inr (inl o ho)))), r1 _ (inl o ho)⟩
    subr := fun o ho => ⟨fun e => dr (by rw [← e]; exact ho), fun e => nd2 o (inr o ho) (by rw [e]; exact fo), ndp2 _ ((mem _).2 (.inr (.inr (inr o ho)))), r1 _ (inr o ho)⟩ }
end Go.Proofs.Ytbnlhhfobgjeaaa
set_option linter.all false
set_option maxRecDepth 100000
set_option maxHeartbeats 4000000
namespace Go.Proofs.Ytbnlhhfobgjeaaa
open Go Go.RowKit Go.Proofs
theorem cells_ptr (t : Rt Str) : cellsV t.ptr = .ok [t.ptr] := by cases t <;> rfl
theorem guard_ptr (t : Rt Str) : (match t.ptr, AVal.nilp with
              | .dead, x => false
              | x, .dead => false
              | .nili, .nili => true
              | .agg vs, .agg vs_1 => eqL 24
              | x, x_1 => true) = true := by cases t <;> rfl
theorem ptr_nil : (Rt.nil : Rt Str).ptr = .nilp := rfl
theorem ptr_node {o ht : Nat} {x : Str} {l r : Rt Str} : (Rt.node o ht x l r).ptr = .ptr o 0 := rfl
section
variable {ro : Nat → Option (List AVal)}
theorem fit_node2 {n p ht pht : Nat} {x px : Str} {C A B : Rt Str} (h : Fit (.node n ht x C (.node p pht px A B))) : Fit (.node p pht px A B) := by
  unfold Fit at *
  rw [tx_node, items_node] at h
  simp at h
  exact ⟨by omega, by omega⟩
theorem fit_node1 {n p ht pht : Nat} {x px : Str} {C A B : Rt Str} (h : Fit (.node n ht x (.node p pht px A B) C)) : Fit (.node p pht px A B) := by
  unfold Fit at *
  rw [tx_node, items_node] at h
  simp at h
  exact ⟨by omega, by omega⟩
theorem two37r {H : AHeap} {up : AVal} {p n pht ht psz nsz : Nat} {px x pall nall : Str} {A B C : Rt Str}
    (h1 : H.get p = some (nrow (.ptr n 0) A.ptr B.ptr pht psz px pall)) (h2 : H.get n = some (nrow up C.ptr (.ptr p 0) ht nsz x nall))
    (a1 : At TS H (.ptr p 0) A) (a2 : At TS H (.ptr p 0) B) (a3 : At TS H (.ptr n 0) C) (d1 : p ∉ A.ids) (d2 : p ∉ B.ids) (d3 : p ∉ C.ids) (d4 : n ≠ p) (d5 : n ∉ A.ids) (d6 : n ∉ B.ids) (d7 : n ∉ C.ids)
    (hfit : Fit (.node n ht x C (.node p pht px A B))) {Q : AVal → AHeap → Prop}
    (hq : ∀ h', At TS h' up (.node n ht x C (.node p pht px A B)) → (∀ o, o ≠ p → o ≠ n → h'.get o = H.get o) → h'.next = H.next → Q (.tuple []) h') :
    Ev (cfgR ro) 37 [.ptr p 0] H (fun v h2 => v = .tuple [] ∧ Ev (cfgR ro) 37 [.ptr n 0] h2 Q) := by
  have f1 := Fit.node (fit_node2 hfit)
  have f2 := Fit.node hfit
  refine renew37 h1 a1 a2 d1 d2 f1.1 f1.2 (fun h3 b1 b2 b3 => ⟨rfl, ?_⟩)
  have c0 : At TS h3 (.ptr n 0) (.node p pht px A B) := at_node.2 ⟨b1, At.congr (fun o ho => b2 o (fun e => d1 (by rw [← e]; exact ho))) a1, At.congr (fun o ho => b2 o (fun e => d2 (by rw [← e]; exact ho))) a2⟩
  have c1 : At TS h3 (.ptr n 0) C := At.congr (fun o ho => b2 o (fun e => d3 (by rw [← e]; exact ho))) a3
  have np : n ∉ (Rt.node p pht px A B).ids := by rw [ids_node]; simp [d4, d5, d6]
  have h2' : h3.get n = some (nrow up C.ptr (Rt.node p pht px A B).ptr ht nsz x nall) := by rw [b2 n d4, h2]; rfl
  refine renew37 h2' c1 c0 d7 np f2.1 f2.2 (fun h4 e1 e2 e3 => ?_)
  refine hq h4 (at_node.2 ⟨e1, At.congr (fun o ho => e2 o (fun e => d7 (by rw [← e]; exact ho))) c1, At.congr (fun o ho => e2 o (fun e => np (by rw [← e]; exact ho))) c0⟩) (fun o g1 g2 => by rw [e2 o g2, b2 o g1]) (by rw [e3, b3])
theorem two37l {H : AHeap} {up : AVal} {p n pht ht psz nsz : Nat} {px x pall nall : Str} {A B C : Rt Str}
    (h1 : H.get p = some (nrow (.ptr n 0) A.ptr B.ptr pht psz px pall)) (h2 : H.get n = some (nrow up (.ptr p 0) C.ptr ht nsz x nall))
    (a1 : At TS H (.ptr p 0) A) (a2 : At TS H (.ptr p 0) B) (a3 : At TS H (.ptr n 0) C) (d1 : p ∉ A.ids) (d2 : p ∉ B.ids) (d3 : p ∉ C.ids) (d4 : n ≠ p) (d5 : n ∉ A.ids) (d6 : n ∉ B.ids) (d7 : n ∉ C.ids)
    (hfit : Fit (.node n ht x (.node p pht px A B) C)) {Q : AVal → AHeap → Prop}
    (hq : ∀ h', At TS h' up (.node n ht x (.node p pht px A B) C) → (∀ o, o ≠ p → o ≠ n → h'.get o = H.get o) → h'.next = H.next → Q (.tuple []) h') :
    Ev (cfgR ro) 37 [.ptr p 0] H (fun v h2 => v = .tuple [] ∧ Ev (cfgR ro) 37 [.ptr n 0] h2 Q) := by
  have f1 := Fit.node (fit_node1 hfit)
  have f2 := Fit.node hfit
  refine renew37 h1 a1 a2 d1 d2 f1.1 f1.2 (fun h3 b1 b2 b3 => ⟨rfl, ?_⟩)
  have c0 : At TS h3 (.ptr n 0) (.node p pht px A B) := at_node.2 ⟨b1, At.congr (fun o ho => b2 o (fun e => d1 (by rw [← e]; exact ho))) a1, At.congr (fun o ho => b2 o (fun e => d2 (by rw [← e]; exact ho))) a2⟩
  have c1 : At TS h3 (.ptr n 0) C := At.congr (fun o ho => b2 o (fun e => d3 (by rw [← e]; exact ho))) a3
  have np : n ∉ (Rt.node p pht px A B).ids := by rw [ids_node]; simp [d4, d5, d6]
  have h2' : h3.get n = some (nrow up (Rt.node p pht px A B).ptr C.ptr ht nsz x nall) := by rw [b2 n d4, h2]; rfl
  refine renew37 h2' c0 c1 np d7 f2.1 f2.2 (fun h4 e1 e2 e3 => ?_)
  refine hq h4 (at_node.2 ⟨e1, At.congr (fun o ho => e2 o (fun e => np (by rw [← e]; exact ho))) c0, At.congr (fun o ho => e2 o (fun e => d7 (by rw [← e]; exact ho))) c1⟩) (fun o g1 g2 => by rw [e2 o g2, b2 o g1]) (by rw [e3, b3])
end
end Go.Proofs.Ytbnlhhfobgjeaaa
set_option linter.all false
set_option maxRecDepth 100000
set_option maxHeartbeats 4000000
namespace Go.Proofs.Ytbnlhhfobgjeaaa
open Go Go.RowKit Go.Proofs
section
variable {ro : Nat → Option (List AVal)}
theorem turned_join {h : AHeap} {c : List (Frm Str)} {f : Frm Str} {n ht : Nat} {x : Str} {l r : Rt Str} (h1 : At TS h (upOf c) (turned f n ht x l r)) (h2 : CX h c (itf f (Rt.node n ht x l r).items) (.ptr n 0)) : At TS h .nilp (plug c (turned f n ht x l r)) ∧ (plug c (turned f n ht x l r)).ptr = rootOf c (.ptr n 0) := by
  have e : (turned f n ht x l r).ptr = .ptr n 0 := by unfold turned; cases f.left <;> rfl
  refine ⟨CX.join h1 ?_, by rw [plug_ptr, e]⟩
  rw [turned_items, ← itf_items, e]
  exact h2
theorem turned_fit {c : List (Frm Str)} {f : Frm Str} {n ht : Nat} {x : Str} {l r : Rt Str} (h : Fit (plug (f :: c) (.node n ht x l r))) : Fit (turned f n ht x l r) := by
  have h1 : Fit (plug1 f (.node n ht x l r)) := Fit.sub (c := c) h
  unfold Fit Rt.tx at *
  rw [turned_items]
  exact h1
theorem rise25 {h : AHeap} {c : List (Frm Str)} {f : Frm Str} {rr n ht : Nat} {s : Int} {x : Str} {l r : Rt Str}
    (hat : At TS h .nilp (plug (f :: c) (.node n ht x l r))) (hroot : h.get rr = some (rrow (plug (f :: c) (.node n ht x l r)).ptr s)) (F : RiseF c f rr n ht x l r)
    (hfit : Fit (plug (f :: c) (.node n ht x l r))) {Q : AVal → AHeap → Prop}
    (hq : ∀ h', At TS h' .nilp (plug c (turned f n ht x l r)) → h'.get rr = some (rrow (plug c (turned f n ht x l r)).ptr s) → (∀ o, o ≠ rr → o ∉ (plug (f :: c) (.node n ht x l r)).ids → h'.get o = h.get o) → h'.next = h.next → Q (.tuple []) h') :
    Ev (cfgR ro) 25 [.ptr rr 0, .ptr n 0] h Q := by
  refine Ev.wp rfl rfl Try.func25 rfl ?_
  obtain ⟨hn, hc⟩ := CX.split hat
  obtain ⟨n1, n2, n3⟩ := at_node.1 hn
  obtain ⟨p1, p2, p3⟩ := hc
  obtain ⟨J, hJ⟩ : ∃ J, J = itf f (Rt.node n ht x l r).items := ⟨_, rfl⟩
  obtain ⟨psz, hsz⟩ : ∃ sz, sz = J.length := ⟨_, rfl⟩
  obtain ⟨pall, hall⟩ : ∃ all, all = (J.map (·.2)).flatten := ⟨_, rfl⟩
  obtain ⟨nsz, hnsz⟩ : ∃ sz, sz = l.items.length + 1 + r.items.length := ⟨_, rfl⟩
  obtain ⟨nall, hnall⟩ : ∃ all, all = l.tx ++ x ++ r.tx := ⟨_, rfl⟩
  rw [← hJ, ← hsz, ← hall] at p1
  rw [← hJ] at p3
  rw [← hnsz, ← hnall] at n1
  rw [plug_ptr, rootOf] at hroot
  simp [Try.f25, n1, nrow, upOf]
  refine hang38 (n := n) (old := f.o) hroot p1 n1 p3 F.dnp F.dpc F.dnc F.rc F.rn F.rp F.ndc (fun h1 g1 g2 g3 g4 g5 => ?_)
  have q1 : h1.get f.o = some (nrow (upOf c) (lptr f (.ptr n 0)) (rptr' f (.ptr n 0)) f.ht psz f.x pall) := by rw [g4 _ (Ne.symm F.dnp) (Ne.symm F.rp) F.dpc]; exact p1
  have kl : At TS h1 (.ptr n 0) l := At.congr (fun o ho => g4 o (F.subl o ho).1 (F.subl o ho).2.2.2.2 (F.subl o ho).2.2.2.1) n2
  have kr : At TS h1 (.ptr n 0) r := At.congr (fun o ho => g4 o (F.subr o ho).1 (F.subr o ho).2.2.2 (F.subr o ho).2.2.1) n3
  have ks : At TS h1 (.ptr f.o 0) f.sib := At.congr (fun o ho => g4 o (F.sib o ho).1 (F.sib o ho).2.2.2.2.2 (F.sib o ho).2.2.2.2.1) p2
  have np := F.dnp
  have memp : ∀ o, o ∉ (plug (f :: c) (.node n ht x l r)).ids → o ≠ f.o ∧ o ≠ n ∧ o ∉ l.ids ∧ o ∉ r.ids ∧ o ∉ cids c := by
    intro o ho
    rw [plug_mem, ids_node, cids_cons] at ho
    simp at ho
    refine ⟨ho.2.1, ho.1.2.1, ho.1.1, ho.1.2.2, ho.2.2.2⟩
  have tf := turned_fit hfit
  have hsibp : f.o ∉ f.sib.ids := fun hm => (F.sib _ hm).2.2.2.1 rfl
  have hlp : f.o ∉ l.ids := fun hm => (F.subl _ hm).2.2.1 rfl
  have hrp : f.o ∉ r.ids := fun hm => (F.subr _ hm).2.1 rfl
  have hsn : n ∉ f.sib.ids := fun hm => (F.sib _ hm).1 rfl
  have fin : ∀ H h' : AHeap, (∀ o, o ≠ f.o → o ≠ n → o ∉ l.ids → o ∉ r.ids → H.get o = h1.get o) → H.next = h1.next → At TS h' (upOf c) (turned f n ht x l r) → (∀ o, o ≠ f.o → o ≠ n → h'.get o = H.get o) → h'.next = H.next → Q (.tuple []) h' := by
    intro H h' k1 k2 k3 k4 k5
    have g3' : CX h' c J (.ptr n 0) := CX.congr (fun o ho => by rw [k4 o (fun e => F.dpc (by rw [← e]; exact ho)) (fun e => F.dnc (by rw [← e]; exact ho)), k1 o (fun e => F.dpc (by rw [← e]; exact ho)) (fun e => F.dnc (by rw [← e]; exact ho)) (fun hm => (F.subl o hm).2.2.2.1 ho) (fun hm => (F.subr o hm).2.2.1 ho)]) g3
    obtain ⟨j1, j2⟩ := turned_join k3 (hJ ▸ g3')
    refine hq h' j1 ?_ (fun o a1 a2 => ?_) (by rw [k5, k2, g5])
    · rw [j2, k4 rr F.rp F.rn, k1 rr F.rp F.rn (fun hm => (F.subl _ hm).2.2.2.2 rfl) (fun hm => (F.subr _ hm).2.2.2 rfl), g2]
    · obtain ⟨b1, b2, b3, b4, b5⟩ := memp o a2
      rw [k4 o b1 b2, k1 o b1 b2 b3 b4, g4 o b2 a1 b5]
  cases hl : f.left with
  | true =>
    have e1 : lptr f (.ptr n 0) = .ptr n 0 := by simp only [lptr, hl]
    have e2 : rptr' f (.ptr n 0) = f.sib.ptr := by simp only [rptr', hl]
    have et : turned f n ht x l r = .node n ht x l (.node f.o f.ht f.x r f.sib) := by unfold turned; rw [hl]
    rw [et] at fin tf
    have go : ∀ H : AHeap, H.get f.o = some (nrow (.ptr n 0) r.ptr f.sib.ptr f.ht psz f.x pall) → H.get n = some (nrow (upOf c) l.ptr (.ptr f.o 0) ht nsz x nall) → At TS H (.ptr f.o 0) r → (∀ o, o ≠ f.o → o ≠ n → o ∉ r.ids → H.get o = h1.get o) → H.next = h1.next →
        Ev (cfgR ro) 37 [.ptr f.o 0] H (fun v h2 => v = .tuple [] ∧ Ev (cfgR ro) 37 [.ptr n 0] h2 (fun v h3 => v = .tuple [] ∧ Q (.tuple []) h3)) := by
      intro H b1 b2 b3 b4 b5
      refine two37r b1 b2 b3 (At.congr (fun o ho => b4 o (fun e => hsibp (by rw [← e]; exact ho)) (fun e => hsn (by rw [← e]; exact ho)) (F.sib o ho).2.2.1) ks) (At.congr (fun o ho => b4 o (fun e => hlp (by rw [← e]; exact ho)) (fun e => F.dl (by rw [← e]; exact ho)) (F.subl o ho).2.1) kl) hrp hsibp hlp np F.dr hsn F.dl tf (fun h' c1 c2 c3 => ⟨rfl, ?_⟩)
      exact fin H h' (fun o t1 t2 t3 t4 => b4 o t1 t2 t4) b5 c1 c2 c3
    rw [e1, e2, nrow] at q1
    rw [nrow] at g1
    cases r with
    | nil =>
      rw [ptr_nil] at g1
      simp -implicitDefEqProofs [q1, ptrEq_self, g1, get_set_ne (Ne.symm np), get_set_ne np]
      refine Ev.mono (go _ ?_ ?_ ?_ ?_ ?_) ?_
      · rw [get_set_self]; rfl
      · rw [get_set_ne (Ne.symm np), get_set_self, nrow]
      · trivial
      · intro o o1 o2 _
        rw [get_set_ne (Ne.symm o1), get_set_ne (Ne.symm o2), get_set_ne (Ne.symm o1)]
      · rfl
      · rintro v h2 ⟨rfl, q⟩
        simp -implicitDefEqProofs
        refine Ev.mono q ?_
        rintro v h3 ⟨rfl, q3⟩
        simp -implicitDefEqProofs
        exact q3
    | node m mt mx ml mr =>
      have km : m ∈ (Rt.node m mt mx ml mr).ids := by rw [ids_node]; simp
      obtain ⟨mn, mp, mc, mr'⟩ := F.subr m km
      obtain ⟨kr1, kr2, kr3⟩ := at_node.1 kr
      rw [nrow] at kr1
      rw [ptr_node] at g1
      simp -implicitDefEqProofs [q1, ptrEq_self, g1, kr1, get_set_ne (Ne.symm np), get_set_ne np, get_set_ne (Ne.symm mn), get_set_ne mn, get_set_ne (Ne.symm mp), get_set_ne mp]
      refine Ev.mono (go _ ?_ ?_ ?_ ?_ ?_) ?_
      · rw [get_set_self]; rfl
      · rw [get_set_ne (Ne.symm np), get_set_self, nrow]
      · refine At.reup kr F.ndr ?_ ?_
        · rw [get_set_ne (Ne.symm mp), get_set_ne (Ne.symm mn), get_set_self]; simp [nrow]
        · intro o ho om
          obtain ⟨on, op⟩ : o ≠ n ∧ o ≠ f.o := ⟨(F.subr o ho).1, (F.subr o ho).2.1⟩
          rw [get_set_ne (Ne.symm op), get_set_ne (Ne.symm on), get_set_ne (Ne.symm om), get_set_ne (Ne.symm op)]
      · intro o o1 o2 o3
        have om : o ≠ m := fun e => o3 (by rw [e]; exact km)
        rw [get_set_ne (Ne.symm o1), get_set_ne (Ne.symm o2), get_set_ne (Ne.symm om), get_set_ne (Ne.symm o1)]
      · rfl
      · rintro v h2 ⟨rfl, q⟩
        simp -implicitDefEqProofs
        refine Ev.mono q ?_
        rintro v h3 ⟨rfl, q3⟩
        simp -implicitDefEqProofs
        exact q3
  | false =>
    have e1 : lptr f (.ptr n 0) = f.sib.ptr := by simp only [lptr, hl]
    have e2 : rptr' f (.ptr n 0) = .ptr n 0 := by simp only [rptr', hl]
    have et : turned f n ht x l r = .node n ht x (.node f.o f.ht f.x f.sib l) r := by unfold turned; rw [hl]
    rw [et] at fin tf
    have go : ∀ H : AHeap, H.get f.o = some (nrow (.ptr n 0) f.sib.ptr l.ptr f.ht psz f.x pall) → H.get n = some (nrow (upOf c) (.ptr f.o 0) r.ptr ht nsz x nall) → At TS H (.ptr f.o 0) l → (∀ o, o ≠ f.o → o ≠ n → o ∉ l.ids → H.get o = h1.get o) → H.next = h1.next →
        Ev (cfgR ro) 37 [.ptr f.o 0] H (fun v h2 => v = .tuple [] ∧ Ev (cfgR ro) 37 [.ptr n 0] h2 (fun v h3 => v = .tuple [] ∧ Q (.tuple []) h3)) := by
      intro H b1 b2 b3 b4 b5
      refine two37l b1 b2 (At.congr (fun o ho => b4 o (fun e => hsibp (by rw [← e]; exact ho)) (fun e => hsn (by rw [← e]; exact ho)) (F.sib o ho).2.1) ks) b3 (At.congr (fun o ho => b4 o (fun e => hrp (by rw [← e]; exact ho)) (fun e => F.dr (by rw [← e]; exact ho)) (fun hm => (F.subl o hm).2.1 ho)) kr) hsibp hlp hrp np hsn F.dl F.dr tf (fun h' c1 c2 c3 => ⟨rfl, ?_⟩)
      exact fin H h' (fun o t1 t2 t3 t4 => b4 o t1 t2 t3) b5 c1 c2 c3
    rw [e1, e2, nrow] at q1
    rw [nrow] at g1
    have heq := eq_place (ro := ro) ks (fun hm => (F.sib n hm).1 rfl) g1
    cases l with
    | nil =>
      rw [ptr_nil] at g1
      simp -implicitDefEqProofs [q1, heq, guard_ptr, cells_ptr, ptrEq_self, g1, get_set_ne (Ne.symm np), get_set_ne np]
      refine ⟨by cases f.sib <;> simp [Rt.ptr], ?_⟩
      refine Ev.mono (go _ ?_ ?_ ?_ ?_ ?_) ?_
      · rw [get_set_self]; rfl
      · rw [get_set_ne (Ne.symm np), get_set_self, nrow]
      · trivial
      · intro o o1 o2 _
        rw [get_set_ne (Ne.symm o1), get_set_ne (Ne.symm o2), get_set_ne (Ne.symm o1)]
      · rfl
      · rintro v h2 ⟨rfl, q⟩
        simp -implicitDefEqProofs
        refine Ev.mono q ?_
        rintro v h3 ⟨rfl, q3⟩
        simp -implicitDefEqProofs
        exact q3
    | node m mt mx ml mr =>
      have km : m ∈ (Rt.node m mt mx ml mr).ids := by rw [ids_node]; simp
      obtain ⟨mn, _, mp, mc, mr'⟩ := F.subl m km
      obtain ⟨kr1, kr2, kr3⟩ := at_node.1 kl
      rw [nrow] at kr1
      rw [ptr_node] at g1
      simp -implicitDefEqProofs [q1, heq, guard_ptr, cells_ptr, ptrEq_self, g1, kr1, get_set_ne (Ne.symm np), get_set_ne np, get_set_ne (Ne.symm mn), get_set_ne mn, get_set_ne (Ne.symm mp), get_set_ne mp]
      refine ⟨by cases f.sib <;> simp [Rt.ptr], ?_⟩
      refine Ev.mono (go _ ?_ ?_ ?_ ?_ ?_) ?_
      · rw [get_set_self]; rfl
      · rw [get_set_ne (Ne.symm np), get_set_self, nrow]
      · refine At.reup kl F.ndl ?_ ?_
        · rw [get_set_ne (Ne.symm mp), get_set_ne (Ne.symm mn), get_set_self]; simp [nrow]
        · intro o ho om
          obtain ⟨on, op⟩ : o ≠ n ∧ o ≠ f.o := ⟨(F.subl o ho).1, (F.subl o ho).2.2.1⟩
          rw [get_set_ne (Ne.symm op), get_set_ne (Ne.symm on), get_set_ne (Ne.symm om), get_set_ne (Ne.symm op)]
      · intro o o1 o2 o3
        have om : o ≠ m := fun e => o3 (by rw [e]; exact km)
        rw [get_set_ne (Ne.symm o1), get_set_ne (Ne.symm o2), get_set_ne (Ne.symm om), get_set_ne (Ne.symm o1)]
      · rfl
      · rintro v h2 ⟨rfl, q⟩
        simp -implicitDefEqProofs
        refine Ev.mono q ?_
        rintro v h3 ⟨rfl, q3⟩
        simp -implicitDefEqProofs
        exact q3
end
end Go.Proofs.Ytbnlhhfobgjeaaa
set_option linter.all false
set_option maxRecDepth 100000
set_option maxHeartbeats 4000000
namespace Go.Proofs.Ytbnlhhfobgjeaaa
open Go Go.RowKit Go.Proofs
section
variable {c : Cfg} {f : Nat} {K : List AVal → AHeap → Prop} {E : Nat → List AVal → AHeap → Prop} {R : List AVal → AHeap → Prop} {G : Nat → List AVal → AHeap → Prop}
theorem scope_loop {l : Nat} {rest : Code} (I : Nat → List AVal → AHeap → Prop)
    (hI : ∀ n env h, (∀ m, m < n → ∀ env h, I m env h → scpG c f K E R G ((Code.label l).seq rest) l env h) → I n env h → wp c f rest K E R (scpG c f K E R G ((Code.label l).seq rest)) env h) (n : Nat) {env : List AVal} {h : AHeap} (h0 : I n env h) :
    wp c f (.label l) (seqK c f K E R (scpG c f K E R G ((Code.label l).seq rest)) rest) E R (scpG c f K E R G ((Code.label l).seq rest)) env h := by
  have hl : findLabel ((Code.label l).seq rest) l = some (Code.skip.seq rest) := by simp [findLabel]
  have key : ∀ n {env : List AVal} {h : AHeap}, I n env h → scpG c f K E R G ((Code.label l).seq rest) l env h := by
    intro n
    induction n using Nat.strongRecOn with
    | _ n ih =>
      intro env h h0
      unfold scpG
      rw [hl]
      exact label_of (rest := Code.skip.seq rest) (hI n env h (fun m hm env h q => ih m hm q) h0)
  exact hI n env h (fun m _ env h q => key m q) h0
end
theorem xor_nat (a b : Int) : ∃ v : Nat, ixor .u64 a b = v := by
  unfold ixor
  rw [wrap64]
  exact ⟨Int.toNat _, (Int.toNat_of_nonneg (Int.emod_nonneg _ (by decide))).symm⟩
section
variable {ro : Nat → Option (List AVal)}
theorem below22 {h : AHeap} {n m ht sz mt ms : Nat} {u l r mu ml mr : AVal} {x all mx mall : Str} (b : Bool) (hn : h.get n = some (nrow u l r ht sz x all)) (hm : h.get m = some (nrow mu ml mr mt ms mx mall)) (d : n ≠ m) {Q : AVal → AHeap → Prop}
    (hq : ∀ h', h'.get n = some (nrow (.ptr m 0) l r ht sz x all) → h'.get m = some (nrow mu (if b then .ptr n 0 else ml) (if b then mr else .ptr n 0) mt ms mx mall) → (∀ o, o ≠ n → o ≠ m → h'.get o = h.get o) → h'.next = h.next → Q (.tuple []) h') : Ev (cfgR ro) 22 [.ptr n 0, .ptr m 0, .bool b] h Q := by
  refine Ev.wp rfl rfl Try.func22 rfl ?_
  rw [nrow] at hn hm
  cases b with
  | true =>
    simp -implicitDefEqProofs [Try.f22, hn, hm, get_set_ne d, get_set_ne (Ne.symm d)]
    refine hq _ ?_ ?_ (fun o a b => ?_) rfl
    · rw [get_set_ne (Ne.symm d), get_set_self]; rfl
    · rw [get_set_self]; rfl
    · rw [get_set_ne (Ne.symm b), get_set_ne (Ne.symm a)]
  | false =>
    simp -implicitDefEqProofs [Try.f22, hn, hm, get_set_ne d, get_set_ne (Ne.symm d)]
    refine hq _ ?_ ?_ (fun o a b => ?_) rfl
    · rw [get_set_ne (Ne.symm d), get_set_self]; rfl
    · rw [get_set_self]; rfl
    · rw [get_set_ne (Ne.symm b), get_set_ne (Ne.symm a)]
theorem draw21 {h : AHeap} {rr : Nat} {p : AVal} {s : Int} (hr : h.get rr = some (rrow p s)) {Q : AVal → AHeap → Prop}
    (hq : ∀ (v : Nat) (s' : Int), Q (.int .u64 v) (h.set rr (rrow p s'))) : Ev (cfgR ro) 21 [.ptr rr 0] h Q := by
  refine Ev.wp rfl rfl Try.func21 rfl ?_
  rw [rrow] at hr
  simp -implicitDefEqProofs [Try.f21, hr]
  obtain ⟨v, hv⟩ := xor_nat (IntKind.u64.wrap (ixor .u64 (IntKind.u64.wrap (s + 11400714819323198485)) (ishr .u64 (IntKind.u64.wrap (s + 11400714819323198485)) 30) * 13787848793156543929)) (ishr .u64 (IntKind.u64.wrap (ixor .u64 (IntKind.u64.wrap (s + 11400714819323198485)) (ishr .u64 (IntKind.u64.wrap (s + 11400714819323198485)) 30) * 13787848793156543929)) 27)
  rw [hv]
  exact hq v _
/-- the leftmost place -/
def Rt.lm : Rt Str → AVal
  | .nil => .nilp
  | .node o _ _ .nil _ => .ptr o 0
  | .node _ _ _ (.node o2 h2 x2 l2 r2) _ => Rt.lm (.node o2 h2 x2 l2 r2)
theorem leftmost23 {h : AHeap} {up : AVal} {t : Rt Str} (ha : At TS h up t) {Q : AVal → AHeap → Prop} (hq : Q t.lm h) : Ev (cfgR ro) 23 [t.ptr] h Q := by
  refine Ev.wp rfl rfl Try.func23 rfl ?_
  simp -implicitDefEqProofs [Try.f23]
  refine scope_loop (fun m env h' => h' = h ∧ ∃ t' up, At TS h up t' ∧ t'.lm = t.lm ∧ m = t'.items.length ∧ env = (t'.ptr :: .dead :: .dead :: .dead :: .dead :: .dead :: .dead :: .dead :: .dead :: .dead :: .dead :: .dead :: .dead :: .dead :: .dead :: .dead :: .dead :: [])) ?_ _ ⟨rfl, t, up, ha, rfl, rfl, rfl⟩
  rintro m env h' ih ⟨rfl, t', up', ha', hlm, rfl, rfl⟩
  cases t' with
  | nil =>
    simp -implicitDefEqProofs [Rt.ptr]
    rw [← hlm] at hq
    exact hq
  | node o ht x l r =>
    obtain ⟨a1, a2, a3⟩ := at_node.1 ha'
    rw [nrow] at a1
    cases l with
    | nil =>
      rw [ptr_nil] at a1
      simp -implicitDefEqProofs [ptr_node, a1]
      rw [← hlm] at hq
      exact hq
    | node o2 h2 x2 l2 r2 =>
      rw [ptr_node] at a1
      simp -implicitDefEqProofs [ptr_node, a1]
      refine ih _ ?_ _ _ ⟨rfl, _, _, a2, by rw [← hlm]; rfl, rfl, rfl⟩
      simp [Rt.items]
end
end Go.Proofs.Ytbnlhhfobgjeaaa
set_option linter.all false
set_option maxRecDepth 100000
set_option maxHeartbeats 4000000
namespace Go.Proofs.Ytbnlhhfobgjeaaa
open Go Go.RowKit Go.Proofs
/-- a rope, in memory -/
structure Rp (h : AHeap) (rr : Nat) (t : Rt Str) : Prop where
  root : ∃ s, h.get rr = some (rrow t.ptr s)
  tree : At TS h .nilp t
  nd : t.ids.Nodup
  rt : rr ∉ t.ids
  lr : rr < h.next
  lt : ∀ o ∈ t.ids, o < h.next
theorem plug_append : ∀ (c1 c2 : List (Frm Str)) (t : Rt Str), plug (c1 ++ c2) t = plug c2 (plug c1 t)
  | [], _, _ => rfl
  | f :: c1, c2, t => plug_append c1 c2 (plug1 f t)
theorem bef_append : ∀ (c1 c2 : List (Frm Str)), bef (c1 ++ c2) = bef c2 ++ bef c1
  | [], c2 => by simp [bef]
  | f :: c1, c2 => by
    show bef (c1 ++ c2) ++ _ = bef c2 ++ (bef c1 ++ _)
    rw [bef_append c1 c2, List.append_assoc]
/-- the hole at the far left -/
theorem hole_left : ∀ (t : Rt Str), t ≠ .nil → ∃ f c, plug (f :: c) Rt.nil = t ∧ bef (f :: c) = [] ∧ f.left = true ∧ t.lm = .ptr f.o 0
  | .nil, h => (h rfl).elim
  | .node o ht x .nil r, _ => ⟨⟨o, ht, x, true, r⟩, [], rfl, rfl, rfl, rfl⟩
  | .node o ht x (.node o2 h2 x2 l2 r2) r, _ => by
    obtain ⟨f, c, h1, h2', h3, h4⟩ := hole_left (.node o2 h2 x2 l2 r2) (by simp)
    refine ⟨f, c ++ [⟨o, ht, x, true, r⟩], ?_, ?_, h3, h4⟩
    · rw [← List.cons_append, plug_append, h1]; rfl
    · rw [← List.cons_append, bef_append, h2']; rfl
/-- a place in a tree -/
theorem place : ∀ {t : Rt Str} {o : Nat} {x : Str} {L1 L2 : List (Nat × Str)}, t.items = L1 ++ (o, x) :: L2 → t.ids.Nodup → ∃ c ht l r, t = plug c (.node o ht x l r) ∧ bef c ++ l.items = L1 := by
  intro t
  induction t with
  | nil => intro o x L1 L2 h _; cases L1 <;> cases h
  | node q ht y l r ihl ihr =>
    intro o x L1 L2 h hnd
    rw [items_node] at h
    rw [List.append_eq_append_iff] at h
    obtain ⟨ndl, ndr, _, _, _⟩ := apart_node hnd
    rcases h with ⟨us, h1, h2⟩ | ⟨bs, h1, h2⟩
    · cases us with
      | nil =>
        cases h2
        exact ⟨[], ht, l, r, rfl, by simpa [bef] using h1.symm⟩
      | cons a us =>
        simp only [List.cons_append, List.cons.injEq] at h2
        obtain ⟨rfl, h2⟩ := h2
        obtain ⟨c, ht', l', r', e1, e2⟩ := ihr h2 ndr
        refine ⟨c ++ [⟨q, ht, y, false, l⟩], ht', l', r', ?_, ?_⟩
        · rw [plug_append, ← e1]; rfl
        · rw [bef_append, List.append_assoc, e2, h1]
          show ([] ++ (l.items ++ [(q, y)])) ++ us = _
          simp
    · cases bs with
      | nil =>
        cases h2
        exact ⟨[], ht, l, r, rfl, by simpa [bef] using h1⟩
      | cons b bs =>
        simp only [List.cons_append, List.cons.injEq] at h2
        obtain ⟨rfl, h2⟩ := h2
        obtain ⟨c, ht', l', r', e1, e2⟩ := ihl h1 ndl
        refine ⟨c ++ [⟨q, ht, y, true, r⟩], ht', l', r', ?_, ?_⟩
        · rw [plug_append, ← e1]; rfl
        · rw [bef_append, List.append_assoc, e2]; rfl
section
variable {ro : Nat → Option (List AVal)}
theorem first8 {h : AHeap} {rr : Nat} {s : Int} {t : Rt Str} (hr : h.get rr = some (rrow t.ptr s)) (ha : At TS h .nilp t) {Q : AVal → AHeap → Prop} (hq : Q t.lm h) : Ev (cfgR ro) 8 [.ptr rr 0] h Q := by
  refine Ev.wp rfl rfl Try.func8 rfl ?_
  rw [rrow] at hr
  simp -implicitDefEqProofs [Try.f8, hr]
  refine leftmost23 ha ?_
  simp -implicitDefEqProofs
  exact hq
/-- a new place hung into a hole -/
theorem hung {h h' : AHeap} {f : Frm Str} {c : List (Frm Str)} {n v : Nat} {x : Str} {u l r : AVal} {ht sz : Nat} {mx mall : Str}
    (ha : At TS h .nilp (plug (f :: c) Rt.nil)) (hnd : (plug (f :: c) (Rt.nil : Rt Str)).ids.Nodup) (hn : n ∉ (plug (f :: c) (Rt.nil : Rt Str)).ids) (hm : h.get f.o = some (nrow u l r ht sz mx mall))
    (g1 : h'.get n = some (nrow (.ptr f.o 0) .nilp .nilp v 0 x [])) (g2 : h'.get f.o = some (nrow u (if f.left then .ptr n 0 else l) (if f.left then r else .ptr n 0) ht sz mx mall)) (g3 : ∀ o, o ≠ n → o ≠ f.o → h'.get o = h.get o) : Stl h' (f :: c) n v x .nil .nil := by
  obtain ⟨_, ⟨sz', all, ⟨q, hq0⟩, p1⟩, p2, p3⟩ := At.split (t := Rt.nil) ha
  have hall : all = [.str q.flatten] := hq0
  rw [hall, nobj_row, hm] at p1
  have hnd' : (plug c (plug1 f (Rt.nil : Rt Str))).ids.Nodup := hnd
  obtain ⟨nd1, nd2⟩ := apart_tree hnd'
  have hfs : f.o ∉ f.sib.ids := by
    intro hm
    unfold plug1 at nd1
    cases hl : f.left with
    | true => rw [hl] at nd1; exact (apart_node nd1).2.2.2.1 hm
    | false => rw [hl] at nd1; exact (apart_node nd1).2.2.1 hm
  have hfc : f.o ∉ cids c := nd2 _ (plug1_mem.2 (.inl rfl))
  have hn' : n ∉ cids (f :: c) := fun hm => hn (plug_mem.2 (.inr hm))
  refine ⟨⟨0, [], g1⟩, trivial, trivial, ⟨sz', all, ⟨q, hq0⟩, ?_⟩, ?_, ?_⟩
  · rw [hall, nobj_row, g2]
    simp only [nrow, Option.some.injEq, AObj.row.injEq, List.cons.injEq, true_and, and_true] at p1 ⊢
    obtain ⟨q1, q2, q3, q4, q5, q6, q7⟩ := p1
    refine ⟨q1, ?_, ?_, q4, q5, q6, q7⟩
    · unfold lptr at q2 ⊢; cases hl : f.left <;> simp [hl] at q2 ⊢; exact q2
    · unfold rptr' at q3 ⊢; cases hl : f.left <;> simp [hl] at q3 ⊢; exact q3
  · exact At.congr (fun o ho => g3 o (fun e => hn' (cids_cons.2 (.inr (.inl (by rw [← e]; exact ho))))) (fun e => hfs (by rw [← e]; exact ho))) p2
  · exact CA.congr (fun o ho => g3 o (fun e => hn' (cids_cons.2 (.inr (.inr (by rw [← e]; exact ho))))) (fun e => hfc (by rw [← e]; exact ho))) p3
end
end Go.Proofs.Ytbnlhhfobgjeaaa
