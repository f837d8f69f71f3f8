/-
  A part of the proof of RopeRows, over the seat Ytbnlhhfobgjeaaa: for every input the law returns true, and the input reads as it did.
-/
import Derived.Test.YtbnlhhfobgjeaaaR2Base
set_option linter.all false
set_option maxRecDepth 100000
set_option maxHeartbeats 4000000
namespace Go.Proofs.Ytbnlhhfobgjeaaa
open Go Go.RowKit Go.Proofs

abbrev Str := List UInt8
def TS : Sig Str := ⟨fun s => [.str s], fun l => [.str l.flatten]⟩
/-- all texts of a tree, one behind the other -/
def Rt.tx (t : Rt Str) : Str := (t.items.map (·.2)).flatten
theorem tx_node (o ht : Nat) (x : Str) (l r : Rt Str) : (Rt.node o ht x l r).tx = l.tx ++ x ++ r.tx := by simp [Rt.tx, Rt.items]
/-- a place, as it stands -/
def nrow (up l r : AVal) (ht sz : Nat) (x all : Str) : AObj := .row 0 false [up, l, r, .int .u64 ht, .int .i64 sz, .str x, .str all]
theorem nobj_row (up l r : AVal) (ht sz : Nat) (x all : Str) : nobj TS up l r ht sz x [.str all] = nrow up l r ht sz x all := rfl
theorem at_node {h : AHeap} {up : AVal} {o ht : Nat} {x : Str} {l r : Rt Str} : At TS h up (.node o ht x l r) ↔ h.get o = some (nrow up l.ptr r.ptr ht (l.items.length + 1 + r.items.length) x (l.tx ++ x ++ r.tx)) ∧ At TS h (.ptr o 0) l ∧ At TS h (.ptr o 0) r := by
  have : (Rt.node o ht x l r).sum TS = [.str (l.tx ++ x ++ r.tx)] := by simp [Rt.sum, TS, Rt.tx, Rt.items]
  show (h.get o = some (nobj TS up l.ptr r.ptr ht (l.items.length + 1 + r.items.length) x ((Rt.node o ht x l r).sum TS)) ∧ At TS h (.ptr o 0) l ∧ At TS h (.ptr o 0) r) ↔ _
  rw [this, nobj_row]

theorem meth31 : methodR Try.prog 31 "Measure" = .ok 57 := by kernel_rfl
theorem meth32 : methodR Try.prog 32 "Plus" = .ok 58 := by kernel_rfl
section
variable {ro : Nat → Option (List AVal)}

theorem len26 {h : AHeap} {up : AVal} {t : Rt Str} (ha : At TS h up t) {Q : AVal → AHeap → Prop} (hq : Q (.int .i64 t.items.length) h) : Ev (cfgR ro) 26 [t.ptr] h Q := by
  refine Ev.wp rfl rfl Try.func26 rfl ?_
  cases t with
  | nil => simp [Try.f26, Rt.ptr]; simpa [Rt.items] using hq
  | node o ht x l r =>
    rw [at_node] at ha
    have hl : (Rt.node o ht x l r).items.length = l.items.length + 1 + r.items.length := by simp [Rt.items]; omega
    rw [hl] at hq
    obtain ⟨n, hn⟩ : ∃ n, n = l.items.length + 1 + r.items.length := ⟨_, rfl⟩
    rw [← hn] at ha hq
    simp [Try.f26, Rt.ptr, ha.1, nrow]
    exact hq

theorem sum27 {h : AHeap} {up : AVal} {t : Rt Str} (ha : At TS h up t) {Q : AVal → AHeap → Prop} (hq : Q (.agg [.str t.tx]) h) : Ev (cfgR ro) 27 [t.ptr] h Q := by
  refine Ev.wp rfl rfl Try.func27 rfl ?_
  cases t with
  | nil => simp [Try.f27, Rt.ptr]; simpa [Rt.tx, Rt.items] using hq
  | node o ht x l r =>
    rw [at_node] at ha
    rw [tx_node] at hq
    obtain ⟨n, hn⟩ : ∃ n, n = l.tx ++ x ++ r.tx := ⟨_, rfl⟩
    rw [← hn] at ha hq
    simp [Try.f27, Rt.ptr, ha.1, nrow]
    exact hq

theorem meas57 {h : AHeap} {x : Str} {Q : AVal → AHeap → Prop} (hq : Q (.agg [.str x]) h) : Ev (cfgR ro) 57 [.agg [.str x]] h Q := by
  refine Ev.wp rfl rfl Try.func57 rfl ?_
  simp [Try.f57]
  exact hq
theorem plus58 {h : AHeap} {x y : Str} (hl : x.length + y.length < 2 ^ 62) {Q : AVal → AHeap → Prop} (hq : Q (.agg [.str (x ++ y)]) h) : Ev (cfgR ro) 58 [.agg [.str x], .agg [.str y]] h Q := by
  refine Ev.wp rfl rfl Try.func58 rfl ?_
  simp [Try.f58]
  exact ⟨by omega, hq⟩

theorem renew37 {h : AHeap} {up u1 u2 : AVal} {n ht sz : Nat} {x all : Str} {l r : Rt Str} (hn : h.get n = some (nrow up l.ptr r.ptr ht sz x all)) (hl : At TS h u1 l) (hr : At TS h u2 r)
    (hnl : n ∉ l.ids) (hnr : n ∉ r.ids) (hlen : l.items.length + r.items.length < 2 ^ 60) (htx : l.tx.length + x.length + r.tx.length < 2 ^ 60) {Q : AVal → AHeap → Prop}
    (hq : ∀ h', h'.get n = some (nrow up l.ptr r.ptr ht (l.items.length + 1 + r.items.length) x (l.tx ++ x ++ r.tx)) → (∀ o, o ≠ n → h'.get o = h.get o) → h'.next = h.next → Q (.tuple []) h') : Ev (cfgR ro) 37 [.ptr n 0] h Q := by
  refine Ev.wp rfl rfl Try.func37 rfl ?_
  simp [Try.f37, hn, nrow]
  refine len26 hl ?_
  simp [hn, nrow]
  refine len26 hr ?_
  have e1 : IntKind.i64.wrap ((l.items.length : Int) + 1) = (l.items.length : Int) + 1 := w64 (by omega) (by omega)
  have e2 : IntKind.i64.wrap ((l.items.length : Int) + 1 + r.items.length) = ((l.items.length + 1 + r.items.length : Nat) : Int) := by rw [w64 (by omega) (by omega)]; omega
  obtain ⟨m, hm⟩ : ∃ m, m = l.items.length + 1 + r.items.length := ⟨_, rfl⟩
  rw [← hm] at e2
  simp only [← hm] at hq
  simp [hn, nrow, e1, e2]
  have h1 : (h.set n (.row 0 false [up, l.ptr, r.ptr, .int .u64 ht, .int .i64 m, .str x, .str all])).get n = some (.row 0 false [up, l.ptr, r.ptr, .int .u64 ht, .int .i64 m, .str x, .str all]) := get_set_self _ _ _
  have hl1 : At TS (h.set n (.row 0 false [up, l.ptr, r.ptr, .int .u64 ht, .int .i64 m, .str x, .str all])) u1 l := At.congr (fun o ho => get_set_ne (fun e => hnl (by rw [e]; exact ho))) hl
  have hr1 : At TS (h.set n (.row 0 false [up, l.ptr, r.ptr, .int .u64 ht, .int .i64 m, .str x, .str all])) u2 r := At.congr (fun o ho => get_set_ne (fun e => hnr (by rw [e]; exact ho))) hr
  obtain ⟨h2, hh2⟩ : ∃ h2, h2 = h.set n (.row 0 false [up, l.ptr, r.ptr, .int .u64 ht, .int .i64 m, .str x, .str all]) := ⟨_, rfl⟩
  rw [← hh2] at h1 hl1 hr1 ⊢
  refine sum27 hl1 ?_
  simp [h1, undR, Try.underlying31, Try.underlying32, meth31, meth32]
  refine meas57 ?_
  simp [h1, meth32]
  refine plus58 (by omega) ?_
  simp [h1, undR, Try.underlying32, meth32]
  refine sum27 hr1 ?_
  simp [h1, undR, Try.underlying32, meth32]
  refine plus58 (by simp; omega) ?_
  obtain ⟨tx, htx'⟩ : ∃ tx, tx = l.tx ++ x ++ r.tx := ⟨_, rfl⟩
  simp only [← htx'] at hq ⊢
  simp [h1, undR, Try.underlying32, meth32]
  exact hq _ (get_set_self _ _ _) (fun o ho => by rw [get_set_ne (fun e => ho e.symm), hh2, get_set_ne (fun e => ho e.symm)]) (by rw [hh2]; rfl)

/-- a place whose own sums, and those above, may be stale -/
def Stl (h : AHeap) (c : List (Frm Str)) (n ht : Nat) (x : Str) (l r : Rt Str) : Prop :=
  (∃ sz all, h.get n = some (nrow (upOf c) l.ptr r.ptr ht sz x all)) ∧ At TS h (.ptr n 0) l ∧ At TS h (.ptr n 0) r ∧ CA TS h c (.ptr n 0)
theorem Stl.up {h : AHeap} {f : Frm Str} {c : List (Frm Str)} {t : Rt Str} (ha : At TS h (.ptr f.o 0) t) (hc : CA TS h (f :: c) t.ptr) : ∃ l r, plug1 f t = .node f.o f.ht f.x l r ∧ Stl h c f.o f.ht f.x l r := by
  obtain ⟨⟨sz, all, ⟨q, hq⟩, h1⟩, h2, h3⟩ := hc
  have hall : all = [.str q.flatten] := hq
  rw [hall, nobj_row] at h1
  unfold plug1
  cases hf : f.left with
  | true =>
    have e1 : lptr f t.ptr = t.ptr := by simp only [lptr, hf]
    have e2 : rptr' f t.ptr = f.sib.ptr := by simp only [rptr', hf]
    rw [e1, e2] at h1
    exact ⟨_, _, rfl, ⟨sz, _, h1⟩, ha, h2, h3⟩
  | false =>
    have e1 : lptr f t.ptr = f.sib.ptr := by simp only [lptr, hf]
    have e2 : rptr' f t.ptr = t.ptr := by simp only [rptr', hf]
    rw [e1, e2] at h1
    exact ⟨_, _, rfl, ⟨sz, _, h1⟩, h2, ha, h3⟩

theorem plug_tx (c : List (Frm Str)) (t : Rt Str) : (plug c t).tx = ((bef c).map (·.2)).flatten ++ t.tx ++ ((aft c).map (·.2)).flatten := by simp [Rt.tx, plug_items]

/-- not too great -/
def Fit (t : Rt Str) : Prop := t.items.length < 2 ^ 60 ∧ t.tx.length < 2 ^ 60
theorem Fit.sub {c : List (Frm Str)} {t : Rt Str} (h : Fit (plug c t)) : Fit t := by
  unfold Fit at *
  rw [plug_items, plug_tx] at h
  simp at h
  exact ⟨by omega, by omega⟩
theorem Fit.node {o ht : Nat} {x : Str} {l r : Rt Str} (h : Fit (.node o ht x l r)) : l.items.length + r.items.length < 2 ^ 60 ∧ l.tx.length + x.length + r.tx.length < 2 ^ 60 := by
  unfold Fit at h
  rw [tx_node, items_node] at h
  simp at h
  exact ⟨by omega, by omega⟩

theorem climb24 {h : AHeap} {c : List (Frm Str)} {n ht : Nat} {x : Str} {l r : Rt Str} (hs : Stl h c n ht x l r) (hnd : (plug c (.node n ht x l r)).ids.Nodup) (hfit : Fit (plug c (.node n ht x l r))) {Q : AVal → AHeap → Prop}
    (hq : ∀ h', At TS h' .nilp (plug c (.node n ht x l r)) → (∀ o, o ∉ (plug c (.node n ht x l r)).ids → h'.get o = h.get o) → h'.next = h.next → Q (.tuple []) h') : Ev (cfgR ro) 24 [.ptr n 0] h Q := by
  obtain ⟨W, hW⟩ : ∃ W, W = plug c (.node n ht x l r) := ⟨_, rfl⟩
  rw [← hW] at hq hnd hfit
  refine Ev.wp rfl rfl Try.func24 rfl ?_
  simp [Try.f24]
  obtain ⟨I, hI⟩ : ∃ I : Nat → List AVal → AHeap → Prop, I = fun m env h' => (∀ o, o ∉ W.ids → h'.get o = h.get o) ∧ h'.next = h.next ∧
      ((m = 0 ∧ At TS h' .nilp W ∧ env = [.nilp, .dead, .dead, .dead, .dead, .dead, .dead, .dead, .dead, .dead]) ∨ ∃ c n ht x l r, m = c.length + 1 ∧ W = plug c (.node n ht x l r) ∧ Stl h' c n ht x l r ∧ env = [.ptr n 0, .dead, .dead, .dead, .dead, .dead, .dead, .dead, .dead, .dead]) := ⟨_, rfl⟩
  refine loop_of I ?_ (c.length + 1) (by rw [hI]; exact ⟨fun _ _ => rfl, rfl, .inr ⟨c, n, ht, x, l, r, rfl, hW, hs, rfl⟩⟩)
  rintro m env h' hi
  rw [hI] at hi
  obtain ⟨hfr, hnx, ⟨rfl, hat, rfl⟩ | ⟨c, n, ht, x, l, r, rfl, hW, hs, rfl⟩⟩ := hi
  · simp
    exact hq _ hat hfr hnx
  · simp
    obtain ⟨⟨sz, all, hn⟩, hl, hr, hc⟩ := hs
    rw [hW] at hnd hfit
    obtain ⟨nd1, nd2⟩ := apart_tree hnd
    obtain ⟨_, _, hnl, hnr, hlr⟩ := apart_node nd1
    obtain ⟨f1, f2⟩ := hfit.sub.node
    refine renew37 hn hl hr hnl hnr f1 f2 (fun h2 g1 g2 g3 => ?_)
    have hat : At TS h2 (upOf c) (.node n ht x l r) := at_node.2 ⟨g1, At.congr (fun o ho => g2 o (fun e => hnl (by rw [← e]; exact ho))) hl, At.congr (fun o ho => g2 o (fun e => hnr (by rw [← e]; exact ho))) hr⟩
    have hca : CA TS h2 c (.ptr n 0) := CA.congr (fun o ho => g2 o (fun e => nd2 n (by rw [ids_node]; simp) (by rw [← e]; exact ho))) hc
    have hfr2 : ∀ o, o ∉ W.ids → h2.get o = h.get o := fun o ho => by
      rw [g2 o (fun e => ho (by rw [hW, plug_mem, ids_node, e]; simp)), hfr o ho]
    simp [g1, nrow]
    cases c with
    | nil =>
      simp [upOf]
      exact .mk (m := 0) (by simp) (by rw [hI]; exact ⟨hfr2, by rw [g3, hnx], .inl ⟨rfl, by rw [hW]; exact hat, rfl⟩⟩)
    | cons f c =>
      obtain ⟨l2, r2, e1, e2⟩ := Stl.up (t := .node n ht x l r) hat hca
      simp [upOf]
      exact .mk (m := c.length + 1) (by simp) (by rw [hI]; exact ⟨hfr2, by rw [g3, hnx], .inr ⟨c, f.o, f.ht, f.x, l2, r2, rfl, by rw [hW, plug, e1], e2, rfl⟩⟩)
end
end Go.Proofs.Ytbnlhhfobgjeaaa
