/-
  A part of the proof of ProbeReads, over the seat Ytomhcjiefmaopaa: for every input the law returns true, and the input reads as it did.
-/
import Derived.Test.YtomhcjiefmaopaaRc
import Derived.Test.YtomhcjiefmaopaaZe
set_option linter.all false
set_option linter.all false
set_option maxRecDepth 100000
set_option maxHeartbeats 4000000
namespace Go.Proofs.Ytomhcjiefmaopaa
open Go Go.RowKit Go.Proofs

/-! floats that are whole -/
theorem f_geq {a b : Nat} {x y : Int} (ha : Wh a x) (hb : Wh b y) : floatBin .geq .f64 a b = .ok (.bool (decide (y ≤ x))) := by
  unfold floatBin
  rw [show FloatKind.f64.format = Ieee.double from rfl, order_wh ha hb]
  rcases Int.lt_trichotomy x y with h | h | h
  · rw [cmp_lt h, decide_eq_false (by omega)]; rfl
  · rw [h, cmp_eq, decide_eq_true (by omega)]; rfl
  · rw [cmp_gt h, decide_eq_true (by omega)]; rfl
theorem f_leq {a b : Nat} {x y : Int} (ha : Wh a x) (hb : Wh b y) : floatBin .leq .f64 a b = .ok (.bool (decide (x ≤ y))) := by
  unfold floatBin
  rw [show FloatKind.f64.format = Ieee.double from rfl, order_wh ha hb]
  rcases Int.lt_trichotomy x y with h | h | h
  · rw [cmp_lt h, decide_eq_true (by omega)]; rfl
  · rw [h, cmp_eq, decide_eq_true (by omega)]; rfl
  · rw [cmp_gt h, decide_eq_false (by omega)]; rfl
theorem f_eql {a b : Nat} {x y : Int} (ha : Wh a x) (hb : Wh b y) : floatBin .eql .f64 a b = .ok (.bool (decide (x = y))) := by
  unfold floatBin
  rw [show FloatKind.f64.format = Ieee.double from rfl, order_wh ha hb]
  rcases Int.lt_trichotomy x y with h | h | h
  · rw [cmp_lt h, decide_eq_false (by omega)]; rfl
  · rw [h, cmp_eq, decide_eq_true (by omega)]; rfl
  · rw [cmp_gt h, decide_eq_false (by omega)]; rfl
theorem f_neq {a b : Nat} {x y : Int} (ha : Wh a x) (hb : Wh b y) : floatBin .neq .f64 a b = .ok (.bool (!decide (x = y))) := by
  unfold floatBin
  rw [show FloatKind.f64.format = Ieee.double from rfl, order_wh ha hb]
  rcases Int.lt_trichotomy x y with h | h | h
  · rw [cmp_lt h, decide_eq_false (by omega)]; rfl
  · rw [h, cmp_eq, decide_eq_true (by omega)]; rfl
  · rw [cmp_gt h, decide_eq_false (by omega)]; rfl
theorem f_int {a : Nat} {x : Int} (ha : Wh a x) : (FloatKind.f64.decode a).toInt .zero = some x := toInt_wh ha
theorem wh_lo : Wh 13943144446339055616 (-33554432) := by
  have : FloatKind.f64.nearest (-33554432) = 13943144446339055616 := by decide +kernel
  rw [← this]; exact nearest_wh (by decide)
theorem wh_hi : Wh 4719772409484279808 33554432 := by
  have : FloatKind.f64.nearest 33554432 = 4719772409484279808 := by decide +kernel
  rw [← this]; exact nearest_wh (by decide)
section
variable {ro : Nat → Option (List AVal)}
theorem whole88 {h : AHeap} {a : Nat} {x : Int} (ha : Wh a x) (h1 : -33554432 ≤ x) (h2 : x ≤ 33554432) {Q : AVal → AHeap → Prop} (hq : Q (.tuple [.int .i64 x, .bool true]) h) : Ev (cfgR ro) 88 [.float .f64 a] h Q := by
  refine Ev.wp rfl rfl Try.func88 rfl ?_
  have hn : Wh (FloatKind.f64.nearest x) x := nearest_wh (by omega)
  have e1 := f_geq ha wh_lo
  have e2 := f_leq ha wh_hi
  have e3 := f_eql hn ha
  have e4 := f_int ha
  have b1 : IntKind.i64.min ≤ x := by show (-9223372036854775808 : Int) ≤ x; omega
  have b2 : x ≤ IntKind.i64.max := by show x ≤ (9223372036854775807 : Int); omega
  simp -implicitDefEqProofs [Try.f88, e1, e2, e3, e4, h1, h2, b1, b2]
  exact ⟨by omega, hq⟩
theorem parts76 {h : AHeap} {a b : Nat} {x y : Int} (ha : Wh a x) (h1 : -33554432 ≤ x) (h2 : x ≤ 33554432) (hb : Wh b y) (h3 : -33554432 ≤ y) (h4 : y ≤ 33554432) {Q : AVal → AHeap → Prop}
    (hq : Q (.tuple [.int .i64 x, .int .i64 y, .bool true]) h) : Ev (cfgR ro) 76 [.cplx .f64 a b] h Q := by
  refine Ev.wp rfl rfl Try.func76 rfl ?_
  simp -implicitDefEqProofs [Try.f76]
  refine whole88 ha h1 h2 ?_
  simp -implicitDefEqProofs
  refine whole88 hb h3 h4 ?_
  simp -implicitDefEqProofs
  exact hq
theorem right89 {h : AHeap} {a b : Nat} {x y : Int} (ha : Wh a x) (h1 : -33554432 ≤ x) (h2 : x ≤ 33554432) (hb : Wh b y) (h3 : -33554432 ≤ y) (h4 : y ≤ 33554432) {Q : AVal → AHeap → Prop}
    (hq : Q (.bool true) h) : Ev (cfgR ro) 89 [.cplx .f64 a b] h Q := by
  refine Ev.wp rfl rfl Try.func89 rfl ?_
  simp -implicitDefEqProofs [Try.f89]
  refine parts76 ha h1 h2 hb h3 h4 ?_
  simp -implicitDefEqProofs
  exact hq
theorem of63 {h : AHeap} {a b : Nat} {x y : Int} (ha : Wh a x) (h1 : -33554432 ≤ x) (h2 : x ≤ 33554432) (hb : Wh b y) (h3 : -33554432 ≤ y) (h4 : y ≤ 33554432) {Q : AVal → AHeap → Prop}
    (hq : Q (.tuple [.agg [.int .i64 x, .int .i64 y], .bool true]) h) : Ev (cfgR ro) 63 [.cplx .f64 a b] h Q := by
  refine Ev.wp rfl rfl Try.func63 rfl ?_
  have hn : Wh (FloatKind.f64.nearest x) x := nearest_wh (by omega)
  have hm : Wh (FloatKind.f64.nearest y) y := nearest_wh (by omega)
  have e1 := f_geq ha wh_lo
  have e2 := f_leq ha wh_hi
  have e3 := f_neq hn ha
  have e4 := f_int ha
  have e5 := f_geq hb wh_lo
  have e6 := f_leq hb wh_hi
  have e7 := f_neq hm hb
  have e8 := f_int hb
  have b1 : IntKind.i64.min ≤ x := by show (-9223372036854775808 : Int) ≤ x; omega
  have b2 : x ≤ IntKind.i64.max := by show x ≤ (9223372036854775807 : Int); omega
  have b3 : IntKind.i64.min ≤ y := by show (-9223372036854775808 : Int) ≤ y; omega
  have b4 : y ≤ IntKind.i64.max := by show y ≤ (9223372036854775807 : Int); omega
  have b5 : x ≤ 9223372036854775807 := by omega
  have b6 : y ≤ 9223372036854775807 := by omega
  simp -implicitDefEqProofs [Try.f63, e1, e2, e3, e4, e5, e6, e7, e8, h1, h2, h3, h4, b1, b2, b3, b4, b5, b6]
  exact hq
/-- 1, turned so many times -/
def tA : Nat → Nat
  | 0 => 4607182418800017408
  | 2 => 13830554455654793216
  | _ => 0
def tB : Nat → Nat
  | 1 => 4607182418800017408
  | 3 => 13830554455654793216
  | _ => 0
def tX : Nat → Int
  | 0 => 1
  | 2 => -1
  | _ => 0
def tY : Nat → Int
  | 1 => 1
  | 3 => -1
  | _ => 0
theorem lt4 {n : Nat} (h : n ≤ 3) : n = 0 ∨ n = 1 ∨ n = 2 ∨ n = 3 := by omega
theorem wh_c0 : Wh 0 0 := by
  have : FloatKind.f64.nearest 0 = 0 := by decide +kernel
  have h := nearest_wh (n := 0) (by decide)
  rw [this] at h; exact h
theorem wh_c1 : Wh 4607182418800017408 1 := by
  have : FloatKind.f64.nearest 1 = 4607182418800017408 := by decide +kernel
  rw [← this]; exact nearest_wh (by decide)
theorem wh_cm : Wh 13830554455654793216 (-1) := by
  have : FloatKind.f64.nearest (-1) = 13830554455654793216 := by decide +kernel
  rw [← this]; exact nearest_wh (by decide)
theorem tA_wh {n : Nat} (h : n ≤ 3) : Wh (tA n) (tX n) := by
  rcases lt4 h with rfl | rfl | rfl | rfl
  · exact wh_c1
  · exact wh_c0
  · exact wh_cm
  · exact wh_c0
theorem tB_wh {n : Nat} (h : n ≤ 3) : Wh (tB n) (tY n) := by
  rcases lt4 h with rfl | rfl | rfl | rfl
  · exact wh_c0
  · exact wh_c1
  · exact wh_c0
  · exact wh_cm
theorem turn57 {h : AHeap} {n : Nat} (hn : n ≤ 3) {Q : AVal → AHeap → Prop} (hq : Q (.cplx .f64 (tA n) (tB n)) h) : Ev (cfgR ro) 57 [.int .i64 n] h Q := by
  have : callF (cfgR ro) 100 57 [.int .i64 n] h = .ok (.cplx .f64 (tA n) (tB n), h) := by
    rcases lt4 hn with rfl | rfl | rfl | rfl <;> kernel_rfl
  exact ⟨_, _, _, this, hq⟩
theorem turned60 {h : AHeap} {n : Nat} (hn : n ≤ 3) {Q : AVal → AHeap → Prop} (hq : Q (.agg [.int .i64 (tX n), .int .i64 (tY n)]) h) : Ev (cfgR ro) 60 [.int .i64 n] h Q := by
  have : callF (cfgR ro) 100 60 [.int .i64 n] h = .ok (.agg [.int .i64 (tX n), .int .i64 (tY n)], h) := by
    rcases lt4 hn with rfl | rfl | rfl | rfl <;> kernel_rfl
  exact ⟨_, _, _, this, hq⟩
theorem norm80 {h : AHeap} {n : Nat} (hn : n ≤ 3) {Q : AVal → AHeap → Prop} (hq : Q (.int .i64 1) h) : Ev (cfgR ro) 80 [.agg [.int .i64 (tX n), .int .i64 (tY n)]] h Q := by
  have : callF (cfgR ro) 100 80 [.agg [.int .i64 (tX n), .int .i64 (tY n)]] h = .ok (.int .i64 1, h) := by
    rcases lt4 hn with rfl | rfl | rfl | rfl <;> kernel_rfl
  exact ⟨_, _, _, this, hq⟩
theorem turns75 {h : AHeap} {n : Nat} (hn : n ≤ 3) {Q : AVal → AHeap → Prop} (hq : Q (.tuple [.int .i64 n, .bool true]) h) : Ev (cfgR ro) 75 [.cplx .f64 (tA n) (tB n)] h Q := by
  have : callF (cfgR ro) 100 75 [.cplx .f64 (tA n) (tB n)] h = .ok (.tuple [.int .i64 n, .bool true], h) := by
    rcases lt4 hn with rfl | rfl | rfl | rfl <;> kernel_rfl
  exact ⟨_, _, _, this, hq⟩
theorem wright78 {h : AHeap} {n a b : Nat} {x y : Int} (hn : n ≤ 3) (ha : Wh a x) (h1 : -33554432 ≤ x) (h2 : x ≤ 33554432) (hb : Wh b y) (h3 : -33554432 ≤ y) (h4 : y ≤ 33554432) {Q : AVal → AHeap → Prop}
    (hq : Q (.bool true) h) : Ev (cfgR ro) 78 [.agg [.cplx .f64 (tA n) (tB n), .cplx .f64 a b]] h Q := by
  refine Ev.wp rfl rfl Try.func78 rfl ?_
  simp -implicitDefEqProofs [Try.f78]
  refine turns75 hn ?_
  simp -implicitDefEqProofs
  refine right89 ha h1 h2 hb h3 h4 ?_
  simp -implicitDefEqProofs
  exact hq
/-- a part of a number -/
def prt (n : Nat) : Int := if n % 2 = 1 then -((n / 2 : Nat) : Int) - 1 else ((n / 2 : Nat) : Int)
theorem prt_le {n : Nat} (h : n ≤ 67108864) : -33554432 ≤ prt n ∧ prt n ≤ 33554432 := by
  unfold prt; split <;> omega
theorem part61 {h : AHeap} {n : Nat} (hn : n ≤ 67108864) {Q : AVal → AHeap → Prop} (hq : Q (.int .i64 (prt n)) h) : Ev (cfgR ro) 61 [.int .u64 n] h Q := by
  refine Ev.wp rfl rfl Try.func61 rfl ?_
  have e0 : ((n : Int).tmod 2) = ((n % 2 : Nat) : Int) := by rw [Int.tmod_eq_emod_of_nonneg (by omega)]; rfl
  obtain ⟨m, hm⟩ : ∃ m, m = n % 2 := ⟨_, rfl⟩
  rw [← hm] at e0
  unfold prt at hq
  rw [← hm] at hq
  by_cases h1 : m = 1
  · obtain ⟨q, hqq⟩ : ∃ q, q = (n + 1) / 2 := ⟨_, rfl⟩
    have e1 : IntKind.u64.wrap ((n : Int) + 1) = ((n + 1 : Nat) : Int) := by rw [wrap64]; omega
    obtain ⟨n1, hn1⟩ : ∃ n1, n1 = n + 1 := ⟨_, rfl⟩
    rw [← hn1] at e1 hqq
    have e2 : ((n1 : Int).tdiv 2) = (q : Int) := by rw [Int.tdiv_eq_ediv_of_nonneg (by omega), hqq]; rfl
    have e3 : IntKind.u64.wrap (q : Int) = (q : Int) := by rw [wrap64]; omega
    have e4 : IntKind.i64.wrap (q : Int) = (q : Int) := w64 (by omega) (by omega)
    have e5 : IntKind.i64.wrap (-(q : Int)) = -(q : Int) := w64 (by omega) (by omega)
    have e6 : IntKind.i64.wrap (0 - (q : Int)) = -(q : Int) := by rw [w64 (by omega) (by omega)]; omega
    rw [if_pos h1, show -((n / 2 : Nat) : Int) - 1 = -(q : Int) by omega] at hq
    simp -implicitDefEqProofs [Try.f61, e0, h1, e1, e2, e3, e4, e5, e6]
    exact hq
  · obtain ⟨q, hqq⟩ : ∃ q, q = n / 2 := ⟨_, rfl⟩
    have e2 : ((n : Int).tdiv 2) = (q : Int) := by rw [Int.tdiv_eq_ediv_of_nonneg (by omega), hqq]; rfl
    have e3 : IntKind.u64.wrap (q : Int) = (q : Int) := by rw [wrap64]; omega
    have e4 : IntKind.i64.wrap (q : Int) = (q : Int) := w64 (by omega) (by omega)
    have h1' : ¬ (m : Int) = 1 := by omega
    rw [if_neg h1, ← hqq] at hq
    simp -implicitDefEqProofs [Try.f61, e0, h1, h1', e2, e3, e4]
    exact hq
/-- reading on, if there was no error -/
def st (cs : List UInt8) (s : Nat × Nat) (lim : Nat) : Nat × Nat × Nat := if s.2 = 0 then rdNum cs s.1 lim else (0, s.1, s.2)
theorem st_lt {cs : List UInt8} {s : Nat × Nat} {lim : Nat} (hs : s.1 ≤ cs.length) : (st cs s lim).2.1 ≤ cs.length ∧ (st cs s lim).1 ≤ lim := by
  unfold st
  split
  · have h := rdGo_lt (show rdGo cs s.1 lim 9 0 0 = ((rdNum cs s.1 lim).1, (rdNum cs s.1 lim).2.1, (rdNum cs s.1 lim).2.2) from rfl)
    by_cases hx : (rdNum cs s.1 lim).2.2 = 0
    · have := h.1 hx; omega
    · have := h.2.1 hx; omega
  · exact ⟨hs, Nat.zero_le _⟩
theorem num37s {h : AHeap} {r : Nat} {cs : List UInt8} {s : Nat × Nat} {limit : Nat} (hr : RdAt h r cs s.1 s.2) (hl : cs.length ≤ 2 ^ 40) (ha : s.1 ≤ cs.length) (hlim : limit < 2 ^ 63) {Q : AVal → AHeap → Prop}
    (hq : ∀ h', RdAt h' r cs (st cs s limit).2.1 (st cs s limit).2.2 → Rst r h h' → Q (.int .u64 (st cs s limit).1) h') : Ev (cfgR ro) 37 [.ptr r 0, .int .u64 limit] h Q := by
  by_cases hx : s.2 = 0
  · unfold st at hq
    simp only [if_pos hx] at hq
    refine num37 hr hl ha hlim (fun _ v p x h' e1 e2 e3 => ?_) (fun h => absurd (by omega) h)
    rw [e1] at hq
    exact hq h' e2 e3
  · unfold st at hq
    simp only [if_neg hx] at hq
    exact num37 hr hl ha hlim (fun h => absurd (by omega) hx) (fun _ => hq h hr Rst.refl)
theorem unsigned58 {h : AHeap} {r : Nat} {cs : List UInt8} {s : Nat × Nat} (hr : RdAt h r cs s.1 s.2) (hl : cs.length ≤ 2 ^ 40) (ha : s.1 ≤ cs.length) {Q : AVal → AHeap → Prop}
    (hq : ∀ h', RdAt h' r cs (st cs s 67108864).2.1 (st cs s 67108864).2.2 → Rst r h h' → Q (.int .i64 (prt (st cs s 67108864).1)) h') : Ev (cfgR ro) 58 [.ptr r 0] h Q := by
  refine Ev.wp rfl rfl Try.func58 rfl ?_
  simp -implicitDefEqProofs [Try.f58]
  refine num37s hr hl ha (limit := 67108864) (by decide) (fun h' r1 k1 => ?_)
  have hn := (st_lt (lim := 67108864) ha).2
  have hq := hq h' r1 k1
  obtain ⟨n, hnn⟩ : ∃ n, n = (st cs s 67108864).1 := ⟨_, rfl⟩
  rw [← hnn] at hn hq ⊢
  have e0 : ((n : Int).tmod 2) = ((n % 2 : Nat) : Int) := by rw [Int.tmod_eq_emod_of_nonneg (by omega)]; rfl
  obtain ⟨m, hm⟩ : ∃ m, m = n % 2 := ⟨_, rfl⟩
  rw [← hm] at e0
  unfold prt at hq
  rw [← hm] at hq
  obtain ⟨q, hqq⟩ : ∃ q, q = n / 2 := ⟨_, rfl⟩
  have e2 : ((n : Int).tdiv 2) = (q : Int) := by rw [Int.tdiv_eq_ediv_of_nonneg (by omega), hqq]; rfl
  have e3 : IntKind.u64.wrap (q : Int) = (q : Int) := by rw [wrap64]; omega
  have e4 : IntKind.i64.wrap (q : Int) = (q : Int) := w64 (by omega) (by omega)
  by_cases h1 : m = 1
  · have e5 : IntKind.i64.wrap (-(q : Int)) = -(q : Int) := w64 (by omega) (by omega)
    have e6 : IntKind.i64.wrap (0 - (q : Int)) = -(q : Int) := by rw [w64 (by omega) (by omega)]; omega
    have e7 : IntKind.i64.wrap (-(q : Int) - 1) = -(q : Int) - 1 := w64 (by omega) (by omega)
    rw [if_pos h1, ← hqq] at hq
    simp -implicitDefEqProofs [e0, h1, e2, e3, e4, e5, e6, e7]
    exact hq
  · have h1' : ¬ (m : Int) = 1 := by omega
    rw [if_neg h1, ← hqq] at hq
    simp -implicitDefEqProofs [e0, h1, h1', e2, e3, e4]
    exact hq
/-- a part as a number -/
def sgn (n : Int) : Nat := if n < 0 then (-2 * n - 1).toNat else (2 * n).toNat
theorem sgn_prt (n : Nat) : sgn (prt n) = n := by
  unfold sgn prt
  split <;> split <;> omega
theorem signed64 {h : AHeap} {n : Int} (h1 : -33554432 ≤ n) (h2 : n ≤ 33554432) {Q : AVal → AHeap → Prop} (hq : Q (.int .u64 (sgn n)) h) : Ev (cfgR ro) 64 [.int .i64 n] h Q := by
  refine Ev.wp rfl rfl Try.func64 rfl ?_
  unfold sgn at hq
  by_cases h0 : n < 0
  · rw [if_pos h0] at hq
    have e1 : IntKind.i64.wrap (-2 * n) = -2 * n := w64 (by omega) (by omega)
    have e2 : IntKind.i64.wrap (-2 * n - 1) = -2 * n - 1 := w64 (by omega) (by omega)
    have e3 : IntKind.u64.wrap (-2 * n - 1) = ((-2 * n - 1).toNat : Int) := by rw [wrap64]; omega
    simp -implicitDefEqProofs [Try.f64, h0]
    rw [e1, e2, e3]
    exact hq
  · rw [if_neg h0] at hq
    have e1 : IntKind.i64.wrap (2 * n) = 2 * n := w64 (by omega) (by omega)
    have e3 : IntKind.u64.wrap (2 * n) = ((2 * n).toNat : Int) := by rw [wrap64]; omega
    simp -implicitDefEqProofs [Try.f64, h0]
    rw [e1, e3]
    exact hq
end
end Go.Proofs.Ytomhcjiefmaopaa
set_option linter.all false
set_option maxRecDepth 100000
set_option maxHeartbeats 4000000
namespace Go.Proofs.Ytomhcjiefmaopaa
open Go Go.RowKit Go.Proofs
/-- what is read of a probe's bytes -/
structure PR where
  err : Nat
  l : List En
  a : Nat
  n : Nat
  t : Nat
  x : Nat
  y : Nat
def PR.bad (e : Nat) : PR := ⟨e, [], 0, 0, 0, 0, 0⟩
def prS (bs : List UInt8) : PR :=
  match openS bs with
  | none => .bad 31
  | some cs => if (cs.getD 0 0).toNat ≠ 209 ∨ cs.length = 0 then .bad 30 else
    if (st cs (st cs (st cs (st cs (st cs (listS cs).2 65536).2 65536).2 3).2 67108864).2 67108864).2.2 ≠ 0 then
      .bad (st cs (st cs (st cs (st cs (st cs (listS cs).2 65536).2 65536).2 3).2 67108864).2 67108864).2.2 else
    if (st cs (st cs (st cs (st cs (st cs (listS cs).2 65536).2 65536).2 3).2 67108864).2 67108864).2.1 < cs.length then .bad 15 else
    if rightB (listS cs).1 = false ∨ ¬ (st cs (st cs (listS cs).2 65536).2 65536).1 ≤ (st cs (listS cs).2 65536).1 then .bad 11 else
    ⟨0, (listS cs).1, (st cs (listS cs).2 65536).1, (st cs (st cs (listS cs).2 65536).2 65536).1, (st cs (st cs (st cs (listS cs).2 65536).2 65536).2 3).1,
      (st cs (st cs (st cs (st cs (listS cs).2 65536).2 65536).2 3).2 67108864).1, (st cs (st cs (st cs (st cs (st cs (listS cs).2 65536).2 65536).2 3).2 67108864).2 67108864).1⟩
theorem prS_of {bs cs : List UInt8} (h : openS bs = some cs) (hm : ¬ ((cs.getD 0 0).toNat ≠ 209 ∨ cs.length = 0)) {a1 a2 a3 a4 a5 : Nat} {s1 s2 s3 s4 s5 : Nat × Nat}
    (h1 : st cs (listS cs).2 65536 = (a1, s1)) (h2 : st cs s1 65536 = (a2, s2)) (h3 : st cs s2 3 = (a3, s3)) (h4 : st cs s3 67108864 = (a4, s4)) (h5 : st cs s4 67108864 = (a5, s5)) :
    prS bs = if s5.2 ≠ 0 then .bad s5.2 else if s5.1 < cs.length then .bad 15 else if rightB (listS cs).1 = false ∨ ¬ a2 ≤ a1 then .bad 11 else ⟨0, (listS cs).1, a1, a2, a3, a4, a5⟩ := by
  unfold prS
  rw [h]
  simp only []
  rw [if_neg hm, h1]
  simp only []
  rw [h2]
  simp only []
  rw [h3]
  simp only []
  rw [h4]
  simp only []
  rw [h5]
/-- a probe in cells -/
def pcells (vv : AVal) (p : PR) : List AVal := [vv, .int .i64 p.a, .int .i64 p.n, .cplx .f64 (tA p.t) (tB p.t), .cplx .f64 (FloatKind.f64.nearest (prt p.x)) (FloatKind.f64.nearest (prt p.y))]
def rcells (vv : AVal) (p : PR) : List AVal := [vv, .int .i64 p.a, .int .i64 p.n, .int .i64 (tX p.t), .int .i64 (tY p.t), .int .i64 (prt p.x), .int .i64 (prt p.y)]
structure PR.Ok (p : PR) : Prop where
  a : p.a ≤ 65536
  n : p.n ≤ 65536
  t : p.t ≤ 3
  x : p.x ≤ 67108864
  y : p.y ≤ 67108864
section
variable {ro : Nat → Option (List AVal)}
theorem pright59 {h : AHeap} {vv : AVal} {p : PR} (hv : Ens (cfgR ro) h vv p.l) (hn : p.l.length ≤ 2 ^ 40) (ok : p.Ok) {Q : AVal → AHeap → Prop} (hq : Q (.bool (rightB p.l && decide (p.n ≤ p.a))) h) : Ev (cfgR ro) 59 [.agg (pcells vv p)] h Q := by
  refine Ev.wp rfl rfl Try.func59 rfl ?_
  obtain ⟨er, l, a, n, t, x, y⟩ := p
  obtain ⟨k1, k2, k3, k4, k5⟩ := ok
  simp only at k1 k2 k3 k4 k5 hv hn
  simp -implicitDefEqProofs [Try.f59, pcells]
  refine right40 hv hn ?_
  cases hr : rightB l with
  | false =>
    simp only [hr] at hq ⊢
    simp -implicitDefEqProofs
    simpa using hq
  | true =>
    simp only [hr] at hq ⊢
    have w1 : (0 : Int) ≤ (a : Int) := by omega
    have w2 : (a : Int) ≤ 65536 := by omega
    have w3 : (0 : Int) ≤ (n : Int) := by omega
    by_cases hle : n ≤ a
    · have w4 : (n : Int) ≤ (a : Int) := by omega
      simp -implicitDefEqProofs [w1, w2, w3, w4, hle]
      have b1 := prt_le k4
      have b2 := prt_le k5
      refine wright78 k3 (nearest_wh (by omega)) b1.1 b1.2 (nearest_wh (by omega)) b2.1 b2.2 ?_
      simp -implicitDefEqProofs
      simpa [hle] using hq
    · have w4 : ¬ (n : Int) ≤ (a : Int) := by omega
      simp -implicitDefEqProofs [w1, w2, w3, w4, hle]
      simpa [hle] using hq
theorem rright62 {h : AHeap} {vv : AVal} {p : PR} (hv : Ens (cfgR ro) h vv p.l) (hn : p.l.length ≤ 2 ^ 40) (ok : p.Ok) {Q : AVal → AHeap → Prop} (hq : Q (.bool (rightB p.l && decide (p.n ≤ p.a))) h) : Ev (cfgR ro) 62 [.agg (rcells vv p)] h Q := by
  refine Ev.wp rfl rfl Try.func62 rfl ?_
  obtain ⟨er, l, a, n, t, x, y⟩ := p
  obtain ⟨k1, k2, k3, k4, k5⟩ := ok
  simp only at k1 k2 k3 k4 k5 hv hn
  simp -implicitDefEqProofs [Try.f62, rcells]
  refine right8 hv hn ?_
  cases hr : rightB l with
  | false =>
    simp only [hr] at hq ⊢
    simp -implicitDefEqProofs
    simpa using hq
  | true =>
    simp only [hr] at hq ⊢
    have w1 : (0 : Int) ≤ (a : Int) := by omega
    have w2 : (a : Int) ≤ 65536 := by omega
    have w3 : (0 : Int) ≤ (n : Int) := by omega
    by_cases hle : n ≤ a
    · have w4 : (n : Int) ≤ (a : Int) := by omega
      simp -implicitDefEqProofs [w1, w2, w3, w4, hle]
      refine norm80 k3 ?_
      simp -implicitDefEqProofs
      simpa [hle] using hq
    · have w4 : ¬ (n : Int) ≤ (a : Int) := by omega
      simp -implicitDefEqProofs [w1, w2, w3, w4, hle]
      simpa [hle] using hq
end
end Go.Proofs.Ytomhcjiefmaopaa
set_option linter.all false
set_option maxRecDepth 100000
set_option maxHeartbeats 4000000
namespace Go.Proofs.Ytomhcjiefmaopaa
open Go Go.RowKit Go.Proofs
def zP : List AVal := [.nils, .int .i64 0, .int .i64 0, .cplx .f64 0 0, .cplx .f64 0 0]
theorem Mine.cells {h0 h : AHeap} {sz : Nat} {es : List (List AVal)} {v : AVal} (m : Mine h0 h sz es v) : cellsV v = .ok [v] := by
  obtain ⟨_, ⟨_, rfl⟩ | ⟨q, fz, rfl, _⟩⟩ := m <;> rfl
section
variable {ro : Nat → Option (List AVal)}
theorem pdec23 {h : AHeap} {v : AVal} {bs : List UInt8} (hv : BS (cfgR ro) h v bs) (hs : ∀ o f l q, v ≠ .slc o f l q) (hn : bs.length ≤ 2 ^ 40) {Q : AVal → AHeap → Prop}
    (hq1 : ∀ h', Old h h' → (prS bs).err ≠ 0 → Q (.tuple [.agg zP, .int .i64 (prS bs).err]) h')
    (hq2 : ∀ v' h', Old h h' → (prS bs).err = 0 → Mine h h' 2 ((prS bs).l.map ecells) v' → Q (.tuple [.agg (pcells v' (prS bs)), .int .i64 0]) h') : Ev (cfgR ro) 23 [v] h Q := by
  refine Ev.wp rfl rfl Try.func23 rfl ?_
  have bad : ∀ (x : Nat) (h' : AHeap), prS bs = .bad x → x ≠ 0 → Old h h' → Q (.tuple [.agg zP, .int .i64 x]) h' := fun x h' hx h0 ho => by rw [hx] at hq1; exact hq1 _ ho h0
  simp -implicitDefEqProofs [Try.f23]
  refine open34 hv hs hn (fun cs vc h1 hop mc k1 => ?_) (fun h1 hop k1 => ?_)
  rotate_left
  · simp -implicitDefEqProofs
    refine scp_to rfl ?_
    simp -implicitDefEqProofs
    exact bad 31 h1 (by unfold prS; rw [hop]) (by decide) k1
  have hcl : cs.length ≤ 2 ^ 40 := by
    unfold openS at hop
    split at hop
    · cases hop
    · split at hop
      · injection hop with hop; rw [← hop]; simp; omega
      · cases hop
  simp -implicitDefEqProofs
  refine from35 mc.toBS (fun hb r hr rd0 k2 hnx => ?_)
  have k12 := k1.trans k2
  simp -implicitDefEqProofs
  have hrn : h.next ≤ r := by rw [hr]; exact k1.1
  have old : ∀ h', Wst hb r hb h' → Old h h' := fun h' k => ⟨Nat.le_trans k12.1 k.1, fun o ho => by rw [k.2 o (Nat.lt_of_lt_of_le ho k12.1) (by omega)]; exact k12.2 o ho⟩
  have rst : ∀ {a b : AHeap}, Rst r a b → Wst hb r a b := fun k => ⟨by rw [k.1]; exact Nat.le_refl _, fun o _ ho => k.2 o ho⟩
  have hrb : r < hb.next := by omega
  refine byte36 rd0 hcl (by omega) (fun _ hlt h3 rd3 s3 => ?_) (fun _ hlt h3 rd3 s3 => ?_) (fun h => absurd rfl h)
  rotate_left
  · simp -implicitDefEqProofs
    refine scp_to rfl ?_
    simp -implicitDefEqProofs
    exact bad 30 h3 (by unfold prS; rw [hop]; simp only []; rw [if_pos (.inr (by omega))]) (by decide) (old _ (rst s3))
  have s3 := rst s3
  have hg0 : cs.getD 0 0 = cs[0] := by simp [hlt]
  simp -implicitDefEqProofs
  refine orD (fun h4 => ?_) (fun h4 => ?_)
  rotate_left
  · simp -implicitDefEqProofs
    refine scp_to rfl ?_
    simp -implicitDefEqProofs
    exact bad 30 h3 (by unfold prS; rw [hop]; simp only []; rw [if_pos (.inl (by rw [hg0]; intro h; exact h4 (by omega)))]) (by decide) (old _ s3)
  have hmark : ¬ ((cs.getD 0 0).toNat ≠ 209 ∨ cs.length = 0) := by rw [hg0]; omega
  simp -implicitDefEqProofs
  refine num37 rd3 hcl (by omega) (limit := 65536) (by decide) (fun _ n p x h5 hrd rd5 s5 => ?_) (fun h => absurd rfl h)
  have s5 := s3.trans (rst s5)
  obtain ⟨f1, f2, f3⟩ := rdGo_lt hrd
  simp -implicitDefEqProofs
  generalize hK : seqK _ _ _ _ _ _ _ = K
  have tail : ∀ (z22 z23 z24 z39 : AVal) (h' : AHeap) (p e : Nat) (acc : List En) (vv : AVal), Wst hb r hb h' → RdAt h' r cs p e → p ≤ cs.length → (listS cs).2 = (p, e) → (e = 0 → (listS cs).1 = acc) → Mine hb h' 2 (acc.map ecells) vv → acc.length ≤ 2 ^ 40 →
      K (.dead :: .dead :: .cell [.nils, .int .i64 0, .int .i64 0, .cplx .f64 0 0, .cplx .f64 0 0] :: .dead :: .cell [vv, .int .i64 0, .int .i64 0, .cplx .f64 0 0, .cplx .f64 0 0] :: .ptr r 0 :: .dead :: .dead :: .dead :: .dead :: .dead :: .dead :: .dead :: .dead :: .dead :: .dead :: .dead :: .dead :: .dead :: .dead :: .dead :: .dead :: z22 :: z23 :: z24 :: .dead :: .dead :: .dead :: .dead :: .dead :: .dead :: .dead :: .dead :: .dead :: .dead :: .dead :: .dead :: .dead :: .dead :: z39 :: .dead :: .dead :: .dead :: .dead :: .dead :: .dead :: .dead :: .dead :: .dead :: .dead :: .dead :: .dead :: .dead :: .dead :: .dead :: .dead :: .dead :: .dead :: .dead :: .dead :: .dead :: .dead :: .dead :: .dead :: .dead :: .dead :: .dead :: .dead :: .dead :: .dead :: .dead :: .dead :: .dead :: .dead :: []) h' := by
    intro z22 z23 z24 z39 h' p e acc vv hw rd hp hL hl hm hal
    rw [← hK]
    simp -implicitDefEqProofs
    refine num37s (s := (p, e)) rd hcl hp (limit := 65536) (by decide) (fun h6 rd6 w6 => ?_)
    have b1 := st_lt (lim := 65536) (s := (p, e)) hp
    obtain ⟨a1, s1, e1⟩ : ∃ a1 s1, st cs (p, e) 65536 = (a1, s1) := ⟨_, _, rfl⟩
    rw [e1] at rd6 b1
    rw [e1]
    simp only [] at rd6 b1 ⊢
    have c1 : IntKind.i64.wrap (a1 : Int) = (a1 : Int) := w64 (by omega) (by omega)
    simp -implicitDefEqProofs [c1]
    refine num37s (s := s1) rd6 hcl b1.1 (limit := 65536) (by decide) (fun h7 rd7 w7 => ?_)
    have b2 := st_lt (lim := 65536) (s := s1) b1.1
    obtain ⟨a2, s2, e2⟩ : ∃ a2 s2, st cs s1 65536 = (a2, s2) := ⟨_, _, rfl⟩
    rw [e2] at rd7 b2
    rw [e2]
    simp only [] at rd7 b2 ⊢
    have c2 : IntKind.i64.wrap (a2 : Int) = (a2 : Int) := w64 (by omega) (by omega)
    simp -implicitDefEqProofs [c1, c2]
    refine num37s (s := s2) rd7 hcl b2.1 (limit := 3) (by decide) (fun h8 rd8 w8 => ?_)
    have b3 := st_lt (lim := 3) (s := s2) b2.1
    obtain ⟨a3, s3', e3⟩ : ∃ a3 s3, st cs s2 3 = (a3, s3) := ⟨_, _, rfl⟩
    rw [e3] at rd8 b3
    rw [e3]
    simp only [] at rd8 b3 ⊢
    have c3 : IntKind.i64.wrap (a3 : Int) = (a3 : Int) := w64 (by omega) (by omega)
    simp -implicitDefEqProofs [c1, c2, c3]
    refine turn57 b3.2 ?_
    simp -implicitDefEqProofs
    refine unsigned58 (s := s3') rd8 hcl b3.1 (fun h9 rd9 w9 => ?_)
    have b4 := st_lt (lim := 67108864) (s := s3') b3.1
    obtain ⟨a4, s4, e4⟩ : ∃ a4 s4, st cs s3' 67108864 = (a4, s4) := ⟨_, _, rfl⟩
    rw [e4] at rd9 b4
    rw [e4]
    simp only [] at rd9 b4 ⊢
    simp -implicitDefEqProofs
    refine unsigned58 (s := s4) rd9 hcl b4.1 (fun h10 rd10 w10 => ?_)
    have b5 := st_lt (lim := 67108864) (s := s4) b4.1
    obtain ⟨a5, s5', e5⟩ : ∃ a5 s5, st cs s4 67108864 = (a5, s5) := ⟨_, _, rfl⟩
    rw [e5] at rd10 b5
    rw [e5]
    simp only [] at rd10 b5 ⊢
    simp -implicitDefEqProofs
    have hpr := prS_of hop hmark (by rw [hL]; exact e1) e2 e3 e4 e5
    have hw10 : Wst hb r hb h10 := hw.trans ((rst w6).trans ((rst w7).trans ((rst w8).trans ((rst w9).trans (rst w10)))))
    have wr : Rst r h' h10 := w6.trans (w7.trans (w8.trans (w9.trans w10)))
    refine done39 rd10 hcl b5.1 ?_
    obtain ⟨p5, x5⟩ := s5'
    simp only [] at hpr rd10 b5 ⊢
    by_cases hx : x5 = 0
    · subst hx
      by_cases hlt2 : p5 < cs.length
      · rw [if_pos ⟨rfl, hlt2⟩]
        simp -implicitDefEqProofs
        refine scp_to rfl ?_
        simp -implicitDefEqProofs
        refine bad 15 h10 ?_ (by decide) (old _ hw10)
        rw [hpr]; simp [hlt2]
      · rw [if_neg (by omega)]
        simp -implicitDefEqProofs
        have he0 : e = 0 := by
          rcases Nat.eq_zero_or_pos e with h9 | h9
          · exact h9
          · exfalso
            have q : ∀ {s : Nat × Nat} {lim a : Nat} {s' : Nat × Nat}, st cs s lim = (a, s') → s.2 ≠ 0 → s'.2 ≠ 0 := by
              intro s lim a s' h1 h2
              unfold st at h1
              rw [if_neg h2] at h1
              cases h1; exact h2
            exact (q e5 (q e4 (q e3 (q e2 (q e1 (by omega)))))) rfl
        have hm10 : Mine hb h10 2 (acc.map ecells) vv := by
          obtain ⟨x1, x2⟩ := hm
          exact ⟨x1, x2.imp id fun ⟨q, fz, a1, a2, a3, a4⟩ => ⟨q, fz, a1, a2, by rw [wr.1]; exact a3, by rw [wr.2 q (by omega)]; exact a4⟩⟩
        have hens : Ens (cfgR ro) h10 vv acc := hm10.sl
        have hpr2 := hpr
        simp only [ne_eq, not_true_eq_false, if_false, hlt2, hl he0] at hpr2
        refine pright59 (p := ⟨0, acc, a1, a2, a3, a4, a5⟩) hens hal ⟨b1.2, b2.2, b3.2, b4.2, b5.2⟩ ?_
        by_cases hr : rightB acc = true ∧ a2 ≤ a1
        · have hpr3 : prS bs = ⟨0, acc, a1, a2, a3, a4, a5⟩ := by rw [hpr2, if_neg (by simp [hr.1, hr.2])]
          simp -implicitDefEqProofs [hr.1, hr.2]
          rw [hpr3] at hq2
          exact hq2 vv h10 (old _ hw10) rfl (hm10.base k12.1)
        · have hpr3 : prS bs = .bad 11 := by
            rw [hpr2, if_pos]
            cases h9 : rightB acc with
            | false => exact .inl rfl
            | true => exact .inr (fun h => hr ⟨h9, h⟩)
          have hb' : (rightB acc && decide (a2 ≤ a1)) = false := by
            cases h9 : rightB acc with
            | false => rfl
            | true => simp only [Bool.true_and]; exact decide_eq_false (fun h => hr ⟨h9, h⟩)
          simp only [hb']
          simp -implicitDefEqProofs
          refine scp_to rfl ?_
          simp -implicitDefEqProofs
          exact bad 11 h10 hpr3 (by decide) (old _ hw10)
    · rw [if_neg (by omega)]
      simp -implicitDefEqProofs [hx]
      refine scp_to rfl ?_
      simp -implicitDefEqProofs
      refine bad x5 h10 ?_ hx (old _ hw10)
      rw [hpr]; simp [hx]
  obtain ⟨I, hI⟩ : ∃ I : Nat → List AVal → AHeap → Prop, I = fun m env h' => ∃ (i p e : Nat) (acc : List En) (vv : AVal), i + m = n ∧ Wst hb r hb h' ∧ RdAt h' r cs p e ∧ p ≤ cs.length ∧ Mine hb h' 2 (acc.map ecells) vv ∧ acc.length = i ∧
      (e = 0 → lpS cs (n - i) p acc = listS cs) ∧ (e ≠ 0 → i = n ∧ (listS cs).2 = (p, e)) ∧ n ≤ 65536 ∧ env = (.dead :: .dead :: .cell [.nils, .int .i64 0, .int .i64 0, .cplx .f64 0 0, .cplx .f64 0 0] :: .dead :: .cell [vv, .int .i64 0, .int .i64 0, .cplx .f64 0 0, .cplx .f64 0 0] :: .ptr r 0 :: .dead :: .dead :: .dead :: .dead :: .dead :: .dead :: .dead :: .dead :: .dead :: .dead :: .dead :: .dead :: .dead :: .dead :: .dead :: .dead :: .int .u64 n :: .int .u64 i :: .dead :: .dead :: .dead :: .dead :: .dead :: .dead :: .dead :: .dead :: .dead :: .dead :: .dead :: .dead :: .dead :: .dead :: .dead :: .dead :: .dead :: .dead :: .dead :: .dead :: .dead :: .dead :: .dead :: .dead :: .dead :: .dead :: .dead :: .dead :: .dead :: .dead :: .dead :: .dead :: .dead :: .dead :: .dead :: .dead :: .dead :: .dead :: .dead :: .dead :: .dead :: .dead :: .dead :: .dead :: .dead :: .dead :: .dead :: .dead :: .dead :: .dead :: []) := ⟨_, rfl⟩
  refine loop_of I ?_ n (by
    rw [hI]
    refine ⟨0, p, x, [], .nils, by omega, s5, rd5, ?_, Mine.nil _ _ _, rfl, fun hx => ?_, fun hx => ⟨?_, ?_⟩, ?_, rfl⟩
    · by_cases hx : x = 0
      · exact (f1 hx).2.1
      · rw [(f2 hx).1]; omega
    · unfold listS; rw [show rdNum cs 1 65536 = (n, p, x) from hrd]; simp [hx]
    · exact (f2 hx).2.symm
    · unfold listS; rw [show rdNum cs 1 65536 = (n, p, x) from hrd]; simp [hx]
    · by_cases hx : x = 0
      · exact (f1 hx).2.2
      · rw [(f2 hx).2]; decide)
  rintro m env h' hi
  rw [hI] at hi
  obtain ⟨i, p, e, acc, vv, hin, hw, rd, hp, hm, hal, he0, he1, hn6, rfl⟩ := hi
  have hwi : IntKind.u64.wrap ((i : Int) + 1) = ((i + 1 : Nat) : Int) := by rw [wrap64]; omega
  simp -implicitDefEqProofs
  refine orD (fun h6 => ?_) (fun h6 => ?_)
  · have he : e = 0 := by
      rcases Nat.eq_zero_or_pos e with h | h
      · exact h
      · have := (he1 (by omega)).1; omega
    subst he
    have hlp := he0 rfl
    rw [show n - i = (n - (i + 1)) + 1 by omega] at hlp
    simp -implicitDefEqProofs
    refine num37 rd hcl hp (limit := 65535) (by decide) (fun _ a1 p1 e1 h7 hr1 rd7 s7 => ?_) (fun h => absurd rfl h)
    obtain ⟨g1, g2, g3⟩ := rdGo_lt hr1
    have hp1 : p1 ≤ cs.length := by
      by_cases hx : e1 = 0
      · exact (g1 hx).2.1
      · rw [(g2 hx).1]; exact hp
    have hm7 : Mine hb h7 2 (acc.map ecells) vv := by
      obtain ⟨x1, x2⟩ := hm
      exact ⟨x1, x2.imp id fun ⟨q, fz, a1, a2, a3, a4⟩ => ⟨q, fz, a1, a2, by rw [s7.1]; exact a3, by rw [s7.2 q (by omega)]; exact a4⟩⟩
    have w7 := hw.trans (rst s7)
    have a1b : a1 < 65536 := by
      by_cases hx : e1 = 0
      · have := (g1 hx).2.2; omega
      · rw [(g2 hx).2]; decide
    have c1 : IntKind.u16.wrap (a1 : Int) = (a1 : Int) := by rw [wrap16]; omega
    simp -implicitDefEqProofs [c1]
    by_cases hx1 : e1 = 0
    · subst hx1
      refine num37 rd7 hcl hp1 (limit := 268435456) (by decide) (fun _ b p2 e2 h8 hr2 rd8 s8 => ?_) (fun h => absurd rfl h)
      obtain ⟨q1, q2, q3⟩ := rdGo_lt hr2
      have hp2 : p2 ≤ cs.length := by
        by_cases hx : e2 = 0
        · exact (q1 hx).2.1
        · rw [(q2 hx).1]; exact hp1
      have hbb : b < 4294967296 := by
        by_cases hx : e2 = 0
        · have := (q1 hx).2.2; omega
        · rw [(q2 hx).2]; decide
      have c2 : IntKind.u32.wrap (b : Int) = (b : Int) := by rw [wrap32]; omega
      have hm8 : Mine hb h8 2 (acc.map ecells) vv := by
        obtain ⟨x1, x2⟩ := hm7
        exact ⟨x1, x2.imp id fun ⟨q, fz, a1, a2, a3, a4⟩ => ⟨q, fz, a1, a2, by rw [s8.1]; exact a3, by rw [s8.2 q (by omega)]; exact a4⟩⟩
      have w8 := w7.trans (rst s8)
      obtain ⟨v9, h9, x1, m9, n9, o9⟩ := (hm8.keep ((Old.refl h8).push (.row 2 false (ecells (a1, b))))).append1G (bytes := 8) (e := ecells (a1, b)) (by omega) rfl (by simp; omega) (by have := w8.1; simp; omega)
      have rd9 : RdAt h9 r cs p2 e2 := ⟨by rw [o9 r hrb, AHeap.get_push, if_neg (by have := rd8.2; omega)]; exact rd8.1, by simp at n9; have := rd8.2; omega⟩
      have w9 : Wst hb r hb h9 := ⟨by simp at n9; have := w8.1; omega, fun o ho hne => by rw [o9 o ho, AHeap.get_push, if_neg (by have := w8.1; omega)]; exact w8.2 o ho hne⟩
      have hv9 := Mine.cells m9
      simp only [ecells] at x1
      rw [lpS_step hr1 hr2] at hlp
      simp only [ne_eq, not_true_eq_false, if_false] at hlp
      simp -implicitDefEqProofs [c2, buildSliceR, reps, x1, hv9]
      refine err38 rd9 ?_
      simp -implicitDefEqProofs
      refine orD (fun h10 => ?_) (fun h10 => ?_)
      · have h10 : e2 = 0 := by omega
        subst h10
        simp only [not_true_eq_false, if_false] at hlp
        obtain ⟨i1, hi1⟩ : ∃ x : Int, x = ((i + 1 : Nat) : Int) := ⟨_, rfl⟩
        rw [← hi1] at hwi
        simp -implicitDefEqProofs [hwi]
        exact .mk (m := m - 1) (by omega) (by
          rw [hI]
          exact ⟨i + 1, p2, 0, acc ++ [(a1, b)], v9, by omega, w9, rd9, hp2, by rw [List.map_append]; exact m9, by simp [hal], fun _ => hlp, fun h => absurd rfl h, hn6, by rw [hi1]⟩)
      · have h10 : e2 ≠ 0 := by omega
        rw [if_pos h10] at hlp
        simp -implicitDefEqProofs
        exact tail _ _ _ _ h9 p2 e2 (acc ++ [(a1, b)]) v9 w9 rd9 hp2 (by rw [← hlp]) (fun h => absurd h h10) (by rw [List.map_append]; exact m9) (by simp; omega)
    · refine num37 rd7 hcl hp1 (limit := 268435456) (by decide) (fun h => absurd (by omega) hx1) (fun _ => ?_)
      obtain ⟨v9, h9, x1, m9, n9, o9⟩ := (hm7.keep ((Old.refl h7).push (.row 2 false (ecells (a1, 0))))).append1G (bytes := 8) (e := ecells (a1, 0)) (by omega) rfl (by simp; omega) (by have := w7.1; simp; omega)
      have rd9 : RdAt h9 r cs p1 e1 := ⟨by rw [o9 r hrb, AHeap.get_push, if_neg (by have := rd7.2; omega)]; exact rd7.1, by simp at n9; have := rd7.2; omega⟩
      have w9 : Wst hb r hb h9 := ⟨by simp at n9; have := w7.1; omega, fun o ho hne => by rw [o9 o ho, AHeap.get_push, if_neg (by have := w7.1; omega)]; exact w7.2 o ho hne⟩
      have c2 : IntKind.u32.wrap 0 = 0 := by decide
      have hv9 := Mine.cells m9
      simp only [ecells] at x1
      have hlp2 : (listS cs).2 = (p1, e1) := by
        rw [← hlp, lpS, hr1]; simp [hx1]
      simp at x1
      simp -implicitDefEqProofs [c2, buildSliceR, reps, x1, hv9]
      refine err38 rd9 ?_
      simp -implicitDefEqProofs [hx1]
      exact tail _ _ _ _ h9 p1 e1 (acc ++ [(a1, 0)]) v9 w9 rd9 hp1 hlp2 (fun h => absurd h hx1) (by rw [List.map_append]; exact m9) (by simp; omega)
  · have hni : n - i = 0 := by omega
    simp -implicitDefEqProofs
    refine tail _ _ _ _ h' p e acc vv hw rd hp ?_ (fun hx => ?_) hm (by omega)
    · by_cases hx : e = 0
      · subst hx
        have hlp := he0 rfl
        rw [hni, lpS] at hlp
        rw [← hlp]
      · exact (he1 hx).2
    · have hlp := he0 hx
      rw [hni, lpS] at hlp
      rw [← hlp]
end
end Go.Proofs.Ytomhcjiefmaopaa
