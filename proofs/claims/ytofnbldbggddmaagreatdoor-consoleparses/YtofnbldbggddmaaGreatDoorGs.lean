/-
  A part of the proof of ConsoleParses, over the seat YtofnbldbggddmaaGreatDoor: for every input the law returns true, and the input reads as it did.
-/
import Derived.Test.YtofnbldbggddmaaGreatDoorGr
import Derived.Test.YtofnbldbggddmaaGreatDoorRows
import Derived.Test.YtofnbldbggddmaaGreatDoorCards
import Derived.ProofKit
import Derived.Handed
import Derived.LaidLaws
import Derived.LaidOnce
import Derived.MakeChecks
import Derived.SevenTiedAt
set_option linter.all false
set_option linter.all false
set_option maxRecDepth 1000000
set_option maxHeartbeats 4000000
namespace Go.Proofs.YtofnbldbggddmaaGreatDoor
open Go Go.RowKit Go.Proofs Go.ChangeShapes Go.WideShapes Go.ChangeAt
theorem own : ownKnob Tryz.prog.godebug = none := by kernel_rfl
theorem laidOut : laidOutB Tryz.prog = true := by kernel_rfl
abbrev laidL : List (String × DataW Unit) := [("math/bits.deBruijn32tab", YtofnbldbggddmaaGreatDoor.Rows.laid_math_bits_deBruijn32tab), ("math/bits.deBruijn64tab", YtofnbldbggddmaaGreatDoor.Rows.laid_math_bits_deBruijn64tab), ("internal/strconv.uint64pow10", YtofnbldbggddmaaGreatDoor.Rows.laid_internal_strconv_uint64pow10), ("unicode/utf8.acceptRanges", YtofnbldbggddmaaGreatDoor.Rows.laid_unicode_utf8_acceptRanges), ("strconv.ErrRange", YtofnbldbggddmaaGreatDoor.Rows.laid_strconv_ErrRange), ("strconv.ErrSyntax", YtofnbldbggddmaaGreatDoor.Rows.laid_strconv_ErrSyntax), ("copyist/ident.root", YtofnbldbggddmaaGreatDoor.Rows.laid_copyist_ident_root), ("copyist/console.words", YtofnbldbggddmaaGreatDoor.Rows.laid_copyist_console_words), ("unicode/utf8.first", YtofnbldbggddmaaGreatDoor.Rows.laid_unicode_utf8_first)]
theorem laid_plain (W : World) : laidMetH Tryz.prog laidL W = laidMet Tryz.prog laidL W := by
  have h : (laidL.filter fun x => x.2.handleName?.isSome) = [] := by kernel_rfl
  unfold laidMetH
  rw [h]
theorem laid_get {P : Program} {w : World} : ∀ {l : List (String × DataW Unit)} {ps}, DataW.LaidVars P w l ps → ∀ n d, (n, d) ∈ l → ∃ g t cs fuel p, P.globalNamed n = some g ∧ (P.globals[g]?).map (·.type) = some t ∧ w.var? P n = some cs ∧ DataW.trod (fun _ => ()) P w 0 (fun _ => true) false fuel t cs.toList = some (d, p)
  | [], _, _, _, _, h => by cases h
  | (n0, d0) :: l, ps, hv, n, d, h => by
    obtain ⟨g, t, cs, fuel, p, q, e1, e2, e3, e4, e5, _⟩ := hv
    rcases List.mem_cons.1 h with h | h
    · cases h; exact ⟨g, t, cs, fuel, p, e1, e2, e3, e4⟩
    · exact laid_get e5 n d h
theorem ro_of {W : World} {n : String} {g : Nat} {cs : Array Value} {l : List AVal} (hg : Tryz.prog.globalNamed n = some g) (h3 : W.var? Tryz.prog n = some cs) (hpl : placeW g = (g, 0)) (hl : (cs.toList.takeWhile oneC).map absC = l) : roW W g = some l := by
  unfold World.var? at h3
  rw [hg] at h3
  simp only [Option.bind_some] at h3
  unfold roW
  rw [hpl]
  split at h3
  · rename_i c _ _ hh
    cases h3
    simp only [hh, List.drop_zero]
    rw [hl]
  · cases h3
theorem root_of {W : World} (h : laidMetH Tryz.prog laidL W) : roW W 9 = some [.int .u16 0, .int .u32 0] := by
  rw [laid_plain] at h
  obtain ⟨ps, hv, _, _⟩ := h
  obtain ⟨g, t, cs, fuel, p, e1, e2, e3, e4⟩ := laid_get hv "copyist/ident.root" YtofnbldbggddmaaGreatDoor.Rows.laid_copyist_ident_root (by simp)
  have hg : Tryz.prog.globalNamed "copyist/ident.root" = some 9 := by kernel_rfl
  rw [hg] at e1
  cases e1
  have ht : (Tryz.prog.globals[(9 : Nat)]?).map (·.type) = some 234 := by kernel_rfl
  rw [ht] at e2
  cases e2
  obtain ⟨xs, n, _, hx, hl, hxl, hp⟩ := DataW.trod_struct Tryz.underlying234 e4
  rw [co234] at hl
  obtain ⟨a, b, hab⟩ : ∃ a b, cs.toList = [a, b] := by
    match cs.toList, hl with
    | [a, b], _ => exact ⟨a, b, rfl⟩
  rw [hab] at hp
  have h0 := hp 0 { name := "R", type := 135, offset := 0, embedded := false, tag := "", pkgPath := "", byteOffset := 0 } rfl
  have h1 := hp 1 { name := "N", type := 35, offset := 1, embedded := false, tag := "", pkgPath := "", byteOffset := 4 } rfl
  simp only [co135, co35, List.drop_zero, List.drop_succ_cons, List.take_succ_cons, List.take_zero] at h0 h1
  have hxs : xs.length = 2 := by rw [hxl]; rfl
  have hx0 : xs[0]? = some (xs[0]'(by omega)) := List.getElem?_eq_getElem _
  have hx1 : xs[1]? = some (xs[1]'(by omega)) := List.getElem?_eq_getElem _
  rw [hx0] at h0
  rw [hx1] at h1
  obtain ⟨n0, k0, k1, _⟩ := DataW.trod_int Tryz.underlying135 h0
  obtain ⟨n1, l0, l1, _⟩ := DataW.trod_int Tryz.underlying35 h1
  have hd : xs.map (·.1) = [.lit (.int .u16 0), .lit (.int .u32 0)] := by
    have := congrArg (·.1) hx
    simp only [YtofnbldbggddmaaGreatDoor.Rows.laid_copyist_ident_root, DataW.agg.injEq] at this
    exact this.symm
  have hd0 := congrArg (·[0]?) hd
  have hd1 := congrArg (·[1]?) hd
  simp only [List.getElem?_map, hx0, hx1, k1, l1, Option.map_some, List.getElem?_cons_zero, List.getElem?_cons_succ, Option.some.injEq, DataW.lit.injEq, Lit.int.injEq, true_and] at hd0 hd1
  have ha : a = .int .u16 0 := by have := List.cons.inj k0; rw [this.1, hd0]
  have hb : b = .int .u32 0 := by have := List.cons.inj l0; rw [this.1, hd1]
  exact ro_of hg e3 (by unfold placeW roBase; rw [if_pos (by decide)]) (by rw [hab, ha, hb]; rfl)
theorem words_of {W : World} (h : laidMetH Tryz.prog laidL W) : roW W 0 = some [.str [], .str [100, 111], .str [117, 110, 100, 111], .str [114, 101, 100, 111], .str [99, 111, 109, 101], .str [97, 115, 107], .str [115, 116, 111, 114, 101]] := by
  rw [laid_plain] at h
  obtain ⟨ps, hv, _, _⟩ := h
  obtain ⟨g, t, cs, fuel, p, e1, e2, e3, e4⟩ := laid_get hv "copyist/console.words" YtofnbldbggddmaaGreatDoor.Rows.laid_copyist_console_words (by simp)
  have hg : Tryz.prog.globalNamed "copyist/console.words" = some 0 := by kernel_rfl
  rw [hg] at e1
  cases e1
  have ht : (Tryz.prog.globals[(0 : Nat)]?).map (·.type) = some 90 := by kernel_rfl
  rw [ht] at e2
  cases e2
  obtain ⟨xs, n, _, hx, hl, hxl, hp⟩ := DataW.trod_array (n := 7) (e := 9) (by kernel_rfl) e4
  have hcl : Tryz.prog.cellsOf 90 = 7 := by kernel_rfl
  rw [hcl] at hl
  obtain ⟨a, b, c, d, e, f, i, hab⟩ : ∃ a b c d e f i, cs.toList = [a, b, c, d, e, f, i] := by
    match cs.toList, hl with
    | [a, b, c, d, e, f, i], _ => exact ⟨a, b, c, d, e, f, i, rfl⟩
  have hcs : Tryz.prog.cellsOf 9 = 1 := by kernel_rfl
  have hd : xs.map (·.1) = [.lit (.string []), .lit (.string [100, 111]), .lit (.string [117, 110, 100, 111]), .lit (.string [114, 101, 100, 111]), .lit (.string [99, 111, 109, 101]), .lit (.string [97, 115, 107]), .lit (.string [115, 116, 111, 114, 101])] := by
    have := congrArg (·.1) hx
    simp only [YtofnbldbggddmaaGreatDoor.Rows.laid_copyist_console_words, DataW.agg.injEq] at this
    exact this.symm
  have key : ∀ (j : Nat) (x : Value) (w : List UInt8), j < 7 → (cs.toList.drop j).take 1 = [x] → (xs.map (·.1))[j]? = some (.lit (.string w)) → oneC x = true ∧ absC x = .str w := by
    intro j x w hj h1 h2
    have h3 := hp j hj
    rw [hcs, Nat.mul_one, h1] at h3
    rw [List.getElem?_map] at h2
    cases hxj : xs[j]? with
    | none => rw [hxj] at h2; cases h2
    | some y =>
      rw [hxj] at h2 h3
      obtain ⟨s, k1, k2, _⟩ := DataW.trod_string Tryz.underlying9 h3
      simp only [List.cons.injEq, and_true] at k1
      subst k1
      subst k2
      simp only [Option.map_some, Option.some.injEq, DataW.lit.injEq, Lit.string.injEq] at h2
      rw [← h2]; exact ⟨rfl, rfl⟩
  refine ro_of hg e3 (by unfold placeW roBase; rw [if_pos (by decide)]) ?_
  rw [hab] at key ⊢
  rw [hd] at key
  have k0 := key 0 a _ (by decide) rfl rfl
  have k1 := key 1 b _ (by decide) rfl rfl
  have k2 := key 2 c _ (by decide) rfl rfl
  have k3 := key 3 d _ (by decide) rfl rfl
  have k4 := key 4 e _ (by decide) rfl rfl
  have k5 := key 5 f _ (by decide) rfl rfl
  have k6 := key 6 i _ (by decide) rfl rfl
  simp [List.takeWhile, k0.1, k0.2, k1.1, k1.2, k2.1, k2.2, k3.1, k3.2, k4.1, k4.2, k5.1, k5.2, k6.1, k6.2]
/-- a world in which the given variables stand -/
noncomputable def w0 (os : Os) : World :=
  let w := World.holding Tryz.prog os ⟨#[.cells #[.string ⟨#[105, 110, 118, 97, 108, 105, 100, 32, 115, 121, 110, 116, 97, 120]⟩] 262 (0, 0), .cells #[.string ⟨#[118, 97, 108, 117, 101, 32, 111, 117, 116, 32, 111, 102, 32, 114, 97, 110, 103, 101]⟩] 262 (0, 0)], #[], []⟩
  let n := (World.settled Tryz.prog os).heap.size
  let put := fun (w : World) (g : Nat) (c : Array Value) => { w with heap := w.heap.modify g fun | .cells _ t f => .cells c t f | x => x }
  let w := put w 0 #[.string ⟨#[]⟩, .string ⟨#[100, 111]⟩, .string ⟨#[117, 110, 100, 111]⟩, .string ⟨#[114, 101, 100, 111]⟩, .string ⟨#[99, 111, 109, 101]⟩, .string ⟨#[97, 115, 107]⟩, .string ⟨#[115, 116, 111, 114, 101]⟩]
  let w := put w 2 (Go.Pinned.utf8FirstZ.map fun (n : Nat) => Value.int .u8 (n : Int)).toArray
  let w := put w 3 #[.int .u8 128, .int .u8 191, .int .u8 160, .int .u8 191, .int .u8 128, .int .u8 159, .int .u8 144, .int .u8 191, .int .u8 128, .int .u8 143, .int .u8 0, .int .u8 0, .int .u8 0, .int .u8 0, .int .u8 0, .int .u8 0, .int .u8 0, .int .u8 0, .int .u8 0, .int .u8 0, .int .u8 0, .int .u8 0, .int .u8 0, .int .u8 0, .int .u8 0, .int .u8 0, .int .u8 0, .int .u8 0, .int .u8 0, .int .u8 0, .int .u8 0, .int .u8 0]
  let w := put w 4 #[.iface 260 (.pointer (some ⟨n, 0, none⟩))]
  let w := put w 5 #[.iface 260 (.pointer (some ⟨n + 1, 0, none⟩))]
  let w := put w 6 #[.int .u64 1, .int .u64 10, .int .u64 100, .int .u64 1000, .int .u64 10000, .int .u64 100000, .int .u64 1000000, .int .u64 10000000, .int .u64 100000000, .int .u64 1000000000, .int .u64 10000000000, .int .u64 100000000000, .int .u64 1000000000000, .int .u64 10000000000000, .int .u64 100000000000000, .int .u64 1000000000000000, .int .u64 10000000000000000, .int .u64 100000000000000000, .int .u64 1000000000000000000, .int .u64 10000000000000000000]
  let w := put w 7 #[.int .u8 0, .int .u8 1, .int .u8 28, .int .u8 2, .int .u8 29, .int .u8 14, .int .u8 24, .int .u8 3, .int .u8 30, .int .u8 22, .int .u8 20, .int .u8 15, .int .u8 25, .int .u8 17, .int .u8 4, .int .u8 8, .int .u8 31, .int .u8 27, .int .u8 13, .int .u8 23, .int .u8 21, .int .u8 19, .int .u8 16, .int .u8 7, .int .u8 26, .int .u8 12, .int .u8 18, .int .u8 6, .int .u8 11, .int .u8 5, .int .u8 10, .int .u8 9]
  put w 8 #[.int .u8 0, .int .u8 1, .int .u8 56, .int .u8 2, .int .u8 57, .int .u8 49, .int .u8 28, .int .u8 3, .int .u8 61, .int .u8 58, .int .u8 42, .int .u8 50, .int .u8 38, .int .u8 29, .int .u8 17, .int .u8 4, .int .u8 62, .int .u8 47, .int .u8 59, .int .u8 36, .int .u8 45, .int .u8 43, .int .u8 51, .int .u8 22, .int .u8 53, .int .u8 39, .int .u8 33, .int .u8 30, .int .u8 24, .int .u8 18, .int .u8 12, .int .u8 5, .int .u8 63, .int .u8 55, .int .u8 48, .int .u8 27, .int .u8 60, .int .u8 41, .int .u8 37, .int .u8 16, .int .u8 46, .int .u8 35, .int .u8 44, .int .u8 21, .int .u8 52, .int .u8 32, .int .u8 23, .int .u8 11, .int .u8 54, .int .u8 26, .int .u8 40, .int .u8 15, .int .u8 34, .int .u8 20, .int .u8 31, .int .u8 10, .int .u8 25, .int .u8 14, .int .u8 19, .int .u8 9, .int .u8 13, .int .u8 8, .int .u8 7, .int .u8 6]
/-- what is read, if no place stands twice -/
def laidOnce (P : Program) (w : World) (fuel M : Nat) (ns : List String) : Option (List (String × DataW Unit)) :=
  (DataW.laidRun P w fuel ns).bind fun x => if nodupBits M x.2 0 && laidRowsB P w x.2 then some x.1 else none
theorem laidOnce_met {P : Program} {w : World} {l : List (String × DataW Unit)} (fuel M : Nat) (h : laidOnce P w fuel M (l.map (·.1)) = some l) : laidMet P l w := by
  unfold laidOnce at h
  simp only [Option.bind_eq_some_iff] at h
  obtain ⟨x, hx, h⟩ := h
  split at h
  · rename_i hb
    simp only [Bool.and_eq_true] at hb
    simp only [Option.some.injEq] at h
    exact laidMet_of_run (ps := x.2) fuel (by rw [hx, ← h]) (decide_eq_true (nodupBits_sound hb.1).1) hb.2
  · cases h
theorem w0_met (os : Os) (args : Array Value) : laidMetH Tryz.prog laidL ((w0 os).forCall (fun _ _ => 0) ⟨#[], args, []⟩).memory := by
  rw [laid_plain]
  exact laidOnce_met 8 300 (by kernel_rfl)
end Go.Proofs.YtofnbldbggddmaaGreatDoor
