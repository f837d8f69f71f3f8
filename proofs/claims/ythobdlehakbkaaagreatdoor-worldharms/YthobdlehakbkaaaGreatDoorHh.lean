/-
  A part of the proof of WorldHarms, over the seat YthobdlehakbkaaaGreatDoor: for every input the law returns true, and the input reads as it did.
-/
import Derived.Test.YthobdlehakbkaaaGreatDoorGn
import Derived.Test.YthobdlehakbkaaaGreatDoorHg
import Derived.ProofKit
import Derived.Test.YthobdlehakbkaaaGreatDoorRows
import Derived.Handed
import Derived.LaidLaws
import Derived.MakeChecks
set_option linter.all false
set_option linter.all false
set_option maxRecDepth 100000
set_option maxHeartbeats 4000000
namespace Go.Proofs.YthobdlehakbkaaaGreatDoor
open Go Go.RowKit Go.Proofs
section
variable {ro : Nat → Option (List AVal)}
theorem law3 {v w : AVal} {b more : List UInt8} {kind at_ : Int} {bits : Nat} (hroot : ro 0 = some [.int .u16 0, .int .u32 0]) (hv : ∀ h, BS (cfgR ro) h v b) (hw : ∀ h, BS (cfgR ro) h w more) (hbits : bits < 2 ^ 32)
    (ha1 : -2 ^ 63 ≤ at_) (ha2 : at_ < 2 ^ 63) : Ev (cfgR ro) 3 [v, .agg [.int .i64 kind, .int .i64 at_, .int .u32 (bits : Nat), w]] heap0 (fun v h => v = .bool true) := by
  refine Ev.wp rfl rfl Tryz.func3 rfl ?_
  obtain ⟨ha, hrun⟩ := anchor4 (ro := ro) hroot
  have hL : ∀ h, lenR (cfgR ro) h 22 v = .ok (.int .i64 b.length) := fun h => (hv h).lenR un22
  have hL2 : ∀ h, lenR (cfgR ro) h 22 w = .ok (.int .i64 more.length) := fun h => (hw h).lenR un22
  have same : ∀ v, sameRes (.ok v) v = true := AVal.beq_refl
  have cv : ∀ h, convR (cfgR ro) h 22 9 v = .ok (.str b) := fun h => (hv h).conv un22 un9 un5
  simp -implicitDefEqProofs [Tryz.f3, Ev.run hrun, hL, hL2]
  by_cases g1 : 1000 < b.length
  · have g1' : (1000 : Int) < (b.length : Int) := by omega
    simp -implicitDefEqProofs [g1, g1']
  have g1' : ¬ (1000 : Int) < (b.length : Int) := by omega
  by_cases g2 : 1000 < more.length
  · have g2' : (1000 : Int) < (more.length : Int) := by omega
    simp -implicitDefEqProofs [g1, g1', hL2, g2, g2']
  have g2' : ¬ (1000 : Int) < (more.length : Int) := by omega
  simp -implicitDefEqProofs [g1, g1', hL2, g2, g2', -convR, cv]
  refine to5 (hv ha) (hw ha) (by omega) (by omega) hbits ha1 ha2 (fun v5 h5 o5 b5 => ?_)
  have c5 := b5.conv (s := 22) (d := 9) (e := 5) un22 un9 un5
  simp -implicitDefEqProofs [-convR, c5, cv, same]
  refine ⟨.inl (by decide +kernel), ?_⟩
  obtain ⟨h6, hh6⟩ : ∃ h6, h6 = h5.push (.row 1 true (b.map fun x => AVal.int .u8 x.toNat)) := ⟨_, rfl⟩
  rw [← hh6]
  have b6 : BM h5 h6 (.sl h5.next 0 b.length) b := ⟨bes_one _, .inr ⟨h5.next, true, by rw [bes_len], Nat.le_refl _, by rw [hh6]; simp, by rw [hh6, bes_flat1, AHeap.get_push, if_pos rfl]; rfl⟩⟩
  refine harm6 b6.toBS (hw h6) (fun o f l q e => by cases e) (by omega) (by omega) hbits ha1 ha2 (fun v7 h7 o7 b7 => ?_)
  have c7 := b7.conv (s := 22) (d := 9) (e := 5) un22 un9 un5
  simp -implicitDefEqProofs [-convR, c7, cv, same]
  have o57 : Old h5 h7 := ((Old.refl h5).push _).trans (by rw [← hh6]; exact o7)
  have d5 : ∀ h', Old h5 h' → convR (cfgR ro) h' 22 9 v5 = .ok (.str (harmS b kind at_ bits more)) := fun h' o => (b5.old o).conv un22 un9 un5
  have d55 := d5 h5 (Old.refl h5)
  have d57 := d5 h7 o57
  refine ⟨by first | exact .inl (by decide +kernel) | exact .inr (by simp -implicitDefEqProofs [-convR, c7, cv, d55, d57, same]), ?_⟩
  first | exact ⟨.inl (by decide +kernel), .inl (by decide +kernel)⟩ | exact ⟨.inl (by decide +kernel), .inl (by decide +kernel), .inl (by decide +kernel)⟩ | exact ⟨.inl (by decide +kernel), .inl (by decide +kernel), rfl⟩
end
end Go.Proofs.YthobdlehakbkaaaGreatDoor
set_option linter.all false
set_option maxRecDepth 100000
set_option maxHeartbeats 4000000
namespace Go.Proofs.YthobdlehakbkaaaGreatDoor
open Go Go.RowKit Go.Proofs Go.ChangeShapes Go.WideShapes Go.ChangeAt
theorem nat_of {k : IntKind} {t : Nat} {ro n} {x : List AVal} (ht : Tryz.prog.underlying t = some (.int k)) (hm : k.min = 0) (h : Rdg Tryz.prog ro n t x) : ∃ a : Nat, x = [.int k (a : Nat)] ∧ (a : Int) ≤ k.max := by
  obtain ⟨i, h0, l0, u0⟩ := rdg_int ht h
  rw [hm] at l0
  obtain ⟨a, rfl⟩ := Int.eq_ofNat_of_zero_le l0
  exact ⟨a, h0, u0⟩
theorem byte_of {ro n} {x : List AVal} (h : Rdg Tryz.prog ro n 5 x) : ∃ b : UInt8, x = [bcell b] := by
  obtain ⟨a, rfl, ha⟩ := nat_of Tryz.underlying5 (by decide) h
  have hx : IntKind.u8.max = 255 := by decide
  rw [hx] at ha
  refine ⟨UInt8.ofNat a, ?_⟩
  unfold bcell
  rw [UInt8.toNat_ofNat', Nat.mod_eq_of_lt (by omega)]
theorem bytes_of : ∀ {ess : List (List AVal)}, (∀ x ∈ ess, ∃ b : UInt8, x = [bcell b]) → ∃ bs : List UInt8, ess = bes bs
  | [], _ => ⟨[], rfl⟩
  | x :: ess, h => by
    obtain ⟨b, rfl⟩ := h x (by simp)
    obtain ⟨bs, rfl⟩ := bytes_of (ess := ess) (fun y hy => h y (by simp [hy]))
    exact ⟨b :: bs, rfl⟩
theorem harm_of {ro n} {cs : List AVal} (h : Rdg Tryz.prog ro n 25 cs) : ∃ (kind at_ : Int) (bits : Nat) (w : AVal) (more : List UInt8), cs = [.int .i64 kind, .int .i64 at_, .int .u32 (bits : Nat), w] ∧ bits < 2 ^ 32 ∧ -2 ^ 63 ≤ at_ ∧ at_ < 2 ^ 63 ∧ ∀ h, BS (cfgR ro) h w more := by
  obtain ⟨hl, m, hf⟩ := rdg_struct Tryz.underlying25 h
  rw [co25] at hl
  obtain ⟨c0, c1, c2, c3, rfl⟩ : ∃ c0 c1 c2 c3, cs = [c0, c1, c2, c3] := by
    match cs, hl with
    | [c0, c1, c2, c3], _ => exact ⟨c0, c1, c2, c3, rfl⟩
  obtain ⟨kind, k0, _, _⟩ := rdg_int Tryz.underlying3 (hf 0 _ rfl)
  obtain ⟨at_, a0, a1, a2⟩ := rdg_int Tryz.underlying3 (hf 1 _ rfl)
  obtain ⟨bits, b0, b1⟩ := nat_of Tryz.underlying23 (by decide) (hf 2 _ rfl)
  obtain ⟨w, ess, q, h1, h2, h3, h4⟩ := rdg_slice Tryz.underlying22 (by rw [co5]; decide) (hf 3 _ rfl)
  rw [co5] at h3 h4
  obtain ⟨more, rfl⟩ := bytes_of (fun x hx => byte_of (h3 x hx).2)
  simp at k0 a0 b0 h1
  subst k0 a0 b0 h1
  have x32 : IntKind.u32.max = 4294967295 := by decide
  have xm : IntKind.i64.max = 9223372036854775807 := by decide
  have xn : IntKind.i64.min = -9223372036854775808 := by decide
  rw [x32] at b1
  rw [xn] at a1
  rw [xm] at a2
  exact ⟨kind, at_, bits, c3, more, rfl, by omega, by omega, by omega, fun hh => h4 _ hh rfl⟩
end Go.Proofs.YthobdlehakbkaaaGreatDoor
set_option linter.all false
set_option maxRecDepth 1000000
set_option maxHeartbeats 4000000
namespace Go.Proofs.YthobdlehakbkaaaGreatDoor
open Go Go.RowKit Go.Proofs Go.ChangeShapes Go.WideShapes Go.ChangeAt
theorem own : ownKnob Tryz.prog.godebug = none := by kernel_rfl
theorem laidOut : laidOutB Tryz.prog = true := by kernel_rfl
abbrev laidL : List (String × DataW Unit) := [("copyist/ident.root", YthobdlehakbkaaaGreatDoor.Rows.laid_copyist_ident_root)]
theorem laid_plain (W : World) : laidMetH Tryz.prog laidL W = laidMet Tryz.prog laidL W := by unfold laidMetH; rfl
theorem root_of {W : World} (h : laidMetH Tryz.prog laidL W) : roW W 0 = some [.int .u16 0, .int .u32 0] := by
  rw [laid_plain] at h
  obtain ⟨ps, ⟨g, t, cs, fuel, p, q, e1, e2, e3, e4, e5, e6⟩, _, _⟩ := h
  have hg : Tryz.prog.globalNamed "copyist/ident.root" = some 0 := by kernel_rfl
  rw [hg] at e1
  cases e1
  have ht : (Tryz.prog.globals[(0 : Nat)]?).map (·.type) = some 108 := by kernel_rfl
  rw [ht] at e2
  cases e2
  obtain ⟨xs, n, _, hx, hl, hxl, hp⟩ := DataW.trod_struct Tryz.underlying108 e4
  rw [co108] at hl
  obtain ⟨a, b, hab⟩ : ∃ a b, cs.toList = [a, b] := by
    match cs.toList, hl with
    | [a, b], _ => exact ⟨a, b, rfl⟩
  rw [hab] at hp
  have h0 := hp 0 { name := "R", type := 52, offset := 0, embedded := false, tag := "", pkgPath := "", byteOffset := 0 } rfl
  have h1 := hp 1 { name := "N", type := 23, offset := 1, embedded := false, tag := "", pkgPath := "", byteOffset := 4 } rfl
  simp only [co52, co23, List.drop_zero, List.drop_succ_cons, List.take_succ_cons, List.take_zero] at h0 h1
  have hxs : xs.length = 2 := by rw [hxl]; rfl
  have hx0 : xs[0]? = some (xs[0]'(by omega)) := List.getElem?_eq_getElem _
  have hx1 : xs[1]? = some (xs[1]'(by omega)) := List.getElem?_eq_getElem _
  rw [hx0] at h0
  rw [hx1] at h1
  obtain ⟨n0, k0, k1, _⟩ := DataW.trod_int Tryz.underlying52 h0
  obtain ⟨n1, l0, l1, _⟩ := DataW.trod_int Tryz.underlying23 h1
  have hd : xs.map (·.1) = [.lit (.int .u16 0), .lit (.int .u32 0)] := by
    have := congrArg (·.1) hx
    simp only [YthobdlehakbkaaaGreatDoor.Rows.laid_copyist_ident_root, DataW.agg.injEq] at this
    exact this.symm
  have hd0 := congrArg (·[0]?) hd
  have hd1 := congrArg (·[1]?) hd
  simp only [List.getElem?_map, hx0, hx1, k1, l1, Option.map_some, List.getElem?_cons_zero, List.getElem?_cons_succ, Option.some.injEq, DataW.lit.injEq, Lit.int.injEq, true_and] at hd0 hd1
  have ha : a = .int .u16 0 := by have := List.cons.inj k0; rw [this.1, hd0]
  have hb : b = .int .u32 0 := by have := List.cons.inj l0; rw [this.1, hd1]
  unfold World.var? at e3
  rw [hg] at e3
  simp only [Option.bind_some] at e3
  unfold roW
  have hpl : placeW (0 : Nat) = (0, 0) := by
    unfold placeW roBase
    rw [if_pos (by decide)]
  rw [hpl]
  split at e3
  · rename_i c _ _ hh
    cases e3
    simp only [hh, List.drop_zero]
    rw [hab, ha, hb]
    rfl
  · cases e3
noncomputable def w0 (os : Os) : World := World.holding Tryz.prog os ⟨#[], #[], []⟩
theorem w0_met (os : Os) (args : Array Value) : laidMetH Tryz.prog laidL ((w0 os).forCall (fun _ _ => 0) ⟨#[], args, []⟩).memory := by
  rw [laid_plain]
  exact laidMet_of_run (ps := [.cell 0 0, .cell 0 1]) 8 (by kernel_rfl) (by kernel_rfl) (by kernel_rfl)
end Go.Proofs.YthobdlehakbkaaaGreatDoor
set_option linter.all false
set_option maxRecDepth 1000000
set_option maxHeartbeats 4000000
namespace Go.Proofs.YthobdlehakbkaaaGreatDoor
open Go Go.RowKit Go.Proofs Go.ChangeShapes Go.WideShapes Go.ChangeAt
theorem worldHarms_lifted (os : Os) (started : os.Started) (H : Type) (enc : TypeId × Value → H) :
    ReturnsInHanded {} Tryz.checked os 3 .any (fun w args => (YthobdlehakbkaaaGreatDoor.Rows.worldHarmsSpec.pre enc Tryz.prog Tryz.f3 [] false w args ∧ laidMetH Tryz.prog laidL w) ∧ sizedMet enc Tryz.prog Tryz.f3 (OpenSpec.ofChange YthobdlehakbkaaaGreatDoor.Rows.worldHarmsSpec) false w args) (YthobdlehakbkaaaGreatDoor.Rows.worldHarmsSpec.post enc Tryz.prog Tryz.f3 false true false false) := by
  refine returnsInHanded_of_change_and (C := Tryz.checked) (X := fun w _ => laidMetH Tryz.prog laidL w) (fun _ _ _ hh h => h.of_heap hh) own started (by kernel_rfl) Tryz.func3
    (ChangeSpec.witness_at (enc := enc) (C := Tryz.checked) (os := os) (X := fun w _ => laidMetH Tryz.prog laidL w) false (w0 os) #[.slice none 0 0, .agg #[.int .i64 0, .int .i64 0, .int .u32 0, .slice none 0 0]] 8 rfl (by kernel_rfl) (by kernel_rfl) (by kernel_rfl) (by kernel_rfl) (by kernel_rfl) (w0_met os _)) ?_
  intro W base args ds gs before hval0 hW hcnd hsz hL _
  have hval : ∀ (j : Nat) t v, Tryz.f3.params[j]? = some t → args[j]? = some v → Value.okWide Tryz.prog W .any base t v := hval0
  have hW' := hW
  have hlt := hW.lt
  obtain ⟨p, q, hA0, hV, rfl, hfz, hnd⟩ := hW
  have hA : DataW.TrodAll enc Tryz.prog W 0 (fun _ => true) true Tryz.f3.params.toList args.toList ds p := hA0
  have hA1 := hA
  rw [Tryz.params3] at hA hval
  obtain ⟨v0, v1, d0, d1, p0, p1, rfl, rfl, rfl, h0, h1⟩ := trodAll_two hA
  obtain ⟨rfl, rfl⟩ := trodVars_none hV
  have hro := root_of hL
  obtain ⟨ess0, n0, hx0, hn0, hsl0⟩ := argSlice covAll (of_decide_eq_true (by kernel_rfl)) Tryz.underlying22 (by rw [co5]; decide) (hval 0 22 v0 rfl rfl) h0
  obtain ⟨b, rfl⟩ := bytes_of (fun x hm => byte_of (hx0 x hm).2)
  have hB : ∀ h, BS (cfgR (roW W)) h (absV v0) b := fun h => by
    have := hsl0 (cfgR (roW W)) h rfl
    rw [co5] at this
    exact this
  obtain ⟨cs, n2, hy1, hy2⟩ := argAgg covAll (of_decide_eq_true (by kernel_rfl)) Tryz.underlying25 (hval 1 25 v1 rfl rfl) h1
  obtain ⟨kind, at_, bits, w, more, rfl, m1, m2, m3, m4⟩ := harm_of hy2
  obtain ⟨k, v, h', hq, rfl⟩ := law3 hro hB m4 m1 m2 m3
  rw [← hy1] at hq
  refine (entry (c := cfg) sureC (W := W) (args := #[v0, v1]) (k := k) (v := .bool true) (h' := h') Tryz.func3 rfl rfl (by rw [show (#[v0, v1] : Array Value).toList.map absV = [absV v0, absV v1] from rfl]; exact hq)).mono fun e W' ⟨u, ι, he, hv, hb⟩ => ?_
  have hu : u = .bool true := hv
  subst hu
  refine ⟨_, he, post_below hW' (fun b sp hd => trodAll_mk1 (shut_bool Tryz.underlying4 true)) (trodAll_below laidOut hb (by kernel_rfl) hA1 (fun x hx => hlt x (by simpa using hx))) (by exact rfl) hb⟩
end Go.Proofs.YthobdlehakbkaaaGreatDoor
